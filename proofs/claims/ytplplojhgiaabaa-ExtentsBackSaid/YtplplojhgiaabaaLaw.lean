/- Plain laws on lists of extents: a good list is known by where each block stands. -/
import Derived.Test.YtplplojhgiaabaaRef
set_option linter.unusedVariables false
set_option linter.unusedSimpArgs false
set_option linter.unnecessarySimpa false
namespace Go.Proofs.Ytplplojhgiaabaa

def Ch : List X → Prop
  | [] => True
  | x :: l => One x ∧ (∀ y, l.head? = some y → Behind x y) ∧ Ch l

theorem ch_one {l : List X} (h : Ch l) : ∀ x ∈ l, One x := by
  induction l with
  | nil => simp
  | cons y l ih =>
    intro x hx
    rcases List.mem_cons.1 hx with rfl | hx
    · exact h.1
    · exact ih h.2.2 x hx
theorem ch_apart : ∀ {l : List X} {x : X}, Ch (x :: l) → ∀ y ∈ l, x.lba + x.num ≤ y.lba := by
  intro l
  induction l with
  | nil => simp
  | cons z l ih =>
    intro x h y hy
    have h1 := (h.2.1 z rfl).1
    rcases List.mem_cons.1 hy with rfl | hy
    · exact h1
    · have h2 := ih h.2.2 y hy
      have h3 := h.2.2.1
      unfold One at h3
      omega
theorem ch_length : ∀ {l : List X} {x : X}, Ch (x :: l) → x.lba + ((l.length : Int) + 1) ≤ 4096 := by
  intro l
  induction l with
  | nil => intro x h; have := h.1; unfold One at this; simp; omega
  | cons z l ih =>
    intro x h
    have h1 := (h.2.1 z rfl).1
    have h2 := ih h.2.2
    have h3 := h.1
    unfold One at h3
    simp only [List.length_cons]
    omega
theorem good_ch {l : List X} (h : ∀ i, i < l.length → OkAt l i) : Ch l := by
  induction l with
  | nil => trivial
  | cons x l ih =>
    refine ⟨(h 0 (by simp) x rfl).1, fun y hy => ?_, ih fun i hi z hz => ?_⟩
    · have h1 : (x :: l)[1]? = some y := by
        rw [List.getElem?_cons_succ, ← List.head?_eq_getElem?]; exact hy
      have hl : 1 < (x :: l).length := (List.getElem?_eq_some_iff.1 h1).1
      exact (h 1 hl y h1).2 x (by omega) rfl
    · have h1 := h (i + 1) (by simpa using hi) z (by simpa using hz)
      refine ⟨h1.1, fun p hi0 hp => h1.2 p (by omega) ?_⟩
      obtain ⟨k, rfl⟩ : ∃ k, i = k + 1 := ⟨i - 1, by omega⟩
      simpa using hp
theorem ch_good {l : List X} (h : Ch l) : ∀ i, i < l.length → OkAt l i := by
  induction l with
  | nil => simp
  | cons x l ih =>
    intro i hi z hz
    cases i with
    | zero =>
      simp only [List.getElem?_cons_zero, Option.some.injEq] at hz
      subst hz
      exact ⟨h.1, fun p h0 => by omega⟩
    | succ i =>
      simp only [List.getElem?_cons_succ] at hz
      have h1 := ih h.2.2 i (by simpa using hi) z hz
      refine ⟨h1.1, fun p _ hp => ?_⟩
      cases i with
      | zero =>
        simp at hp
        subst hp
        exact h.2.1 z (by rw [List.head?_eq_getElem?]; exact hz)
      | succ i => exact h1.2 p (by omega) (by simpa using hp)
theorem good_iff {l : List X} : Good l ↔ Ch l := by
  refine ⟨fun h => good_ch h.2, fun h => ⟨?_, ch_good h⟩⟩
  cases l with
  | nil => simp
  | cons x l =>
    have h1 := ch_length h
    have h2 := h.1
    unfold One at h2
    simp only [List.length_cons]
    omega

theorem look_app (a b : List X) (j : Int) : look (a ++ b) j = (look a j).or (look b j) := by
  induction a with
  | nil => rfl
  | cons x a ih =>
    simp only [List.cons_append, look]
    split
    · rfl
    · exact ih
theorem look_ge {l : List X} {e j : Int} (h : ∀ y ∈ l, e ≤ y.lba) (hj : j < e) : look l j = none :=
  look_none fun x hx => by have := h x hx; omega
theorem look_first {x : X} {l : List X} (h : One x) : look (x :: l) x.lba = some x.pos := by
  unfold One at h
  rw [look, if_pos (by omega)]
  congr 1
  omega
theorem look_low {x : X} {l : List X} (h : Ch (x :: l)) {j : Int} (hj : j < x.lba) : look (x :: l) j = none := by
  refine look_none fun y hy => ?_
  have h1 := h.1
  unfold One at h1
  rcases List.mem_cons.1 hy with rfl | hy
  · omega
  · have := ch_apart h y hy
    omega

theorem num_le {x x' : X} {l l' : List X} (h : Ch (x :: l)) (h' : Ch (x' :: l')) (hj : ∀ j, look (x :: l) j = look (x' :: l') j) (hb : x.lba = x'.lba) (hp : x.pos = x'.pos) : ¬ x.num < x'.num := by
  intro hlt
  have h1 := h.1
  have h2 := h'.1
  unfold One at h1 h2
  have e1 : look (x' :: l') (x.lba + x.num) = some (x.pos + x.num) := by
    rw [look, if_pos (by omega)]
    congr 1
    omega
  have e2 : look (x :: l) (x.lba + x.num) = look l (x.lba + x.num) := by rw [look, if_neg (by omega)]
  rw [← hj, e2] at e1
  cases l with
  | nil => cases e1
  | cons y l =>
    have hby := h.2.1 y rfl
    have hle := hby.1
    by_cases hy : x.lba + x.num < y.lba
    · rw [look_low h.2.2 hy] at e1
      cases e1
    · have hyl : y.lba = x.lba + x.num := by omega
      rw [← hyl, look_first h.2.2.1] at e1
      exact hby.2 ⟨hyl, by injection e1⟩

/-- A good list is known by where each block stands. -/
theorem ch_unique : ∀ (l l' : List X), Ch l → Ch l' → (∀ j, look l j = look l' j) → l = l' := by
  intro l
  induction l with
  | nil =>
    intro l' _ h' hj
    cases l' with
    | nil => rfl
    | cons x' l' =>
      have := hj x'.lba
      rw [look_first h'.1] at this
      cases this
  | cons x l ih =>
    intro l' h h' hj
    cases l' with
    | nil =>
      have := hj x.lba
      rw [look_first h.1] at this
      cases this
    | cons x' l' =>
      have hb : x.lba = x'.lba := by
        have c1 : ¬ x.lba < x'.lba := fun hlt => by
          have := hj x.lba
          rw [look_first h.1, look_low h' hlt] at this
          cases this
        have c2 : ¬ x'.lba < x.lba := fun hlt => by
          have := hj x'.lba
          rw [look_first h'.1, look_low h hlt] at this
          cases this
        omega
      have hp : x.pos = x'.pos := by
        have := hj x.lba
        rw [look_first h.1, hb, look_first h'.1] at this
        injection this
      have hn : x.num = x'.num := by
        have c1 := num_le h h' hj hb hp
        have c2 := num_le h' h (fun j => (hj j).symm) hb.symm hp.symm
        omega
      have hx : x = x' := by
        obtain ⟨_, _, _⟩ := x
        obtain ⟨_, _, _⟩ := x'
        dsimp only at hb hp hn
        rw [hb, hp, hn]
      subst hx
      congr 1
      refine ih l' h.2.2 h'.2.2 fun j => ?_
      by_cases hin : x.lba ≤ j ∧ j < x.lba + x.num
      · rw [look_ge (ch_apart h) hin.2, look_ge (ch_apart h') hin.2]
      · have := hj j
        rw [look, if_neg hin, look, if_neg hin] at this
        exact this

theorem ch_snoc : ∀ {o : List X} {y : X}, Ch (o ++ [y]) ↔ Ch o ∧ One y ∧ (∀ p, o.getLast? = some p → Behind p y) := by
  intro o
  induction o with
  | nil => intro y; simp [Ch]
  | cons x o ih =>
    intro y
    cases o with
    | nil =>
      simp [Ch]
      intro _
      exact And.comm
    | cons z o =>
      have h1 := ih (y := y)
      show (One x ∧ (∀ q, ((z :: o) ++ [y]).head? = some q → Behind x q) ∧ Ch ((z :: o) ++ [y])) ↔ (One x ∧ (∀ q, (z :: o).head? = some q → Behind x q) ∧ Ch (z :: o)) ∧ One y ∧ (∀ p, (x :: z :: o).getLast? = some p → Behind p y)
      rw [h1, List.getLast?_cons_cons]
      simp only [List.cons_append, List.head?_cons]
      constructor
      · rintro ⟨a, b, c, d, e⟩
        exact ⟨⟨a, b, c⟩, d, e⟩
      · rintro ⟨⟨a, b, c⟩, d, e⟩
        exact ⟨a, b, c, d, e⟩

end Go.Proofs.Ytplplojhgiaabaa
