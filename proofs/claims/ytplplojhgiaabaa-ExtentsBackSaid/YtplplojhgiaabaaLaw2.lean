/- Plain laws: what merged makes, what gather makes. -/
import Derived.Test.YtplplojhgiaabaaLaw
set_option linter.unusedVariables false
set_option linter.unusedSimpArgs false
set_option linter.unnecessarySimpa false
namespace Go.Proofs.Ytplplojhgiaabaa

def Sep (x y : X) : Prop := x.lba + x.num ≤ y.lba
def Dis (x y : X) : Prop := x.lba + x.num ≤ y.lba ∨ y.lba + y.num ≤ x.lba

theorem look_one (p : X) (j : Int) : look [p] j = if p.lba ≤ j ∧ j < p.lba + p.num then some (p.pos + j - p.lba) else none := rfl

theorem look_join {p y : X} (hp : One p) (hy : One y) (hj : Joins p y) (j : Int) : look [⟨p.lba, p.num + y.num, p.pos⟩] j = (look [p] j).or (look [y] j) := by
  obtain ⟨h1, h2⟩ := hj
  unfold One at hp hy
  simp only [look_one]
  by_cases e1 : p.lba ≤ j ∧ j < p.lba + p.num
  · rw [if_pos (by omega), if_pos e1]
    rfl
  · by_cases e2 : y.lba ≤ j ∧ j < y.lba + y.num
    · rw [if_pos (by omega), if_neg e1, if_pos e2]
      show some _ = some _
      congr 1
      omega
    · rw [if_neg (by omega), if_neg e1, if_neg e2]
      rfl

theorem merge_fold : ∀ (s o : List X), Ch o → (∀ y ∈ s, One y) → (o ++ s).Pairwise Sep → Ch (s.foldl push o) ∧ ∀ j, look (s.foldl push o) j = look (o ++ s) j := by
  intro s
  induction s with
  | nil => intro o ho _ _; exact ⟨ho, fun j => by simp⟩
  | cons y s ih =>
    intro o ho hs hp
    have hy := hs y (by simp)
    have hs' : ∀ z ∈ s, One z := fun z hz => hs z (by simp [hz])
    rw [List.foldl_cons]
    rcases List.eq_nil_or_concat o with rfl | ⟨o', p, rfl⟩
    · rw [push_nil]
      exact ih [y] ⟨hy, by simp, trivial⟩ hs' hp
    · rw [List.concat_eq_append] at ho hp ⊢
      have hpp := hp
      rw [List.pairwise_append] at hp
      obtain ⟨hp1, hp2, hp3⟩ := hp
      have hc := ch_snoc.1 ho
      rw [push_snoc]
      by_cases hj : Joins p y
      · rw [if_pos hj]
        have hm : One ⟨p.lba, p.num + y.num, p.pos⟩ := by
          have h1 := hc.2.1
          obtain ⟨h2, h3⟩ := hj
          unfold One at h1 hy ⊢
          dsimp only
          omega
        rw [List.pairwise_append] at hp1
        rw [List.pairwise_cons] at hp2
        have hpw : (o' ++ [(⟨p.lba, p.num + y.num, p.pos⟩ : X)] ++ s).Pairwise Sep := by
          rw [List.pairwise_append, List.pairwise_append]
          refine ⟨⟨hp1.1, by simp, ?_⟩, hp2.2, ?_⟩
          · intro a ha b hb
            rw [List.mem_singleton] at hb
            subst hb
            exact hp1.2.2 a ha p (by simp)
          · intro a ha b hb
            rcases List.mem_append.1 ha with ha | ha
            · exact hp3 a (by simp [ha]) b (by simp [hb])
            · rw [List.mem_singleton] at ha
              subst ha
              have := hp2.1 b hb
              unfold Sep at this ⊢
              dsimp only
              have := hj.1
              omega
        obtain ⟨g1, g2⟩ := ih (o' ++ [⟨p.lba, p.num + y.num, p.pos⟩]) (ch_snoc.2 ⟨hc.1, hm, hc.2.2⟩) hs' hpw
        refine ⟨g1, fun j => ?_⟩
        rw [g2 j, look_app, look_app, look_join hc.2.1 hy hj, look_app, look_app, show (y :: s) = [y] ++ s from rfl, look_app [y] s]
        simp only [Option.or_assoc]
      · rw [if_neg hj]
        have hb : Behind p y := by
          refine ⟨hp3 p (by simp) y (by simp), fun h => hj ⟨h.1.symm, h.2.symm⟩⟩
        have hpw : (o' ++ [p] ++ [y] ++ s).Pairwise Sep := by
          rw [List.append_assoc (o' ++ [p])]
          exact hpp
        obtain ⟨g1, g2⟩ := ih (o' ++ [p] ++ [y]) (ch_snoc.2 ⟨ho, hy, fun q hq => by simp at hq; subst hq; exact hb⟩) hs' hpw
        refine ⟨g1, fun j => ?_⟩
        rw [g2 j, List.append_assoc (o' ++ [p])]
        rfl

theorem look_iff {l : List X} (hd : l.Pairwise Dis) {j p : Int} : look l j = some p ↔ ∃ x ∈ l, x.lba ≤ j ∧ j < x.lba + x.num ∧ p = x.pos + j - x.lba := by
  refine ⟨look_some, ?_⟩
  induction l with
  | nil => simp
  | cons x l ih =>
    rintro ⟨y, hy, h1, h2, h3⟩
    rw [List.pairwise_cons] at hd
    rw [look]
    rcases List.mem_cons.1 hy with rfl | hy
    · rw [if_pos ⟨h1, h2⟩, h3]
    · have hdis := hd.1 y hy
      rw [if_neg (by unfold Dis at hdis; omega)]
      exact ih hd.2 ⟨y, hy, h1, h2, h3⟩
theorem look_perm {l l' : List X} (hp : l.Perm l') (hd : l'.Pairwise Dis) (j : Int) : look l j = look l' j := by
  have hd' : l.Pairwise Dis := (hp.pairwise_iff (fun h => Or.symm h)).2 hd
  have key : ∀ p, look l j = some p ↔ look l' j = some p := fun p => by
    rw [look_iff hd', look_iff hd]
    simp only [hp.mem_iff]
  cases h : look l' j with
  | none =>
    cases h' : look l j with
    | none => rfl
    | some p => have := (key p).1 h'; rw [h] at this; cases this
  | some p => exact (key p).2 h

/-- merged of a sorted heap of extents that lie apart. -/
theorem merged_law {s L : List X} (hp : s.Perm L) (hw : s.Pairwise (fun y z => y.lba ≤ z.lba)) (ho : ∀ y ∈ L, One y) (hd : L.Pairwise Dis) : Good (mergedF s) ∧ ∀ j, look (mergedF s) j = look L j := by
  have hos : ∀ y ∈ s, One y := fun y hy => ho y (hp.mem_iff.1 hy)
  have hds : s.Pairwise Dis := (hp.pairwise_iff (fun h => Or.symm h)).2 hd
  have hsep : s.Pairwise Sep := by
    refine (hw.and hds).imp_of_mem ?_
    rintro a b ha hb ⟨h1, h2⟩
    have h3 := hos a ha
    have h4 := hos b hb
    unfold One at h3 h4
    unfold Dis at h2
    unfold Sep
    omega
  obtain ⟨g1, g2⟩ := merge_fold s [] trivial hos (by simpa using hsep)
  exact ⟨good_iff.2 g1, fun j => by rw [show mergedF s = s.foldl push [] from rfl, g2 j, List.nil_append]; exact look_perm hp hd j⟩

theorem left1_mem {f t : Int} {x y : X} (hx : One x) (h : y ∈ left1 f t x) : One y ∧ x.lba ≤ y.lba ∧ y.lba + y.num ≤ x.lba + x.num ∧ (y.lba + y.num ≤ f ∨ t ≤ y.lba) := by
  unfold One at hx ⊢
  unfold left1 at h
  rw [List.mem_append] at h
  rcases h with h | h
  · split at h
    · rw [List.mem_singleton] at h
      subst h
      dsimp only
      omega
    · simp at h
  · split at h
    · rw [List.mem_singleton] at h
      subst h
      dsimp only
      omega
    · simp at h
theorem left1_dis {f t : Int} (hft : f ≤ t) (x : X) : (left1 f t x).Pairwise Dis := by
  unfold left1
  split <;> split <;> simp [Dis]
  omega
theorem left1_look {f t : Int} (hft : f ≤ t) {x : X} (hx : One x) (j : Int) : look (left1 f t x) j = if x.lba ≤ j ∧ j < x.lba + x.num ∧ ¬ (f ≤ j ∧ j < t) then some (x.pos + j - x.lba) else none := by
  unfold One at hx
  unfold left1
  rw [look_app]
  by_cases h1 : x.lba < f
  · rw [if_pos h1, look_one]
    dsimp only
    by_cases h2 : t < x.lba + x.num
    · rw [if_pos h2, look_one]
      dsimp only
      by_cases e1 : x.lba ≤ j ∧ j < x.lba + (min (x.lba + x.num) f - x.lba)
      · rw [if_pos e1, if_pos (show x.lba ≤ j ∧ j < x.lba + x.num ∧ ¬ (f ≤ j ∧ j < t) by omega)]
        rfl
      · rw [if_neg e1]
        by_cases e2 : max x.lba t ≤ j ∧ j < max x.lba t + (x.lba + x.num - max x.lba t)
        · rw [if_pos e2, if_pos (by omega)]
          show some _ = some _
          congr 1
          omega
        · rw [if_neg e2, if_neg (by omega)]
          rfl
    · rw [if_neg h2]
      by_cases e1 : x.lba ≤ j ∧ j < x.lba + (min (x.lba + x.num) f - x.lba)
      · rw [if_pos e1, if_pos (show x.lba ≤ j ∧ j < x.lba + x.num ∧ ¬ (f ≤ j ∧ j < t) by omega)]
        rfl
      · rw [if_neg e1, if_neg (by omega)]
        rfl
  · rw [if_neg h1]
    by_cases h2 : t < x.lba + x.num
    · rw [if_pos h2, look_one]
      dsimp only
      by_cases e2 : max x.lba t ≤ j ∧ j < max x.lba t + (x.lba + x.num - max x.lba t)
      · rw [if_pos e2, if_pos (by omega)]
        show some _ = some _
        congr 1
        omega
      · rw [if_neg e2, if_neg (by omega)]
        rfl
    · rw [if_neg h2, if_neg (by omega)]
      rfl
theorem leftF_cons (f t : Int) (x : X) (l : List X) : leftF f t (x :: l) = left1 f t x ++ leftF f t l := rfl
theorem leftF_look {f t : Int} (hft : f ≤ t) {l : List X} (hl : ∀ x ∈ l, One x) (j : Int) : look (leftF f t l) j = if f ≤ j ∧ j < t then none else look l j := by
  induction l with
  | nil => simp [leftF, look]
  | cons x l ih =>
    rw [leftF_cons, look_app, left1_look hft (hl x (by simp)), ih (fun y hy => hl y (by simp [hy]))]
    rw [look]
    by_cases e : f ≤ j ∧ j < t
    · rw [if_pos e, if_pos e, if_neg (by omega)]
      rfl
    · rw [if_neg e, if_neg e]
      by_cases e1 : x.lba ≤ j ∧ j < x.lba + x.num
      · rw [if_pos (by omega), if_pos e1]
        rfl
      · rw [if_neg (by omega), if_neg e1]
        rfl
theorem leftF_mem {f t : Int} {l : List X} {y : X} (h : y ∈ leftF f t l) : ∃ x ∈ l, y ∈ left1 f t x := by
  unfold leftF at h
  rwa [List.mem_flatMap] at h
theorem leftF_dis {f t : Int} (hft : f ≤ t) : ∀ {l : List X}, Ch l → (leftF f t l).Pairwise Dis := by
  intro l
  induction l with
  | nil => intro _; simp [leftF]
  | cons x l ih =>
    intro h
    rw [leftF_cons, List.pairwise_append]
    refine ⟨left1_dis hft x, ih h.2.2, fun a ha b hb => ?_⟩
    obtain ⟨z, hz, hb⟩ := leftF_mem hb
    have h1 := left1_mem h.1 ha
    have h2 := left1_mem (ch_one h.2.2 z hz) hb
    have h3 := ch_apart h z hz
    unfold Dis
    omega

/-- What Set comes to. -/
theorem set_law {l s : List X} {x : X} (hg : Good l) (ho : One x) (hp : s.Perm (x :: leftF x.lba (x.lba + x.num) l)) (hw : s.Pairwise (fun y z => y.lba ≤ z.lba)) :
    Good (mergedF s) ∧ ∀ j, look (mergedF s) j = if x.lba ≤ j ∧ j < x.lba + x.num then some (x.pos + j - x.lba) else look l j := by
  have hc := good_iff.1 hg
  have ho' := ho
  unfold One at ho'
  have hft : x.lba ≤ x.lba + x.num := by omega
  obtain ⟨g1, g2⟩ := merged_law hp hw (by
    intro y hy
    rcases List.mem_cons.1 hy with rfl | hy
    · exact ho
    · obtain ⟨z, hz, hy⟩ := leftF_mem hy
      exact (left1_mem (ch_one hc z hz) hy).1) (by
    rw [List.pairwise_cons]
    refine ⟨fun y hy => ?_, leftF_dis hft hc⟩
    obtain ⟨z, hz, hy⟩ := leftF_mem hy
    have := (left1_mem (ch_one hc z hz) hy).2.2.2
    unfold Dis
    omega)
  refine ⟨g1, fun j => ?_⟩
  rw [g2 j, look, leftF_look hft (ch_one hc)]
  by_cases e : x.lba ≤ j ∧ j < x.lba + x.num
  · rw [if_pos e, if_pos e]
  · rw [if_neg e, if_neg e, if_neg e]
/-- What Drop comes to. -/
theorem drop_law {l s : List X} {a m : Int} (hg : Good l) (hm : 0 ≤ m) (hp : s.Perm (leftF a (a + m) l)) (hw : s.Pairwise (fun y z => y.lba ≤ z.lba)) :
    Good (mergedF s) ∧ ∀ j, look (mergedF s) j = if a ≤ j ∧ j < a + m then none else look l j := by
  have hc := good_iff.1 hg
  have hft : a ≤ a + m := by omega
  obtain ⟨g1, g2⟩ := merged_law hp hw (by
    intro y hy
    obtain ⟨z, hz, hy⟩ := leftF_mem hy
    exact (left1_mem (ch_one hc z hz) hy).1) (leftF_dis hft hc)
  exact ⟨g1, fun j => by rw [g2 j, leftF_look hft (ch_one hc)]⟩

end Go.Proofs.Ytplplojhgiaabaa
