/- What is seen of a device, and what would stay: the plain laws of writing, flushing and crashing. -/
import Derived.Test.YtojcoambodedbaaL
set_option linter.unusedVariables false
set_option linter.unusedSimpArgs false
set_option linter.unnecessarySimpa false
namespace Go.Proofs.Ytojcoambodedbaa
open Go.RowKit

theorem getD_set (l : List ByteArray) (i j : Nat) (t : ByteArray) (hi : i < l.length) : (l.set i t).getD j ByteArray.empty = if j = i then t else l.getD j ByteArray.empty := by
  by_cases h : j = i
  · subst h; simp [List.getD, hi]
  · rw [if_neg h]
    simp [List.getD, List.getElem?_set, show ¬ i = j from fun e => h e.symm]

def Empt (s : ByteArray) : Prop := s.toList.isEmpty = true
theorem empt_empty : Empt ByteArray.empty := (isEmpty_iff _).2 rfl
theorem not_empt {s : ByteArray} (h : s.size = 512) : ¬ Empt s := fun e => by rw [(isEmpty_iff s).1 e] at h; cases h
theorem sector_of_empt {S : DS} {i : Nat} (h : Empt (S.now.getD i ByteArray.empty)) : S.sector i = S.kept i := by
  unfold DS.sector; exact if_pos h
theorem sector_of_now {S : DS} {i : Nat} (h : ¬ Empt (S.now.getD i ByteArray.empty)) : S.sector i = S.now.getD i ByteArray.empty := by
  unfold DS.sector; exact if_neg h
theorem sector_congr {S T : DS} {i : Nat} (h1 : T.now.getD i ByteArray.empty = S.now.getD i ByteArray.empty) (h2 : T.safe.getD i ByteArray.empty = S.safe.getD i ByteArray.empty) : T.sector i = S.sector i := by
  unfold DS.sector DS.kept
  rw [h1, h2]
theorem kept_congr {S T : DS} {i : Nat} (h2 : T.safe.getD i ByteArray.empty = S.safe.getD i ByteArray.empty) : T.kept i = S.kept i := by
  unfold DS.kept
  rw [h2]

/-- What stands in 'now' is held. -/
def DS.Tidy (S : DS) : Prop := ∀ i, ¬ Empt (S.now.getD i ByteArray.empty) → ∃ x ∈ S.held, x.1 = i

theorem fresh_tidy (n : Nat) : (DS.fresh n).Tidy := fun i h => by
  exfalso
  apply h
  have : (DS.fresh n).now.getD i ByteArray.empty = ByteArray.empty := by
    simp [DS.fresh, List.getD, List.getElem?_replicate]
    split <;> rfl
  rw [this]
  exact empt_empty
theorem fresh_sector (n i : Nat) : (DS.fresh n).sector i = zeros 512 ∧ (DS.fresh n).kept i = zeros 512 := by
  have h : ∀ l : List ByteArray, l = List.replicate n ByteArray.empty → l.getD i ByteArray.empty = ByteArray.empty := by
    rintro l rfl
    simp [List.getD, List.getElem?_replicate]
    split <;> rfl
  have hk : (DS.fresh n).kept i = zeros 512 := kept_zero _ _ (h _ rfl)
  exact ⟨(sector_safe _ _ (h _ rfl)).trans hk, hk⟩

/-! ### put1 -/
theorem put1_sector {S : DS} (i : Nat) (s : ByteArray) (hi : i < S.now.length) (hs : s.size = 512) (j : Nat) : (S.put1 i s).sector j = if j = i then s else S.sector j := by
  have hg := getD_set S.now i j s hi
  by_cases h : j = i
  · rw [if_pos h] at hg ⊢
    exact sector_now _ _ _ hg hs
  · rw [if_neg h] at hg ⊢
    exact sector_congr hg rfl
theorem put1_kept (S : DS) (i : Nat) (s : ByteArray) (j : Nat) : (S.put1 i s).kept j = S.kept j := rfl
theorem DS.Tidy.put1 {S : DS} (h : S.Tidy) (i : Nat) (s : ByteArray) (hi : i < S.now.length) : (S.put1 i s).Tidy := by
  intro j hj
  have hg := getD_set S.now i j s hi
  by_cases e : j = i
  · exact ⟨(i, s), by simp [DS.put1], e.symm⟩
  · rw [if_neg e] at hg
    have hj' : ¬ Empt (S.now.getD j ByteArray.empty) := by rw [← hg]; exact hj
    obtain ⟨x, hx, he⟩ := h j hj'
    exact ⟨x, by simp [DS.put1, hx], he⟩

/-! ### settle -/
theorem settle1_no {S : DS} {i : Nat} (h : Empt (S.now.getD i ByteArray.empty)) : S.settle1 i = S := by unfold DS.settle1; exact if_pos h
theorem settle1_yes {S : DS} {i : Nat} (h : ¬ Empt (S.now.getD i ByteArray.empty)) : S.settle1 i = { S with safe := S.safe.set i (S.now.getD i ByteArray.empty), now := S.now.set i ByteArray.empty } := by
  unfold DS.settle1; exact if_neg h
theorem not_empt_size {s : ByteArray} (h : ¬ Empt s) (hs : SecOk s) : s.size = 512 := by
  rcases hs with hs | hs
  · exact absurd ((isEmpty_iff s).2 hs) h
  · exact hs
theorem settle1_sector {S : DS} (ho : S.Ok) (i : Nat) (hi : i < S.safe.length) (j : Nat) : (S.settle1 i).sector j = S.sector j ∧ (S.settle1 i).kept j = (if j = i then S.sector i else S.kept j) ∧
    (Empt ((S.settle1 i).now.getD j ByteArray.empty) ↔ j = i ∨ Empt (S.now.getD j ByteArray.empty)) := by
  by_cases he : Empt (S.now.getD i ByteArray.empty)
  · rw [settle1_no he]
    refine ⟨rfl, ?_, ⟨Or.inr, fun h => h.elim (fun e => e ▸ he) id⟩⟩
    by_cases e : j = i
    · rw [if_pos e, e, sector_of_empt he]
    · rw [if_neg e]
  · have hsz := not_empt_size he (secOk_getD ho.now i)
    have hs := sector_of_now he
    rw [settle1_yes he, hs]
    generalize S.now.getD i ByteArray.empty = s at *
    have g1 := getD_set S.safe i j s hi
    have g2 := getD_set S.now i j ByteArray.empty (by rw [ho.len]; exact hi)
    by_cases e : j = i
    · subst e
      rw [if_pos rfl] at g1 g2 ⊢
      have hk : DS.kept { S with safe := S.safe.set j s, now := S.now.set j ByteArray.empty } j = s := kept_safe _ _ _ g1 hsz
      refine ⟨(sector_safe _ _ g2).trans (hk.trans hs.symm), hk, ⟨fun _ => Or.inl rfl, fun _ => ?_⟩⟩
      show Empt ((S.now.set j ByteArray.empty).getD j ByteArray.empty)
      rw [g2]; exact empt_empty
    · rw [if_neg e] at g1 g2 ⊢
      refine ⟨sector_congr g2 g1, kept_congr g1, ?_⟩
      show Empt ((S.now.set i ByteArray.empty).getD j ByteArray.empty) ↔ _
      rw [g2]
      exact ⟨Or.inr, fun h => h.resolve_left e⟩

theorem settles_sector (l : List (Nat × ByteArray)) : ∀ {S : DS}, S.Ok → (∀ x ∈ l, x.1 < S.safe.length) → ∀ j, (S.settles l).sector j = S.sector j ∧
    ((∃ x ∈ l, x.1 = j) → (S.settles l).kept j = S.sector j) ∧ ((¬ ∃ x ∈ l, x.1 = j) → (S.settles l).kept j = S.kept j) ∧ (Empt ((S.settles l).now.getD j ByteArray.empty) ↔ (∃ x ∈ l, x.1 = j) ∨ Empt (S.now.getD j ByteArray.empty)) := by
  induction l with
  | nil => intro S _ _ j; exact ⟨rfl, fun h => by simp at h, fun _ => rfl, by simp [DS.settles]⟩
  | cons x l ih =>
    intro S ho hl j
    obtain ⟨a, b, c⟩ := settle1_sector ho x.1 (hl x (by simp)) j
    have hlen := (settle1_same S x.1).2.2.2.2.1
    obtain ⟨a', b', c', d'⟩ := ih (ho.settle1 x.1) (fun y hy => by rw [hlen]; exact hl y (by simp [hy])) j
    refine ⟨a'.trans a, fun h => ?_, fun h => ?_, ?_⟩
    · by_cases hj : ∃ y ∈ l, y.1 = j
      · exact (b' hj).trans a
      · refine (c' hj).trans (b.trans ?_)
        obtain ⟨y, hy, e⟩ := h
        rcases List.mem_cons.1 hy with rfl | hy
        · rw [if_pos e.symm, e]
        · exact absurd ⟨y, hy, e⟩ hj
    · have h1 : ¬ ∃ y ∈ l, y.1 = j := fun ⟨y, hy, e⟩ => h ⟨y, by simp [hy], e⟩
      refine (c' h1).trans (b.trans ?_)
      rw [if_neg (fun e => h ⟨x, by simp, e.symm⟩)]
    · show Empt (((S.settle1 x.1).settles l).now.getD j ByteArray.empty) ↔ _
      rw [d', c]
      constructor
      · rintro (⟨y, hy, e⟩ | e | e)
        · exact Or.inl ⟨y, by simp [hy], e⟩
        · exact Or.inl ⟨x, by simp, e.symm⟩
        · exact Or.inr e
      · rintro (⟨y, hy, e⟩ | e)
        · rcases List.mem_cons.1 hy with rfl | hy
          · exact Or.inr (Or.inl e.symm)
          · exact Or.inl ⟨y, hy, e⟩
        · exact Or.inr (Or.inr e)

/-- Behind a flush: what was seen is seen, and stays. -/
theorem settle_sector {S : DS} (ho : S.Ok) (ht : S.Tidy) (j : Nat) : S.settle.sector j = S.sector j ∧ S.settle.kept j = S.sector j ∧ Empt (S.settle.now.getD j ByteArray.empty) := by
  obtain ⟨a, b, c, d⟩ := settles_sector S.held ho (fun x hx => (ho.held x hx).1) j
  have he : Empt ((S.settles S.held).now.getD j ByteArray.empty) := by
    rw [d]
    by_cases h : Empt (S.now.getD j ByteArray.empty)
    · exact Or.inr h
    · exact Or.inl (ht j h)
  refine ⟨a, ?_, he⟩
  by_cases hj : ∃ x ∈ S.held, x.1 = j
  · exact b hj
  · refine (c hj).trans ?_
    have : Empt (S.now.getD j ByteArray.empty) := by
      by_cases h : Empt (S.now.getD j ByteArray.empty)
      · exact h
      · exact absurd (ht j h) hj
    exact (sector_of_empt this).symm
theorem settle_tidy {S : DS} (ho : S.Ok) (ht : S.Tidy) : S.settle.Tidy := fun j h => absurd (settle_sector ho ht j).2.2 h

/-! ### crash -/
theorem wipe1_sector {S : DS} (i : Nat) (hi : i < S.now.length) (j : Nat) : (S.wipe1 i).sector j = (if j = i then S.kept j else S.sector j) ∧ (Empt ((S.wipe1 i).now.getD j ByteArray.empty) ↔ j = i ∨ Empt (S.now.getD j ByteArray.empty)) := by
  have g := getD_set S.now i j ByteArray.empty hi
  by_cases e : j = i
  · rw [if_pos e] at g ⊢
    refine ⟨sector_safe _ _ g, ⟨fun _ => Or.inl e, fun _ => ?_⟩⟩
    show Empt ((S.now.set i ByteArray.empty).getD j ByteArray.empty)
    rw [g]; exact empt_empty
  · rw [if_neg e] at g ⊢
    refine ⟨sector_congr g rfl, ?_⟩
    show Empt ((S.now.set i ByteArray.empty).getD j ByteArray.empty) ↔ _
    rw [g]
    exact ⟨Or.inr, fun h => h.resolve_left e⟩
theorem wipes_empt (l : List (Nat × ByteArray)) : ∀ {S : DS}, (∀ x ∈ l, x.1 < S.now.length) → ∀ j, (Empt ((S.wipes l).now.getD j ByteArray.empty) ↔ (∃ x ∈ l, x.1 = j) ∨ Empt (S.now.getD j ByteArray.empty)) := by
  induction l with
  | nil => intro S _ j; simp [DS.wipes]
  | cons x l ih =>
    intro S hl j
    show Empt (((S.wipe1 x.1).wipes l).now.getD j ByteArray.empty) ↔ _
    rw [ih (S := S.wipe1 x.1) (fun y hy => by simp only [DS.wipe1, List.length_set]; exact hl y (by simp [hy])) j, (wipe1_sector x.1 (hl x (by simp)) j).2]
    constructor
    · rintro (⟨y, hy, e⟩ | e | e)
      · exact Or.inl ⟨y, by simp [hy], e⟩
      · exact Or.inl ⟨x, by simp, e.symm⟩
      · exact Or.inr e
    · rintro (⟨y, hy, e⟩ | e)
      · rcases List.mem_cons.1 hy with rfl | hy
        · exact Or.inr (Or.inl e.symm)
        · exact Or.inl ⟨y, hy, e⟩
      · exact Or.inr (Or.inr e)
theorem wipes_sector {S : DS} (ho : S.Ok) (ht : S.Tidy) (j : Nat) : (S.wipes S.held).sector j = S.kept j := by
  have he : Empt ((S.wipes S.held).now.getD j ByteArray.empty) := by
    rw [wipes_empt S.held (fun x hx => by rw [ho.len]; exact (ho.held x hx).1)]
    by_cases h : Empt (S.now.getD j ByteArray.empty)
    · exact Or.inr h
    · exact Or.inl (ht j h)
  rw [sector_of_empt he]
  exact kept_congr (by rw [(DS.wipes_same S.held S).1])

/-- What a crash leaves of what would stay, write by write. -/
def tearF (ks : List Int) : Nat → List (Nat × ByteArray) → (Nat → ByteArray) → Nat → ByteArray
  | _, [], m => m
  | i, x :: l, m => tearF ks (i + 1) l (fun j => if j = x.1 then torn (keepAt ks i) x.2 (m x.1) else m j)

theorem tear1_sector {S : DS} (n i : Nat) (s : ByteArray) (hi : i < S.now.length) (hsz : (torn n s (S.sector i)).size = 512) (j : Nat) : (S.tear1 n i s).sector j = if j = i then torn n s (S.sector i) else S.sector j := by
  have g := getD_set S.now i j (torn n s (S.sector i)) hi
  by_cases e : j = i
  · rw [if_pos e] at g ⊢
    exact sector_now _ _ _ g hsz
  · rw [if_neg e] at g ⊢
    exact sector_congr g rfl
theorem tears_sector (ks : List Int) (l : List (Nat × ByteArray)) : ∀ (i : Nat) {S : DS}, S.Ok → (∀ x ∈ l, x.1 < S.safe.length ∧ x.2.size = 512) → (S.tears ks i l).sector = tearF ks i l S.sector := by
  induction l with
  | nil => intro i S _ _; rfl
  | cons x l ih =>
    intro i S ho hl
    obtain ⟨h1, h2⟩ := hl x (by simp)
    have hsz := size_torn (keepAt ks i) x.2 (S.sector x.1) (keepAt_le ks i) h2 (ho.sector x.1)
    show ((S.tear1 (keepAt ks i) x.1 x.2).tears ks (i + 1) l).sector = tearF ks (i + 1) l _
    rw [ih (i + 1) (ho.tear1 _ _ _ (keepAt_le ks i) h2) (fun y hy => hl y (by simp [hy]))]
    congr 1
    funext j
    exact tear1_sector _ _ _ (by rw [ho.len]; exact h1) hsz j
theorem tears_tidy (ks : List Int) (l : List (Nat × ByteArray)) : ∀ (i : Nat) {S : DS}, S.now.length = S.safe.length → (∀ j, ¬ Empt (S.now.getD j ByteArray.empty) → ∃ x ∈ S.held, x.1 = j) → (∀ x ∈ l, x ∈ S.held) → (∀ x ∈ l, x.1 < S.safe.length) → (S.tears ks i l).Tidy := by
  induction l with
  | nil => intro i S _ h _ _; exact h
  | cons x l ih =>
    intro i S hlen h hm hl
    refine ih (i + 1) (S := S.tear1 (keepAt ks i) x.1 x.2) (by simpa [DS.tear1] using hlen) (fun j hj => ?_) (fun y hy => hm y (by simp [hy])) (fun y hy => hl y (by simp [hy]))
    have g := getD_set S.now x.1 j (torn (keepAt ks i) x.2 (S.sector x.1)) (by rw [hlen]; exact hl x (by simp))
    by_cases e : j = x.1
    · exact ⟨x, hm x (by simp), e.symm⟩
    · rw [if_neg e] at g
      exact h j (by rw [← g]; exact hj)

/-- Behind a crash. -/
theorem crash_sector {S : DS} (ho : S.Ok) (ht : S.Tidy) (ks : List Int) (j : Nat) : (S.crash ks).sector j = tearF ks 0 S.held S.kept j ∧ (S.crash ks).kept j = tearF ks 0 S.held S.kept j ∧ Empt ((S.crash ks).now.getD j ByteArray.empty) := by
  have h1 : (S.torn ks).sector = tearF ks 0 S.held S.kept := by
    show ((S.wipes S.held).tears ks 0 S.held).sector = _
    rw [tears_sector ks S.held 0 (DS.Ok.wipes S.held ho) (fun x hx => by rw [(DS.wipes_same S.held S).1]; exact ho.held x hx)]
    congr 1
    funext j
    exact wipes_sector ho ht j
  have hsame := DS.tears_same ks S.held 0 (S.wipes S.held)
  have h2 : (S.torn ks).Tidy := by
    refine tears_tidy ks S.held 0 (DS.Ok.wipes S.held ho).len (fun j hj => ?_) (fun x hx => by rw [(DS.wipes_same S.held S).2.1]; exact hx) (fun x hx => by rw [(DS.wipes_same S.held S).1]; exact (ho.held x hx).1)
    exfalso
    apply hj
    rw [wipes_empt S.held (fun x hx => by rw [ho.len]; exact (ho.held x hx).1)]
    by_cases h : Empt (S.now.getD j ByteArray.empty)
    · exact Or.inr h
    · exact Or.inl (ht j h)
  obtain ⟨a, b, c⟩ := settle_sector (ho.torn ks) h2 j
  rw [← h1]
  exact ⟨a, b, c⟩
theorem crash_tidy {S : DS} (ho : S.Ok) (ht : S.Tidy) (ks : List Int) : (S.crash ks).Tidy := fun j h => absurd (crash_sector ho ht ks j).2.2 h

end Go.Proofs.Ytojcoambodedbaa
