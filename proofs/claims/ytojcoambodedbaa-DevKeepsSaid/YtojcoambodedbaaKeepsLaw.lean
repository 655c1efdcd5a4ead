/- DevKeeps: the plain law: what was flushed stays, what was written behind it is torn where the list says. -/
import Derived.Test.YtojcoambodedbaaS
import Derived.Test.YtojcoambodedbaaWhole
set_option linter.unusedVariables false
set_option linter.unusedSimpArgs false
set_option linter.unnecessarySimpa false
namespace Go.Proofs.Ytojcoambodedbaa
open Go.RowKit

def heldOf (k : Nat) : List Nat → List (Nat × ByteArray)
  | [] => []
  | f :: l => (k, block f) :: heldOf (k + 1) l
theorem puts_held (l : List Nat) : ∀ (S : DS) (k : Nat), (S.puts k l).held = S.held ++ heldOf k l := by
  induction l with
  | nil => intro S k; simp [DS.puts, heldOf]
  | cons f l ih =>
    intro S k
    show ((S.put1 k (block f)).puts (k + 1) l).held = _
    rw [ih]
    simp [DS.put1, heldOf]
theorem puts_nowlen (l : List Nat) : ∀ (S : DS) (k : Nat), (S.puts k l).now.length = S.now.length := by
  induction l with
  | nil => intro S k; rfl
  | cons f l ih => intro S k; exact (ih _ _).trans (by simp [DS.put1])
theorem puts_sector (l : List Nat) : ∀ (S : DS) (k : Nat), k + l.length ≤ S.now.length → ∀ j, (S.puts k l).sector j = (if k ≤ j ∧ j < k + l.length then block (l.getD (j - k) 0) else S.sector j) ∧ (S.puts k l).kept j = S.kept j := by
  induction l with
  | nil => intro S k _ j; exact ⟨by rw [if_neg (by simp)]; rfl, rfl⟩
  | cons f l ih =>
    intro S k hk j
    simp only [List.length_cons] at hk ⊢
    obtain ⟨a, b⟩ := ih (S.put1 k (block f)) (k + 1) (by simp [DS.put1]; omega) j
    refine ⟨a.trans ?_, b⟩
    by_cases h1 : k + 1 ≤ j ∧ j < k + 1 + l.length
    · rw [if_pos h1, if_pos (by omega), show j - k = (j - (k + 1)) + 1 by omega]
      rfl
    · rw [if_neg h1, put1_sector k (block f) (by omega) (size_block f) j]
      by_cases h2 : j = k
      · rw [if_pos h2, if_pos (by omega), h2, Nat.sub_self]
        rfl
      · rw [if_neg h2, if_neg (by omega)]
theorem puts_tidy (l : List Nat) : ∀ (S : DS) (k : Nat), S.Tidy → k + l.length ≤ S.now.length → (S.puts k l).Tidy := by
  induction l with
  | nil => intro S k h _; exact h
  | cons f l ih =>
    intro S k h hk
    simp only [List.length_cons] at hk
    exact ih _ _ (h.put1 k (block f) (by omega)) (by simp [DS.put1]; omega)
theorem tearF_heldOf (ks : List Int) (l : List Nat) : ∀ (i k : Nat) (m : Nat → ByteArray) (j : Nat), tearF ks i (heldOf k l) m j = if k ≤ j ∧ j < k + l.length then torn (keepAt ks (i + (j - k))) (block (l.getD (j - k) 0)) (m j) else m j := by
  induction l with
  | nil => intro i k m j; rw [if_neg (by simp)]; rfl
  | cons f l ih =>
    intro i k m j
    simp only [List.length_cons]
    show tearF ks (i + 1) (heldOf (k + 1) l) _ j = _
    rw [ih]
    by_cases h1 : k + 1 ≤ j ∧ j < k + 1 + l.length
    · rw [if_pos h1, if_neg (show ¬ j = (k, block f).1 from fun e => by have : j = k := e; omega), if_pos (by omega), show j - k = (j - (k + 1)) + 1 by omega, show i + ((j - (k + 1)) + 1) = i + 1 + (j - (k + 1)) by omega]
      rfl
    · rw [if_neg h1]
      by_cases h2 : j = k
      · rw [if_pos (show j = (k, block f).1 from h2), if_pos (by omega), h2, Nat.sub_self]
        rfl
      · rw [if_neg (show ¬ j = (k, block f).1 from h2), if_neg (by omega)]

theorem extract_zeros (c : Nat) (h : c ≤ 512) : (zeros 512).extract c (zeros 512).size = zeros (512 - c) := by
  rw [size_zeros]
  have key : ∀ n, c ≤ n → (zeros n).extract c n = zeros (n - c) := by
    intro n hn
    unfold zeros strOf
    rw [ByteArray.extract_mk, List.drop_replicate, List.take_replicate, Nat.min_self]
  exact key 512 h
theorem torn_zeros (c : Nat) (h : c ≤ 512) (b : ByteArray) : torn c b (zeros 512) = b.extract 0 c ++ zeros (512 - c) := by
  unfold torn
  rw [extract_zeros c h]

/-- A device that is let do all. -/
structure Free (n : Nat) (S : DS) : Prop where
  down : S.down = false
  armed : S.armed = false
  len : S.safe.length = 64
  ok : S.Ok
  tidy : S.Tidy
  held : S.held.length ≤ n
theorem Free.goes {n : Nat} {S : DS} (h : Free n S) : S.goes = true := free_goes h.down h.armed
theorem Free.puts {n : Nat} {S : DS} (h : Free n S) (k : Nat) (l : List Nat) (hk : k + l.length ≤ 64) : Free (n + l.length) (S.puts k l) := by
  obtain ⟨a, b, c, d⟩ := puts_same l S k
  exact ⟨a.trans h.down, b.trans h.armed, by rw [d, h.len], puts_ok l S k h.ok (by rw [h.len]; exact hk), puts_tidy l S k h.tidy (by rw [h.ok.len, h.len]; exact hk), by rw [c]; have := h.held; omega⟩

def DS.flushed (S : DS) : DS := DS.settle { S with left := wrap64 (S.left - 1), ops := wrap64 (S.ops + 1) }
theorem Free.flushed {n : Nat} {S : DS} (h : Free n S) : Free 0 S.flushed ∧ (∀ j, S.flushed.sector j = S.sector j ∧ S.flushed.kept j = S.sector j) ∧ S.flushed.held = [] := by
  have ho := h.ok.flags (wrap64 (S.ops + 1)) (wrap64 (S.left - 1)) S.armed S.down
  have ht : DS.Tidy { S with left := wrap64 (S.left - 1), ops := wrap64 (S.ops + 1) } := h.tidy
  have hs : ∀ j, DS.sector { S with left := wrap64 (S.left - 1), ops := wrap64 (S.ops + 1) } j = S.sector j := fun j => sector_congr rfl rfl
  obtain ⟨s1, s2, s3, s4, s5⟩ := settles_same S.held { S with left := wrap64 (S.left - 1), ops := wrap64 (S.ops + 1) }
  refine ⟨⟨s4.trans h.down, s2.trans h.armed, s5.1.trans h.len, ho.settle, settle_tidy ho ht, Nat.le_refl _⟩, fun j => ?_, rfl⟩
  obtain ⟨a, b, _⟩ := settle_sector ho ht j
  exact ⟨a.trans (hs j), b.trans (hs j)⟩
theorem fresh_free : Free 0 (DS.fresh 64) := ⟨rfl, rfl, by simp [DS.fresh], DS.fresh_ok 64, fresh_tidy 64, Nat.le_refl _⟩

/-- The device of DevKeeps behind j writes, flushed ahead of the k-th. -/
def keepsF (fs : List Nat) (k : Nat) : DS := ((DS.fresh 64).puts 0 (fs.take k)).flushed
def keepsAt (fs : List Nat) (k j : Nat) : DS := if j ≤ k then (DS.fresh 64).puts 0 (fs.take j) else (keepsF fs k).puts k ((fs.take j).drop k)
def keepsB (fs : List Nat) (k : Nat) : DS := (keepsF fs k).puts k (fs.drop k)

theorem keepsF_free (fs : List Nat) (k : Nat) (h : fs.length ≤ 60) : Free 0 (keepsF fs k) :=
  (fresh_free.puts 0 (fs.take k) (by simp; omega)).flushed.1
theorem keepsAt_free (fs : List Nat) (k j : Nat) (h : fs.length ≤ 60) (hk : k ≤ fs.length) (hj : j ≤ fs.length) : Free 60 (keepsAt fs k j) := by
  unfold keepsAt
  split
  · have := fresh_free.puts 0 (fs.take j) (by simp; omega)
    exact ⟨this.down, this.armed, this.len, this.ok, this.tidy, by have := this.held; simp at this; omega⟩
  · have := (keepsF_free fs k h).puts k ((fs.take j).drop k) (by simp; omega)
    exact ⟨this.down, this.armed, this.len, this.ok, this.tidy, by have := this.held; simp at this; omega⟩
theorem keepsAt_low (fs : List Nat) (k j : Nat) (hj : j < fs.length) (hjk : j < k) : keepsAt fs k (j + 1) = (keepsAt fs k j).put1 j (block (fs.getD j 0)) := by
  unfold keepsAt
  rw [if_pos (by omega), if_pos (by omega), take_snoc fs j hj, puts_snoc]
  simp [show min j fs.length = j by omega]
theorem keepsAt_mid (fs : List Nat) (k : Nat) (hj : k < fs.length) : keepsAt fs k (k + 1) = (keepsF fs k).put1 k (block (fs.getD k 0)) ∧ (keepsAt fs k k).flushed = keepsF fs k := by
  unfold keepsAt
  rw [if_neg (by omega), if_pos (by omega), take_snoc fs k hj, List.drop_append, List.drop_of_length_le (by simp; omega)]
  refine ⟨?_, rfl⟩
  simp [show min k fs.length = k by omega, DS.puts]
theorem keepsAt_high (fs : List Nat) (k j : Nat) (hj : j < fs.length) (hjk : k < j) : keepsAt fs k (j + 1) = (keepsAt fs k j).put1 j (block (fs.getD j 0)) := by
  unfold keepsAt
  rw [if_neg (by omega), if_neg (by omega), take_snoc fs j hj, List.drop_append_of_le_length (by simp; omega), puts_snoc]
  congr 1
  simp; omega
theorem keepsAt_end (fs : List Nat) (k : Nat) (hk : k < fs.length) : keepsAt fs k fs.length = keepsB fs k := by
  unfold keepsAt keepsB
  rw [if_neg (by omega), List.take_length]
theorem keepsAt_all (fs : List Nat) : (keepsAt fs fs.length fs.length).flushed = keepsB fs fs.length := by
  unfold keepsAt keepsB keepsF
  rw [if_pos (Nat.le_refl _), List.drop_length]
  rfl
theorem keepsB_free (fs : List Nat) (k : Nat) (h : fs.length ≤ 60) (hk : k ≤ fs.length) : Free 60 (keepsB fs k) := by
  have := (keepsF_free fs k h).puts k (fs.drop k) (by simp; omega)
  have hh := this.held
  simp only [List.length_drop] at hh
  exact ⟨this.down, this.armed, this.len, this.ok, this.tidy, by show ((keepsF fs k).puts k (fs.drop k)).held.length ≤ 60; omega⟩

/-- THE LAW. -/
theorem keeps_law (fs : List Nat) (ks : List Int) (k i : Nat) (h : fs.length ≤ 60) (hk : k ≤ fs.length) (hi : i < fs.length) :
    (i < k → ((keepsB fs k).crash ks).sector i = block (fs.getD i 0)) ∧ (k ≤ i → ((keepsB fs k).crash ks).sector i = (block (fs.getD i 0)).extract 0 (keepAt ks (i - k)) ++ zeros (512 - keepAt ks (i - k))) := by
  have hb := keepsB_free fs k h hk
  have hf := fresh_free.puts 0 (fs.take k) (by simp; omega)
  have hF := keepsF_free fs k h
  have hc := (crash_sector hb.ok hb.tidy ks i).1
  have hheld : (keepsB fs k).held = heldOf k (fs.drop k) := by
    unfold keepsB
    rw [puts_held, show (keepsF fs k).held = [] from rfl, List.nil_append]
  have hkept : (keepsB fs k).kept i = if i < k then block (fs.getD i 0) else zeros 512 := by
    unfold keepsB
    rw [(puts_sector (fs.drop k) (keepsF fs k) k (by rw [hF.ok.len, hF.len]; simp; omega) i).2]
    unfold keepsF
    rw [(hf.flushed.2.1 i).2, (puts_sector (fs.take k) (DS.fresh 64) 0 (by simp [DS.fresh]; omega) i).1]
    by_cases h1 : i < k
    · rw [if_pos (by simp; omega), if_pos h1, Nat.sub_zero]
      simp [List.getD, List.getElem?_take, h1]
    · rw [if_neg (by simp; omega), if_neg h1]
      exact (fresh_sector 64 i).1
  rw [hc, hheld, tearF_heldOf, hkept]
  refine ⟨fun h1 => ?_, fun h1 => ?_⟩
  · rw [if_neg (by omega), if_pos h1]
  · rw [if_pos ⟨h1, by simp; omega⟩, if_neg (by omega), Nat.zero_add, torn_zeros _ (keepAt_le ks _)]
    simp [List.getD, List.getElem?_drop, show k + (i - k) = i by omega]

end Go.Proofs.Ytojcoambodedbaa
