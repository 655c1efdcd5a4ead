/- The small input that each statement asks first. -/
import Derived.Test.YtplplojhgiaabaaO
set_option linter.unusedVariables false
set_option linter.unusedSimpArgs false
set_option linter.unnecessarySimpa false
namespace Go.Proofs.Ytplplojhgiaabaa
open Go.RowKit

def small : List X := [⟨0, 4, 100⟩]
def small3 : List X := [⟨0, 2, 100⟩, ⟨2, 1, 50⟩, ⟨3, 1, 103⟩]

theorem good_small : Good small := by
  refine ⟨by decide, ?_⟩
  intro i hi x hx
  have : i = 0 := by simp [small] at hi; omega
  subst this
  simp [small] at hx
  subst hx
  exact ⟨by decide, fun p h => absurd h (by decide)⟩
theorem good_small3 : Good small3 := by
  refine ⟨by decide, ?_⟩
  intro i hi x hx
  have : i = 0 ∨ i = 1 ∨ i = 2 := by simp [small3] at hi; omega
  rcases this with rfl | rfl | rfl
  · simp [small3] at hx
    subst hx
    exact ⟨by decide, fun p h => absurd h (by decide)⟩
  · simp [small3] at hx
    subst hx
    refine ⟨by decide, fun p _ hp => ?_⟩
    simp [small3] at hp
    subst hp
    decide
  · simp [small3] at hx
    subst hx
    refine ⟨by decide, fun p _ hp => ?_⟩
    simp [small3] at hp
    subst hp
    decide

theorem small_set (s : List X) (hp : s.Perm (⟨2, 1, 50⟩ :: leftF 2 (2 + 1) small)) (hw : s.Pairwise (fun y z => y.lba ≤ z.lba)) : mergedF s = small3 := by
  have h1 : leftF 2 (2 + 1) small = [⟨0, 2, 100⟩, ⟨3, 1, 103⟩] := by decide
  rw [h1] at hp
  have h2 : s.Perm small3 := hp.trans (by decide)
  have h3 : small3.Pairwise (fun y z => y.lba ≤ z.lba) := by decide
  have h4 : s = small3 := by
    refine List.Perm.eq_of_pairwise (le := fun y z : X => y.lba ≤ z.lba) ?_ hw h3 h2
    intro y z hy hz h5 h6
    rw [h2.mem_iff] at hy
    simp only [small3, List.mem_cons, List.not_mem_nil, or_false] at hy hz
    rcases hy with rfl | rfl | rfl <;> rcases hz with rfl | rfl | rfl <;> first | rfl | (exfalso; revert h5 h6; decide)
  rw [h4]
  decide

set_option maxHeartbeats 4000000 in
theorem wakes_any (w : World) : Calls Try.prog 10 #[] w fun e w' => e = .returned (.bool true) ∧ Below w.heap.size w w' := by
  obtain ⟨W1, hW1⟩ : ∃ W1, W1 = w.alloc (.cells #[.int .i64 0, .int .i64 4, .int .i64 100] 32) := ⟨_, rfl⟩
  have hB1 : Below w.heap.size w W1 := by rw [hW1]; exact (Below.refl _ w).alloc (Nat.le_refl _) _
  have hL1 : Lies W1 (.slice (some ⟨w.heap.size, 0, none⟩) 1 1) small := by
    rw [hW1]
    refine .inr ⟨w.heap.size, 0, 1, rfl, by simp, ?_⟩
    intro k x hk
    have hk0 : k = 0 := by have := (List.getElem?_eq_some_iff.1 hk).1; simp [small] at this; omega
    subst hk0
    simp [small] at hk
    subst hk
    exact new3 w 0 4 100
  have cS := Lib.hid (set_yes small (by decide) _ W1 hL1 ⟨2, 1, 50⟩ good_small (by decide))
  have hok3 : ∀ x ∈ small3, x.Ok := by
    intro x hx
    simp [small3] at hx
    rcases hx with rfl | rfl | rfl <;> (unfold X.Ok fits; decide)
  have cF := fun (v : Value) (W : World) (h : Lies W v small3) => find_any small3 hok3 (by decide) v W h true (by simp [good_small3]) 3 (by unfold fits; decide)
  have cU := fun (v : Value) (W : World) (h : Lies W v small3) => used_any small3 hok3 (by decide) v W h true (by simp [good_small3])
  have e1 : look small3 3 = some 103 := by decide
  have e2 : total small3 = 4 := by decide
  simp only [if_true, e1, e2, found, Option.getD, Option.isSome] at cF cU
  have cF' := Lib.hid cF
  have cU' := Lib.hid cU
  clear cF cU e1 e2 hok3 hL1
  simp only [X.agg, answer] at cS
  go_enter Try.func10, Try.ntmps10
  go_wp2_with fail
  rw [← hW1]
  clear hW1
  refine cS.mono ?_
  rintro e W2 ⟨s, v', hp, hpw, rfl, hL2, hB2⟩
  rw [small_set s hp hpw] at hL2
  have hB02 := hB1.trans (hB2.mono hB1.size)
  have hvl : ∃ a c, v' = .slice a 3 c := by
    rcases hL2 with ⟨_, _, _, h0⟩ | ⟨b, off, cap, h0, _⟩
    · cases h0
    · exact ⟨_, _, h0⟩
  obtain ⟨va, vc, rfl⟩ := hvl
  have hL2' := Lib.hid hL2
  clear hL2 hp hpw cS
  go_wp2_with fail
  refine (cF' _ _ hL2').mono ?_
  rintro e W3 ⟨rfl, hB3⟩
  have hL3 := Lib.hid (Lies.below hL2' hB3 (Nat.le_refl _))
  have hB03 := hB02.trans (hB3.mono hB02.size)
  go_wp2_with fail
  refine (cU' _ _ hL3).mono ?_
  rintro e W4 ⟨rfl, hB4⟩
  have hB04 := hB03.trans (hB4.mono hB03.size)
  go_wp2
  go_ret
  exact ⟨rfl, hB04⟩

end Go.Proofs.Ytplplojhgiaabaa
