/- An extent that may be: the program's test and the page's. -/
import Derived.Test.YtplplojhgiaabaaA
set_option linter.unusedVariables false
set_option linter.unusedSimpArgs false
set_option linter.unnecessarySimpa false
namespace Go.Proofs.Ytplplojhgiaabaa
open Go.RowKit

theorem bool_of {r : Bool} {P : Prop} (h : r = true ↔ P) : ∀ b : Bool, (b = true ↔ P) → Value.bool b = Value.bool r := by
  intro b hb
  have : b = r := by cases b <;> cases r <;> simp_all
  rw [this]

set_option maxHeartbeats 1000000 in
theorem alone_any (x : X) (hx : x.Ok) (w : World) : Calls Try.prog 28 #[x.agg] w fun e w' => e = .returned (.bool (decide (One x))) ∧ Below w.heap.size w w' := by
  obtain ⟨r, hr⟩ : ∃ r, r = decide (One x) := ⟨_, rfl⟩
  rw [← hr]
  have hi : r = true ↔ One x := by rw [hr]; simp
  clear hr
  obtain ⟨a, n, p⟩ := x
  obtain ⟨⟨h1, h2⟩, ⟨h3, h4⟩, ⟨h5, h6⟩⟩ := hx
  unfold One at hi
  simp only [X.agg]
  dsimp only at *
  have hi' := Lib.hid hi
  clear hi
  go_enter Try.func28, Try.ntmps28
  go_wp2
  all_goals
    go_ret
    refine ⟨congrArg Ending.returned (bool_of hi' _ ?_), (Below.refl _ w).alloc (Nat.le_refl _) _⟩
    simp only [decide_eq_true_eq, Bool.false_eq_true, false_iff]
    omega

set_option maxHeartbeats 1000000 in
theorem one_any (x : X) (hx : x.Ok) (w : World) : Calls Try.prog 29 #[x.agg] w fun e w' => e = .returned (.bool (decide (One x))) ∧ Below w.heap.size w w' := by
  obtain ⟨r, hr⟩ : ∃ r, r = decide (One x) := ⟨_, rfl⟩
  rw [← hr]
  have hi : r = true ↔ One x := by rw [hr]; simp
  clear hr
  obtain ⟨a, n, p⟩ := x
  obtain ⟨⟨h1, h2⟩, ⟨h3, h4⟩, ⟨h5, h6⟩⟩ := hx
  unfold One at hi
  simp only [X.agg]
  dsimp only at *
  have hi' := Lib.hid hi
  clear hi
  go_enter Try.func29, Try.ntmps29
  go_wp2
  all_goals
    go_ret
    refine ⟨congrArg Ending.returned (bool_of hi' _ ?_), (Below.refl _ w).alloc (Nat.le_refl _) _⟩
    simp only [decide_eq_true_eq, Bool.false_eq_true, false_iff]
    omega

end Go.Proofs.Ytplplojhgiaabaa
