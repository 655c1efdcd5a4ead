/- What was set is found block by block, what was dropped is nowhere: the law walked. -/
import Derived.Deep.RegionHeld3
import Derived.Test.YtplplojhgiaabaaOrder
set_option linter.unusedVariables false
set_option linter.unusedSimpArgs false
set_option linter.unnecessarySimpa false
namespace Go.Proofs.Ytplplojhgiaabaa
open Go.RowKit

theorem dropOut_look {l : List X} {a m : Int} (hg : Good l) (hc : Cut a m) (j : Int) : look (dropOut l a m) j = if a ≤ j ∧ j < a + m then none else look l j := by
  have h2 : dropOut l a m = gatherF (dropT a m l) 4096 := by unfold dropOut; rw [if_pos ⟨hg, hc⟩]
  obtain ⟨k1, k2⟩ := gather_law (dropT a m l) (dropT_bound hg)
  rw [h2]
  by_cases hj : 0 ≤ j ∧ j < 4096
  · obtain ⟨J, rfl⟩ : ∃ J : Nat, j = J := ⟨j.toNat, by omega⟩
    rw [k2]
    simp only [Int.toNat_natCast]
    by_cases e : a ≤ (J : Int) ∧ (J : Int) < a + m
    · have h1 : dropT a m l J = 0 := by unfold dropT; rw [if_pos e]
      rw [if_pos e, if_neg (by rw [h1]; simp)]
    · have h1 : dropT a m l J = spreadF l J := by unfold dropT; rw [if_neg e]
      rw [if_neg e, h1]
      unfold spreadF
      cases h : look l J with
      | none => simp
      | some p =>
        have := look_range hg h
        dsimp only
        rw [if_pos ⟨by omega, by omega, by omega⟩]
        congr 1
        omega
  · rw [look_out k1 hj]
    by_cases e : a ≤ j ∧ j < a + m
    · rw [if_pos e]
    · rw [if_neg e, look_out hg hj]

/-- The two boxes of x and of r. -/
structure Box5 (W : World) (b : Nat) (x : X) (a m : Int) : Prop where
  x0 : W.cell? ⟨b, 0, none⟩ = some (.int .i64 x.lba)
  x1 : W.cell? ⟨b, 1, none⟩ = some (.int .i64 x.num)
  x2 : W.cell? ⟨b, 2, none⟩ = some (.int .i64 x.pos)
  y0 : W.cell? ⟨b + 1, 0, none⟩ = some (.int .i64 a)
  y1 : W.cell? ⟨b + 1, 1, none⟩ = some (.int .i64 m)

end Go.Proofs.Ytplplojhgiaabaa
