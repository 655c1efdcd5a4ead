/- Ints, of two slices that hold the same. -/
import Derived.Test.YtojcoambodedbaaRe
set_option linter.unusedVariables false
set_option linter.unusedSimpArgs false
set_option linter.unnecessarySimpa false
namespace Go.Proofs.Ytojcoambodedbaa
open Go.RowKit

/-- The cells from an address on bear these numbers. -/
def KCells (w : World) (ao : Option Addr) (ks : List Int) : Prop := ∀ j, j < ks.length → ∃ b off, ao = some ⟨b, off, none⟩ ∧ b < w.heap.size ∧ w.cell? ⟨b, off + j, none⟩ = some (.int .i64 (ks.getD j 0))
theorem KCells.upd {F : Nat → Prop} {w w' : World} {ao : Option Addr} {ks : List Int} (h : KCells w ao ks) (u : Upd F w w') (hF : ∀ b off, ao = some ⟨b, off, none⟩ → ¬ F b) : KCells w' ao ks := by
  intro j hj
  obtain ⟨b, off, rfl, hb, hc⟩ := h j hj
  exact ⟨b, off, rfl, Nat.lt_of_lt_of_le hb u.size, (World.cell?_of_block (u.block b hb (hF b off rfl))).trans hc⟩

set_option maxRecDepth 100000 in
theorem ints_same (ks : List Int) (hks : ks.length ≤ 140737488355328) (ao ao' : Option Addr) (kc kc' : Nat) (w : World) (h : KCells w ao ks) (h' : KCells w ao' ks) :
    Calls Try.prog 29 #[.slice ao ks.length kc, .slice ao' ks.length kc'] w fun e w' => e = .returned (.bool true) ∧ ∃ q, w' = w.drewN q := by
  have H := Lib.hid h
  have H' := Lib.hid h'
  clear h h'
  obtain ⟨n, hn⟩ : ∃ n, ks.length = n := ⟨_, rfl⟩
  rw [hn] at hks ⊢
  have HN := Lib.hid hn
  clear hn
  go_enter Try.func29, Try.ntmps29
  go_wp2_with fail
  go_loopw [5] (fun i wr => ∃ k : Nat, k ≤ n ∧ i = .int .i64 k ∧ ∃ q, wr = w.drewN q) (fun i _ => n - (intOf i).toNat)
  case atStart => exact ⟨0, by omega, rfl, 0, rfl⟩
  case round =>
    obtain ⟨k, hk, rfl, q, rfl⟩ := hrel
    by_cases hlt : k < n
    · obtain ⟨b, off, hao, hb, hc⟩ := H.out k (by rw [HN.out]; exact hlt)
      obtain ⟨b', off', hao', hb', hc'⟩ := H'.out k (by rw [HN.out]; exact hlt)
      generalize ks.getD k 0 = v at hc hc'
      subst hao hao'
      have hv : (v == v) = true := by simp
      clear H H'
      go_wp2_with fail
      go_quiet (fail)
      go_wp2
      go_roundw
      case rel => exact ⟨k + 1, by omega, by go_num, _, rfl⟩
      case measure => simp [intOf]; omega
    · go_wp2
      go_ret
      exact ⟨rfl, _, rfl⟩

end Go.Proofs.Ytojcoambodedbaa
