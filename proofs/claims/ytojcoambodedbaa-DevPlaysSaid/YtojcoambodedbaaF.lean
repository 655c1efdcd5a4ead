/- Write where it is refused; settle; Flush. -/
import Derived.Test.YtojcoambodedbaaE
set_option linter.unusedVariables false
set_option linter.unusedSimpArgs false
set_option linter.unnecessarySimpa false
namespace Go.Proofs.Ytojcoambodedbaa
open Go.RowKit

theorem write_place (D : DH) (S : DS) (at' : Int) (data : ByteArray) (w : World) (h : DevAt w D S) (hsz : data.size ≤ 140737488355328)
    (hbad : ¬ data.size % 512 = 0 ∨ at' < 0 ∨ S.safe.length < at' ∨ (S.safe.length : Int) - at' < data.size / 512) :
    Calls Try.prog 12 #[.pointer (some ⟨D.b, 0, none⟩), .int .i64 at', .string data] w fun e w' => e = .returned (.int .i64 40) ∧ w = w' := by
  have c0 : w.cell? ⟨D.b, 0, none⟩ = some (.slice (some ⟨D.bs, 0, none⟩) S.safe.length S.safe.length) := by rw [h.blk.cell]; rfl
  have hs := h.small
  clear h
  generalize S.safe.length = n at *
  by_cases h1 : data.size % 512 = 0
  · have e1 : ((data.size : Int) % 512 != 0) = false := by simp; omega
    by_cases h2 : at' < 0
    · clear hbad h1
      go_enter Try.func12, Try.ntmps12
      go_wp2
      go_ret
      exact ⟨rfl, rfl⟩
    · have h2' : 0 ≤ at' := by omega
      by_cases h3 : (n : Int) < at'
      · clear hbad h1
        go_enter Try.func12, Try.ntmps12
        go_wp2
        go_ret
        exact ⟨rfl, rfl⟩
      · have h4 : (n : Int) - at' < data.size / 512 := by omega
        have h3' : at' ≤ n := by omega
        clear hbad h1 h2 h3
        go_enter Try.func12, Try.ntmps12
        go_wp2
        go_ret
        exact ⟨rfl, rfl⟩
  · have e1 : ((data.size : Int) % 512 != 0) = true := by simp; omega
    clear hbad h1
    go_enter Try.func12, Try.ntmps12
    go_wp2
    go_ret
    exact ⟨rfl, rfl⟩

theorem write_down (D : DH) (S : DS) (at' m : Nat) (data : ByteArray) (w : World) (h : DevAt w D S) (hd : data.size = m * 512) (ha : at' + m ≤ S.safe.length) (hdn : S.down = true) :
    Calls Try.prog 12 #[.pointer (some ⟨D.b, 0, none⟩), .int .i64 at', .string data] w fun e w' => e = .returned (.int .i64 41) ∧ w = w' := by
  have c0 : w.cell? ⟨D.b, 0, none⟩ = some (.slice (some ⟨D.bs, 0, none⟩) S.safe.length S.safe.length) := by rw [h.blk.cell]; rfl
  have c6 : w.cell? ⟨D.b, 6, none⟩ = some (.bool true) := by rw [h.blk.cell, ← hdn]; rfl
  have hs := h.small
  have e1 : ((data.size : Int) % 512 != 0) = false := by rw [hd]; simp
  have e2 : (data.size : Int) / 512 = m := by rw [hd]; omega
  have e3 : ¬ (at' : Int) < 0 := by omega
  have e4 : ¬ (S.safe.length : Int) < at' := by omega
  have e5 : ¬ (S.safe.length : Int) - at' < m := by omega
  have h5 : at' + m ≤ 8192 := by omega
  clear h hd hdn
  go_enter Try.func12, Try.ntmps12
  go_wp2
  go_ret
  exact ⟨rfl, rfl⟩

theorem write_nil (at' : Int) (w : World) :
    Calls Try.prog 12 #[.pointer none, .int .i64 at', .string ⟨#[]⟩] w fun e w' => e = .returned (.int .i64 1) ∧ w = w' := by
  go_enter Try.func12, Try.ntmps12
  go_wp2
  go_ret
  exact ⟨rfl, rfl⟩

end Go.Proofs.Ytojcoambodedbaa
