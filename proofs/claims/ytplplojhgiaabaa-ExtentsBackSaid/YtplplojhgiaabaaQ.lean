/- The page's Find. -/
import Derived.Test.YtplplojhgiaabaaP
set_option linter.unusedVariables false
set_option linter.unusedSimpArgs false
set_option linter.unnecessarySimpa false
namespace Go.Proofs.Ytplplojhgiaabaa
open Go.RowKit

theorem look_some {l : List X} {j p : Int} (h : look l j = some p) : ∃ x ∈ l, x.lba ≤ j ∧ j < x.lba + x.num ∧ p = x.pos + j - x.lba := by
  induction l with
  | nil => cases h
  | cons y l ih =>
    rw [look] at h
    split at h
    · rename_i hin
      exact ⟨y, by simp, hin.1, hin.2, by simpa using h.symm⟩
    · obtain ⟨x, hx, r⟩ := ih h
      exact ⟨x, by simp [hx], r⟩
theorem Good.one_mem {l : List X} (h : Good l) {x : X} (hx : x ∈ l) : One x := by
  obtain ⟨k, hk, rfl⟩ := List.getElem_of_mem hx
  exact h.one (List.getElem?_eq_getElem hk)
theorem look_range {l : List X} (hg : Good l) {j p : Int} (h : look l j = some p) : 0 ≤ j ∧ j < 4096 ∧ 0 ≤ p ∧ p < 8192 := by
  obtain ⟨x, hx, h1, h2, h3⟩ := look_some h
  have ho := hg.one_mem hx
  unfold One at ho
  omega
theorem spread_bound {l : List X} (hg : Good l) (j : Nat) : 0 ≤ spreadF l j ∧ spreadF l j ≤ 8192 := by
  unfold spreadF
  cases h : look l j with
  | none => simp
  | some p => have := look_range hg h; dsimp only; omega

set_option maxRecDepth 100000 in
set_option maxHeartbeats 4000000 in
theorem findRef_any (l : List X) (hl : ∀ x ∈ l, x.Ok) (hn : l.length ≤ 1000000000) (v : Value) (w : World) (h : Lies w v l) (r : Bool) (hr : r = true ↔ Good l) (q : Int) (hq : fits q) :
    Calls Try.prog 13 #[v, .int .i64 q] w fun e w' => e = .returned (found (if r then look l q else none)) ∧ Below w.heap.size w w' := by
  have hG := Lib.hid (goodRef_any l hl hn v w h r hr)
  obtain ⟨hq1, hq2⟩ := hq
  have hv : ∃ a len cap, v = .slice a len cap := by
    rcases h with ⟨_, _, rfl, _⟩ | ⟨b, off, cap, rfl, _⟩
    · exact ⟨_, _, _, rfl⟩
    · exact ⟨_, _, _, rfl⟩
  obtain ⟨va, vl, vc, rfl⟩ := hv
  have h' := Lib.hid h
  have hl' := Lib.hid hl
  clear h hl
  cases r with
  | false =>
    clear hr
    go_enter Try.func13, Try.ntmps13
    go_wp2_with fail
    refine hG.mono ?_
    rintro e w1 ⟨rfl, hB1⟩
    go_wp2
    go_ret2
    exact ⟨rfl, hB1⟩
  | true =>
    have hg : Good l := hr.1 rfl
    have hgh := Lib.hid hg
    clear hr hg
    by_cases hlo : q < 0
    · have hno : look l q = none := by
        cases hlk : look l q with
        | none => rfl
        | some p => have := look_range hgh hlk; omega
      have hno' := Lib.hid hno
      clear hno
      go_enter Try.func13, Try.ntmps13
      go_wp2_with fail
      refine hG.mono ?_
      rintro e w1 ⟨rfl, hB1⟩
      go_wp2
      go_ret2
      refine ⟨?_, hB1⟩
      rw [show look l q = none from hno']
      rfl
    · by_cases hhi : 4096 ≤ q
      · have hno : look l q = none := by
          cases hlk : look l q with
          | none => rfl
          | some p => have := look_range hgh hlk; omega
        have hno' := Lib.hid hno
        clear hno
        go_enter Try.func13, Try.ntmps13
        go_wp2_with fail
        refine hG.mono ?_
        rintro e w1 ⟨rfl, hB1⟩
        go_wp2
        go_ret2
        refine ⟨?_, hB1⟩
        rw [show look l q = none from hno']
        rfl
      · obtain ⟨Q, rfl⟩ : ∃ Q : Nat, q = Q := ⟨q.toNat, by omega⟩
        have hQ : Q < 4096 := by omega
        have hsb := spread_bound hgh Q
        have hlk : look l Q = if spreadF l Q = 0 then none else some (spreadF l Q - 1) := by
          unfold spreadF
          cases hx : look l Q with
          | none => simp
          | some p =>
            have := look_range hgh hx
            dsimp only
            rw [if_neg (by omega)]
            simp
        have hlk' := Lib.hid hlk
        clear hlk
        obtain ⟨f, hf⟩ : ∃ f, spreadF l Q = f := ⟨_, rfl⟩
        rw [hf] at hsb hlk'
        have hf' := Lib.hid hf
        clear hf
        have hS := Lib.hid (fun (w1 : World) (hL : Lies w1 (.slice va vl vc) l) => spread_any l hgh (.slice va vl vc) w1 hL)
        go_enter Try.func13, Try.ntmps13
        go_wp2_with fail
        refine hG.mono ?_
        rintro e w1 ⟨rfl, hB1⟩
        have hL1 := Lib.hid (Lies.below h' hB1 (Nat.le_refl _))
        go_wp2_with fail
        refine (hS w1 hL1).mono ?_
        rintro e w2 ⟨g, rfl, hgw, hT, hB2⟩
        have t1 := hT.cell hQ
        rw [show spreadF l Q = f from hf'] at t1
        have hB02 := hB1.trans (hB2.mono hB1.size)
        have hL2 := Lib.hid (Lies.below hL1 hB2 (Nat.le_refl _))
        clear hT
        by_cases hz : f = 0
        · subst hz
          go_wp2
          go_ret2
          refine ⟨?_, hB02⟩
          rw [show look l Q = _ from hlk', if_pos (by trivial)]
          rfl
        · have hzb : (f == 0) = false := by simp [hz]
          go_wp2_with fail
          refine (hS w2 hL2).mono ?_
          rintro e w3 ⟨g3, rfl, hgw3, hT3, hB3⟩
          have t3 := hT3.cell hQ
          rw [show spreadF l Q = f from hf'] at t3
          have hB03 := hB02.trans (hB3.mono hB02.size)
          clear hT3
          go_wp2
          go_ret2
          refine ⟨?_, hB03⟩
          rw [show look l Q = _ from hlk', if_neg hz]
          rfl

end Go.Proofs.Ytplplojhgiaabaa
