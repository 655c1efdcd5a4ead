/- What was set is found block by block, what was dropped is nowhere: the law walked. -/
import Derived.Test.YtplplojhgiaabaaBlkTT
import Derived.Test.YtplplojhgiaabaaBlkTF
import Derived.Test.YtplplojhgiaabaaBlkFT
import Derived.Test.YtplplojhgiaabaaBlkFF
set_option linter.unusedVariables false
set_option linter.unusedSimpArgs false
set_option linter.unnecessarySimpa false
namespace Go.Proofs.Ytplplojhgiaabaa
open Go.RowKit

set_option maxRecDepth 100000 in
set_option maxHeartbeats 16000000 in
theorem blocks_walk (l : List X) (hl : ∀ x ∈ l, x.Ok) (hn : l.length ≤ 10000000000000) (v : Value) (w : World) (h : Lies w v l) (x : X) (hx : x.Ok) (ra rm : Int) (hra : fits ra) (hrm : fits rm) :
    Calls Try.prog 6 #[v, x.agg, .agg #[.int .i64 ra, .int .i64 rm]] w fun e w' => e = .returned (.bool true) ∧ Below w.heap.size w w' := by
  have h0 := h
  have hx0 := hx
  obtain ⟨W0, hW0⟩ : ∃ W0, W0 = (w.alloc (.cells #[.int .i64 x.lba, .int .i64 x.num, .int .i64 x.pos] 32)).alloc (.cells #[.int .i64 ra, .int .i64 rm] 38) := ⟨_, rfl⟩
  have hB0 : Below w.heap.size w W0 := by rw [hW0]; exact ((Below.refl _ w).alloc (Nat.le_refl _) _).alloc (by simp) _
  have hz0 : W0.heap.size = w.heap.size + 1 + 1 := by rw [hW0]; simp
  have b0 : W0.heap[w.heap.size]? = some (.cells #[.int .i64 x.lba, .int .i64 x.num, .int .i64 x.pos] 32 (0, 0)) := by
    rw [hW0, heap_alloc_old _ _ (by simp)]; exact heap_alloc_new w _
  have b1 : W0.heap[w.heap.size + 1]? = some (.cells #[.int .i64 ra, .int .i64 rm] 38 (0, 0)) := by
    rw [hW0]
    have := heap_alloc_new (w.alloc (.cells #[.int .i64 x.lba, .int .i64 x.num, .int .i64 x.pos] 32)) (.cells #[.int .i64 ra, .int .i64 rm] 38)
    rw [World.size_alloc] at this
    exact this
  have box : ∀ W, Below W0.heap.size W0 W → Box5 W w.heap.size x ra rm := by
    intro W hB
    have e0 := (hB.block w.heap.size (by omega)).trans b0
    have e1 := (hB.block (w.heap.size + 1) (by omega)).trans b1
    refine ⟨?_, ?_, ?_, ?_, ?_⟩ <;> (first | (simp only [World.cell?, e0]; rfl) | (simp only [World.cell?, e1]; rfl))
  have boxh := Lib.hid box
  have hL0 := Lies.below h hB0 (Nat.le_refl _)
  have cL := Lib.hid (large_any l hn v W0 hL0)
  obtain ⟨va, vl, vc, rfl⟩ := lies_slice h
  obtain ⟨bg, hbg⟩ : ∃ bg, big l.length = bg := ⟨_, rfl⟩
  rw [hbg] at cL
  have hW := Lib.hid wakes_any
  obtain ⟨xa, xm, xp⟩ := x
  dsimp only at hW0
  simp only [X.agg]
  cases bg with
  | true =>
    clear hbg hl h b0 b1 box hL0
    go_enter Try.func6, Try.ntmps6
    go_wp2_with fail
    rw [← hW0]
    clear hW0
    refine cL.mono ?_
    rintro e w1 ⟨rfl, rfl⟩
    go_wp2_with fail
    refine (hW _).mono ?_
    rintro e w2 ⟨rfl, hB⟩
    have hBB := hB0.trans (hB.mono hB0.size)
    go_wp2
    go_ret
    exact ⟨rfl, hBB⟩
  | false =>
    have hn5 := big_no hbg
    obtain ⟨r, hr⟩ := good_bool l
    have cG := Lib.hid (goodRef_any l hl (by omega) _ W0 hL0 r hr)
    have hL0' := Lib.hid hL0
    cases r with
    | false =>
      clear hbg hl h b0 b1 box hL0 hr
      go_enter Try.func6, Try.ntmps6
      go_wp2_with fail
      rw [← hW0]
      clear hW0
      refine cL.mono ?_
      rintro e w1 ⟨rfl, rfl⟩
      go_wp2_with fail
      refine cG.mono ?_
      rintro e w2 ⟨rfl, hB2⟩
      go_wp2_with fail
      refine (hW _).mono ?_
      rintro e w3 ⟨rfl, hB3⟩
      have hBB := hB0.trans ((hB2.trans (hB3.mono hB2.size)).mono hB0.size)
      go_wp2
      go_ret
      exact ⟨rfl, hBB⟩
    | true =>
      have hg : Good l := hr.1 rfl
      by_cases hox : One ⟨xa, xm, xp⟩
      · by_cases hoy : Cut ra rm
        · exact blocks_tt l hl hn _ w h0 _ hx0 ra rm hra hrm hbg hg hox hoy
        · exact blocks_tf l hl hn _ w h0 _ hx0 ra rm hra hrm hbg hg hox hoy
      · by_cases hoy : Cut ra rm
        · exact blocks_ft l hl hn _ w h0 _ hx0 ra rm hra hrm hbg hg hox hoy
        · exact blocks_ff l hl hn _ w h0 _ hx0 ra rm hra hrm hbg hg hox hoy

end Go.Proofs.Ytplplojhgiaabaa
