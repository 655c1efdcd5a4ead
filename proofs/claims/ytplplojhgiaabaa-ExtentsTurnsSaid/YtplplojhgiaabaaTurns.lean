/- Any extents with others set, and with blocks dropped: the law walked. -/
import Derived.Test.YtplplojhgiaabaaSay
import Derived.Test.YtplplojhgiaabaaW
set_option linter.unusedVariables false
set_option linter.unusedSimpArgs false
set_option linter.unnecessarySimpa false
namespace Go.Proofs.Ytplplojhgiaabaa
open Go.RowKit

set_option maxRecDepth 100000 in
set_option maxHeartbeats 4000000 in
theorem turns_walk (l : List X) (hl : ∀ x ∈ l, x.Ok) (hn : l.length ≤ 10000000000000) (v : Value) (w : World) (h : Lies w v l) (x : X) (hx : x.Ok) (a m : Int) (ha : fits a) (hm : fits m) :
    Calls Try.prog 5 #[v, x.agg, .agg #[.int .i64 a, .int .i64 m]] w fun e w' => e = .returned (.bool true) ∧ Below w.heap.size w w' := by
  obtain ⟨xa, xm, xp⟩ := x
  obtain ⟨W0, hW0⟩ : ∃ W0, W0 = (w.alloc (.cells #[.int .i64 xa, .int .i64 xm, .int .i64 xp] 32)).alloc (.cells #[.int .i64 a, .int .i64 m] 38) := ⟨_, rfl⟩
  have hB0 : Below w.heap.size w W0 := by rw [hW0]; exact ((Below.refl _ w).alloc (Nat.le_refl _) _).alloc (by simp) _
  have hz0 : W0.heap.size = w.heap.size + 1 + 1 := by rw [hW0]; simp
  have b0 : W0.heap[w.heap.size]? = some (.cells #[.int .i64 xa, .int .i64 xm, .int .i64 xp] 32 (0, 0)) := by
    rw [hW0, heap_alloc_old _ _ (by simp)]; exact heap_alloc_new w _
  have b1 : W0.heap[w.heap.size + 1]? = some (.cells #[.int .i64 a, .int .i64 m] 38 (0, 0)) := by
    rw [hW0]
    have := heap_alloc_new (w.alloc (.cells #[.int .i64 xa, .int .i64 xm, .int .i64 xp] 32)) (.cells #[.int .i64 a, .int .i64 m] 38)
    rw [World.size_alloc] at this
    exact this
  have box : ∀ W, Below W0.heap.size W0 W → (W.cell? ⟨w.heap.size, 0, none⟩ = some (.int .i64 xa) ∧ W.cell? ⟨w.heap.size, 1, none⟩ = some (.int .i64 xm) ∧ W.cell? ⟨w.heap.size, 2, none⟩ = some (.int .i64 xp)) ∧ W.cell? ⟨w.heap.size + 1, 0, none⟩ = some (.int .i64 a) ∧ W.cell? ⟨w.heap.size + 1, 1, none⟩ = some (.int .i64 m) := by
    intro W hB
    have e0 := (hB.block w.heap.size (by omega)).trans b0
    have e1 := (hB.block (w.heap.size + 1) (by omega)).trans b1
    refine ⟨⟨?_, ?_, ?_⟩, ?_, ?_⟩ <;> (first | (simp only [World.cell?, e0]; rfl) | (simp only [World.cell?, e1]; rfl))
  have boxh := Lib.hid box
  have hL0 := Lies.below h hB0 (Nat.le_refl _)
  have cL := Lib.hid (large_any l hn v W0 hL0)
  obtain ⟨va, vl, vc, rfl⟩ := lies_slice h
  obtain ⟨bg, hbg⟩ : ∃ bg, big l.length = bg := ⟨_, rfl⟩
  rw [hbg] at cL
  have hW := Lib.hid wakes_any
  simp only [X.agg]
  cases bg with
  | true =>
    clear hbg hl h b0 b1 box hL0
    go_enter Try.func5, Try.ntmps5
    go_wp2_with fail
    rw [← hW0]
    clear hW0
    refine cL.mono ?_
    rintro e w1 ⟨rfl, rfl⟩
    go_wp2_with fail
    refine (hW _).mono ?_
    rintro e w2 ⟨rfl, hB⟩
    have hBB := hB0.trans (hB.mono hB0.size)
    go_wp2
    go_ret
    exact ⟨rfl, hBB⟩
  | false =>
    have hn5 := big_no hbg
    have cE := Lib.hid (few_any l (by omega) _ W0 hL0)
    have cS := Lib.hid (fun (v : Value) (w : World) (h : Lies w v l) => set_say l hl (by omega) ⟨xa, xm, xp⟩ hx v w h)
    have cT := Lib.hid (fun (v : Value) (w : World) (h : Lies w v l) => setRef_say l hl (by omega) ⟨xa, xm, xp⟩ hx v w h)
    have cD := Lib.hid (fun (v : Value) (w : World) (h : Lies w v l) => drop_say l hl (by omega) a m ha hm v w h)
    have cF := Lib.hid (fun (v : Value) (w : World) (h : Lies w v l) => dropRef_say l hl (by omega) a m ha hm v w h)
    have gS := setOut_good l ⟨xa, xm, xp⟩
    have gD := dropOut_good l a m
    have c1 := Lib.hid (same_self _ gS.oks (by have := gS.1; omega))
    have c2 := Lib.hid (same_self _ gD.oks (by have := gD.1; omega))
    have c3 := Lib.hid (same_self l hl (by omega))
    generalize setOk l ⟨xa, xm, xp⟩ = so at cS cT
    generalize dropOk l a m = do' at cD cF
    generalize setOut l ⟨xa, xm, xp⟩ = sl at cS cT c1
    generalize dropOut l a m = dl at cD cF c2
    obtain ⟨si, hsi⟩ : ∃ si : Int, (if so then (0 : Int) else 70) = si ∧ 0 ≤ si ∧ si ≤ 70 := ⟨_, rfl, by split <;> omega, by split <;> omega⟩
    obtain ⟨di, hdi⟩ : ∃ di : Int, (if do' then (0 : Int) else 70) = di ∧ 0 ≤ di ∧ di ≤ 70 := ⟨_, rfl, by split <;> omega, by split <;> omega⟩
    unfold answer at cS cT cD cF
    rw [hsi.1] at cS cT
    rw [hdi.1] at cD cF
    obtain ⟨_, hs1, hs2⟩ := hsi
    obtain ⟨_, hd1, hd2⟩ := hdi
    simp only [X.agg] at cS cT
    have hL0' := Lib.hid hL0
    have ss : (si == si) = true := by simp
    have dd : (di == di) = true := by simp
    clear hbg hl h b0 b1 box hL0 gS gD
    go_enter Try.func5, Try.ntmps5
    go_wp2_with fail
    rw [← hW0]
    clear hW0
    refine cL.mono ?_
    rintro e w1 ⟨rfl, rfl⟩
    go_wp2_with fail
    refine cE.mono ?_
    rintro e w2 ⟨v2, rfl, hE, hB2⟩
    obtain ⟨ua, ul, uc, rfl⟩ := lies_slice hE
    have hE2 := Lib.hid hE
    clear hE
    have hL2 := Lib.hid (Lies.below hL0' hB2 (Nat.le_refl _))
    obtain ⟨⟨x0, x1, x2⟩, x3, x4⟩ := boxh _ hB2
    go_wp2_with fail
    refine (cS _ _ hE2).mono ?_
    rintro e w3 ⟨v3, rfl, hS3, hB3⟩
    obtain ⟨sa, sn, sc, rfl⟩ := lies_slice hS3
    have hS3' := Lib.hid hS3
    clear hS3 x0 x1 x2 x3 x4
    have hE3 := Lib.hid (Lies.below hE2 hB3 (Nat.le_refl _))
    have hL3 := Lib.hid (Lies.below hL2 hB3 (Nat.le_refl _))
    have hB03 := hB2.trans (hB3.mono hB2.size)
    obtain ⟨⟨x0, x1, x2⟩, x3, x4⟩ := boxh _ hB03
    go_wp2_with fail
    refine (cT _ _ hL3).mono ?_
    rintro e w4 ⟨v4, rfl, hT4, hB4⟩
    obtain ⟨ta, tn, tc, rfl⟩ := lies_slice hT4
    have hT4' := Lib.hid hT4
    clear hT4 x0 x1 x2 x3 x4
    have hE4 := Lib.hid (Lies.below hE3 hB4 (Nat.le_refl _))
    have hL4 := Lib.hid (Lies.below hL3 hB4 (Nat.le_refl _))
    have hS4 := Lib.hid (Lies.below hS3' hB4 (Nat.le_refl _))
    have hB04 := hB03.trans (hB4.mono hB03.size)
    obtain ⟨⟨x0, x1, x2⟩, x3, x4⟩ := boxh _ hB04
    go_wp2_with fail
    refine (cD _ _ hE4).mono ?_
    rintro e w5 ⟨v5, rfl, hD5, hB5⟩
    obtain ⟨da, dn, dc, rfl⟩ := lies_slice hD5
    have hD5' := Lib.hid hD5
    clear hD5 x0 x1 x2 x3 x4
    have hE5 := Lib.hid (Lies.below hE4 hB5 (Nat.le_refl _))
    have hL5 := Lib.hid (Lies.below hL4 hB5 (Nat.le_refl _))
    have hS5 := Lib.hid (Lies.below hS4 hB5 (Nat.le_refl _))
    have hT5 := Lib.hid (Lies.below hT4' hB5 (Nat.le_refl _))
    have hB05 := hB04.trans (hB5.mono hB04.size)
    obtain ⟨⟨x0, x1, x2⟩, x3, x4⟩ := boxh _ hB05
    go_wp2_with fail
    refine (cF _ _ hL5).mono ?_
    rintro e w6 ⟨v6, rfl, hF6, hB6⟩
    obtain ⟨fa, fn, fc, rfl⟩ := lies_slice hF6
    have hF6' := Lib.hid hF6
    clear hF6 x0 x1 x2 x3 x4
    have hE6 := Lib.hid (Lies.below hE5 hB6 (Nat.le_refl _))
    have hL6 := Lib.hid (Lies.below hL5 hB6 (Nat.le_refl _))
    have hS6 := Lib.hid (Lies.below hS5 hB6 (Nat.le_refl _))
    have hT6 := Lib.hid (Lies.below hT5 hB6 (Nat.le_refl _))
    have hD6 := Lib.hid (Lies.below hD5' hB6 (Nat.le_refl _))
    have hB06 := hB05.trans (hB6.mono hB05.size)
    go_wp2_with fail
    refine (c1 _ _ _ hS6 hT6).mono ?_
    rintro e w7 ⟨rfl, hB7⟩
    have hE7 := Lib.hid (Lies.below hE6 hB7 (Nat.le_refl _))
    have hL7 := Lib.hid (Lies.below hL6 hB7 (Nat.le_refl _))
    have hD7 := Lib.hid (Lies.below hD6 hB7 (Nat.le_refl _))
    have hF7 := Lib.hid (Lies.below hF6' hB7 (Nat.le_refl _))
    have hB07 := hB06.trans (hB7.mono hB06.size)
    go_wp2_with fail
    refine (c2 _ _ _ hD7 hF7).mono ?_
    rintro e w8 ⟨rfl, hB8⟩
    have hE8 := Lib.hid (Lies.below hE7 hB8 (Nat.le_refl _))
    have hL8 := Lib.hid (Lies.below hL7 hB8 (Nat.le_refl _))
    have hB08 := hB07.trans (hB8.mono hB07.size)
    go_wp2_with fail
    refine (c3 _ _ _ hE8 hL8).mono ?_
    rintro e w9 ⟨rfl, hB9⟩
    have hB09 := hB08.trans (hB9.mono hB08.size)
    go_wp2_with fail
    refine (hW _).mono ?_
    rintro e w10 ⟨rfl, hB10⟩
    have hB010 := hB0.trans ((hB09.trans (hB10.mono hB09.size)).mono hB0.size)
    go_wp2
    go_ret
    exact ⟨rfl, hB010⟩

end Go.Proofs.Ytplplojhgiaabaa
