/- Any extents as a text, and any text as extents: the law walked. -/
import Derived.Test.YtplplojhgiaabaaTm
import Derived.Test.YtplplojhgiaabaaSay
import Derived.Test.YtplplojhgiaabaaTells
import Derived.Test.YtplplojhgiaabaaW
set_option linter.unusedVariables false
set_option linter.unusedSimpArgs false
set_option linter.unnecessarySimpa false
namespace Go.Proofs.Ytplplojhgiaabaa
open Go.RowKit

set_option maxRecDepth 100000 in
set_option maxHeartbeats 4000000 in
theorem texts_walk (l : List X) (hl : ∀ x ∈ l, x.Ok) (hn : l.length ≤ 10000000000000) (v : Value) (w : World) (h : Lies w v l) (s : ByteArray) (hs : s.size ≤ 140737488351232) :
    Calls Try.prog 7 #[v, .string s] w fun e w' => e = .returned (.bool true) ∧ Below w.heap.size w w' := by
  have cL := Lib.hid (large_any l hn v w h)
  have hL0' := Lib.hid h
  obtain ⟨va, vl, vc, rfl⟩ := lies_slice h
  obtain ⟨bg, hbg⟩ : ∃ bg, big l.length = bg := ⟨_, rfl⟩
  rw [hbg] at cL
  have hW := Lib.hid wakes_any
  cases bg with
  | true =>
    clear hbg hl h
    go_enter Try.func7, Try.ntmps7
    go_wp2_with fail
    refine cL.out.mono ?_
    rintro e w1 ⟨rfl, rfl⟩
    go_wp2_with fail
    refine (hW.out _).mono ?_
    rintro e w2 ⟨rfl, hB⟩
    go_wp2
    go_ret
    exact ⟨rfl, hB⟩
  | false =>
    have hn5 := big_no hbg
    by_cases h5 : 5000 < s.size
    · clear hbg hl h
      go_enter Try.func7, Try.ntmps7
      go_wp2_with fail
      refine cL.out.mono ?_
      rintro e w1 ⟨rfl, rfl⟩
      go_wp2_with fail
      refine (hW.out _).mono ?_
      rintro e w2 ⟨rfl, hB⟩
      go_wp2
      go_ret
      exact ⟨rfl, hB⟩
    · have cE := Lib.hid (few_any l (by omega) _ w h)
      have cX := fun (v : Value) (w : World) (h : Lies w v l) => text_say l hl (by omega) v w h
      have cY := fun (v : Value) (w : World) (h : Lies w v l) => textRef_say l hl (by omega) v w h
      have cP := parse_say s hs
      have cQ := parseRef_say s hs
      have gP := parseOut_good s
      have c1 := Lib.hid (same_self _ gP.oks (by have := gP.1; omega))
      unfold told at cX cY
      unfold answer at cP cQ
      generalize strOf (textOut l) = T at cX cY
      generalize textOk l = so at cX cY
      generalize parseOk s = po at cP cQ
      generalize parseOut s = pl at cP cQ c1
      obtain ⟨si, hsi⟩ : ∃ si : Int, (if so then (0 : Int) else 70) = si ∧ 0 ≤ si ∧ si ≤ 70 := ⟨_, rfl, by split <;> omega, by split <;> omega⟩
      obtain ⟨di, hdi⟩ : ∃ di : Int, (if po then (0 : Int) else 70) = di ∧ 0 ≤ di ∧ di ≤ 70 := ⟨_, rfl, by split <;> omega, by split <;> omega⟩
      rw [hsi.1] at cX cY
      rw [hdi.1] at cP cQ
      obtain ⟨_, hs1, hs2⟩ := hsi
      obtain ⟨_, hd1, hd2⟩ := hdi
      have cX' := Lib.hid cX
      have cY' := Lib.hid cY
      have cP' := Lib.hid cP
      have cQ' := Lib.hid cQ
      have ss : (si == si) = true := by simp
      have dd : (di == di) = true := by simp
      clear hbg hl h cX cY cP cQ gP
      go_enter Try.func7, Try.ntmps7
      go_wp2_with fail
      refine cL.out.mono ?_
      rintro e w1 ⟨rfl, rfl⟩
      go_wp2_with fail
      refine cE.out.mono ?_
      rintro e w2 ⟨v2, rfl, hE, hB2⟩
      obtain ⟨ua, ul, uc, rfl⟩ := lies_slice hE
      have hE2 := Lib.hid hE
      have hL2 := Lib.hid (Lies.below hL0'.out hB2 (Nat.le_refl _))
      clear hE
      go_wp2_with fail
      refine (cX'.out _ _ hE2.out).mono ?_
      rintro e w3 ⟨rfl, hB3⟩
      have hL3 := Lib.hid (Lies.below hL2.out hB3 (Nat.le_refl _))
      have hB03 := hB2.trans (hB3.mono hB2.size)
      go_wp2_with fail
      refine (cY'.out _ _ hL3.out).mono ?_
      rintro e w4 ⟨rfl, hB4⟩
      have hB04 := hB03.trans (hB4.mono hB03.size)
      go_wp2_with fail
      refine (cP'.out _).mono ?_
      rintro e w5 ⟨v5, rfl, hS5, hB5⟩
      obtain ⟨ta, tn, tc, rfl⟩ := lies_slice hS5
      have hS5' := Lib.hid hS5
      clear hS5
      have hB05 := hB04.trans (hB5.mono hB04.size)
      go_wp2_with fail
      refine (cQ'.out _).mono ?_
      rintro e w6 ⟨v6, rfl, hS6, hB6⟩
      obtain ⟨fa, fn, fc, rfl⟩ := lies_slice hS6
      have hS6' := Lib.hid hS6
      have hS56 := Lib.hid (Lies.below hS5'.out hB6 (Nat.le_refl _))
      clear hS6
      have hB06 := hB05.trans (hB6.mono hB05.size)
      go_wp2_with fail
      refine (c1.out _ _ _ hS56.out hS6'.out).mono ?_
      rintro e w7 ⟨rfl, hB7⟩
      have hB07 := hB06.trans (hB7.mono hB06.size)
      go_wp2_with fail
      refine (hW.out _).mono ?_
      rintro e w8 ⟨rfl, hB8⟩
      have hB08 := hB07.trans (hB8.mono hB07.size)
      go_wp2
      go_ret
      exact ⟨rfl, hB08⟩

end Go.Proofs.Ytplplojhgiaabaa
