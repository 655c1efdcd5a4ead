/- Which lists are extents, where a block stands, how many do: the law walked. -/
import Derived.Test.YtplplojhgiaabaaQ
import Derived.Test.YtplplojhgiaabaaW
set_option linter.unusedVariables false
set_option linter.unusedSimpArgs false
set_option linter.unnecessarySimpa false
namespace Go.Proofs.Ytplplojhgiaabaa
open Go.RowKit

theorem good_bool (l : List X) : ∃ r : Bool, (r = true ↔ Good l) := by
  by_cases h : Good l
  · exact ⟨true, by simp [h]⟩
  · exact ⟨false, by simp [h]⟩
theorem lies_slice {W : World} {v : Value} {l : List X} (h : Lies W v l) : ∃ a len cap, v = .slice a len cap := by
  rcases h with ⟨a0, c0, rfl, _⟩ | ⟨b, off, cap, rfl, _⟩
  · exact ⟨_, _, _, rfl⟩
  · exact ⟨_, _, _, rfl⟩
theorem big_no {n : Nat} (h : big n = false) : n ≤ 5000 := by
  simp [big] at h
  omega

set_option maxRecDepth 100000 in
set_option maxHeartbeats 4000000 in
theorem tells_walk (l : List X) (hl : ∀ x ∈ l, x.Ok) (hn : l.length ≤ 10000000000000) (v : Value) (w : World) (h : Lies w v l) (q : Int) (hq : fits q) :
    Calls Try.prog 3 #[v, .int .i64 q] w fun e w' => e = .returned (.bool true) ∧ Below w.heap.size w w' := by
  have cL := Lib.hid (large_any l hn v w h)
  obtain ⟨va, vl, vc, rfl⟩ := lies_slice h
  obtain ⟨bg, hbg⟩ : ∃ bg, big l.length = bg := ⟨_, rfl⟩
  rw [hbg] at cL
  have hW := Lib.hid wakes_any
  cases bg with
  | true =>
    clear hbg hl h
    go_enter Try.func3, Try.ntmps3
    go_wp2_with fail
    refine cL.mono ?_
    rintro e w1 ⟨rfl, rfl⟩
    go_wp2_with fail
    refine (hW _).mono ?_
    rintro e w2 ⟨rfl, hB⟩
    go_wp2
    go_ret
    exact ⟨rfl, hB⟩
  | false =>
    have hn5 := big_no hbg
    obtain ⟨r, hr⟩ := good_bool l
    have cE := Lib.hid (few_any l (by omega) _ w h)
    have cF := Lib.hid (fun (v : Value) (w : World) (h : Lies w v l) => find_any l hl (by omega) v w h r hr q hq)
    have cR := Lib.hid (fun (v : Value) (w : World) (h : Lies w v l) => findRef_any l hl (by omega) v w h r hr q hq)
    have cG := Lib.hid (fun (v : Value) (w : World) (h : Lies w v l) => good_any l hl (by omega) v w h r hr)
    have cH := Lib.hid (fun (v : Value) (w : World) (h : Lies w v l) => goodRef_any l hl (by omega) v w h r hr)
    have cU := Lib.hid (fun (v : Value) (w : World) (h : Lies w v l) => used_any l hl (by omega) v w h r hr)
    have cV := Lib.hid (fun (v : Value) (w : World) (h : Lies w v l) => usedRef_any l hl (by omega) v w h r hr)
    have cS := Lib.hid (fun (v v' : Value) (w : World) (h : Lies w v l) (h' : Lies w v' l) => same_any l l hl hl (by omega) (by omega) v v' w h h')
    have hl' := Lib.hid hl
    have h' := Lib.hid h
    clear hbg hl h hr
    generalize (if r then look l q else none) = fo at cF cR
    generalize (if r then total l else 0) = fu at cU cV
    obtain ⟨fp, hfp⟩ : ∃ fp, fo.getD 0 = fp := ⟨_, rfl⟩
    obtain ⟨fb, hfb⟩ : ∃ fb, fo.isSome = fb := ⟨_, rfl⟩
    unfold found at cF cR
    rw [hfp, hfb] at cF cR
    clear hfp hfb
    have hself : decide (l = l) = true := by simp
    rw [hself] at cS
    have cS' := Lib.hid cS
    clear cS hself
    go_enter Try.func3, Try.ntmps3
    go_wp2_with fail
    refine cL.mono ?_
    rintro e w1 ⟨rfl, rfl⟩
    go_wp2_with fail
    refine cE.mono ?_
    rintro e w2 ⟨v2, rfl, hE, hB2⟩
    obtain ⟨ua, ul, uc, rfl⟩ := lies_slice hE
    have hE2 := Lib.hid hE
    clear hE
    have hL2 := Lib.hid (Lies.below h' hB2 (Nat.le_refl _))
    go_wp2_with fail
    refine (cF _ _ hE2).mono ?_
    rintro e w3 ⟨rfl, hB3⟩
    have hE3 := Lib.hid (Lies.below hE2 hB3 (Nat.le_refl _))
    have hL3 := Lib.hid (Lies.below hL2 hB3 (Nat.le_refl _))
    have hB03 := hB2.trans (hB3.mono hB2.size)
    go_wp2_with fail
    refine (cR _ _ hL3).mono ?_
    rintro e w4 ⟨rfl, hB4⟩
    have hE4 := Lib.hid (Lies.below hE3 hB4 (Nat.le_refl _))
    have hL4 := Lib.hid (Lies.below hL3 hB4 (Nat.le_refl _))
    have hB04 := hB03.trans (hB4.mono hB03.size)
    go_wp2_with fail
    refine (cG _ _ hE4).mono ?_
    rintro e w5 ⟨rfl, hB5⟩
    have hE5 := Lib.hid (Lies.below hE4 hB5 (Nat.le_refl _))
    have hL5 := Lib.hid (Lies.below hL4 hB5 (Nat.le_refl _))
    have hB05 := hB04.trans (hB5.mono hB04.size)
    go_wp2_with fail
    refine (cH _ _ hL5).mono ?_
    rintro e w6 ⟨rfl, hB6⟩
    have hE6 := Lib.hid (Lies.below hE5 hB6 (Nat.le_refl _))
    have hL6 := Lib.hid (Lies.below hL5 hB6 (Nat.le_refl _))
    have hB06 := hB05.trans (hB6.mono hB05.size)
    have rr : (r == r) = true := by simp
    have ff : (fb == fb) = true := by simp
    go_wp2_with fail
    refine (cU _ _ hE6).mono ?_
    rintro e w7 ⟨rfl, hB7⟩
    have hE7 := Lib.hid (Lies.below hE6 hB7 (Nat.le_refl _))
    have hL7 := Lib.hid (Lies.below hL6 hB7 (Nat.le_refl _))
    have hB07 := hB06.trans (hB7.mono hB06.size)
    go_wp2_with fail
    refine (cV _ _ hL7).mono ?_
    rintro e w8 ⟨rfl, hB8⟩
    have hE8 := Lib.hid (Lies.below hE7 hB8 (Nat.le_refl _))
    have hL8 := Lib.hid (Lies.below hL7 hB8 (Nat.le_refl _))
    have hB08 := hB07.trans (hB8.mono hB07.size)
    go_wp2_with fail
    refine (cS' _ _ _ hE8 hL8).mono ?_
    rintro e w9 ⟨rfl, hB9⟩
    have hB09 := hB08.trans (hB9.mono hB08.size)
    go_wp2_with fail
    refine (hW _).mono ?_
    rintro e w10 ⟨rfl, hB10⟩
    have hB010 := hB09.trans (hB10.mono hB09.size)
    go_wp2
    go_ret
    exact ⟨rfl, hB010⟩

end Go.Proofs.Ytplplojhgiaabaa
