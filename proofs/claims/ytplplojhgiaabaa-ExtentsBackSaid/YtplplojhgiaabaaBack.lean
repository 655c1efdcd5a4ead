/- What was written is read as it was, what was read is written as it was: the law walked. -/
import Derived.Test.YtplplojhgiaabaaTexts
set_option linter.unusedVariables false
set_option linter.unusedSimpArgs false
set_option linter.unnecessarySimpa false
namespace Go.Proofs.Ytplplojhgiaabaa
open Go.RowKit

theorem parseOk_text {l : List X} (hg : Good l) : parseOk (strOf (textF l)) = true ∧ parseOut (strOf (textF l)) = l := by
  have h1 := fit_text hg
  have h2 : parsed (strOf (textF l)) (num4 (strOf (textF l)) 0) = l := by
    rw [num_text hg, parsed_text hg _ (Nat.le_refl _), List.take_of_length_le (Nat.le_refl _)]
  unfold parseOk parseOut
  rw [h2]
  simp [h1, hg]
theorem text_parse {s : ByteArray} (h : parseOk s = true) : textOk (parseOut s) = true ∧ strOf (textOut (parseOut s)) = s := by
  unfold parseOk at h
  have h' : Fit s ∧ Good (parsed s (num4 s 0)) := by simpa using h
  unfold textOk textOut parseOut
  rw [if_pos h', if_pos h'.2]
  exact ⟨by simp [h'.2], text_parsed h'.1⟩
theorem parseOut_no {s : ByteArray} (h : parseOk s = false) : parseOut s = [] := by
  unfold parseOk at h
  have h' : ¬ (Fit s ∧ Good (parsed s (num4 s 0))) := by simpa using h
  unfold parseOut
  rw [if_neg h']
theorem lies_none {W : World} {v : Value} (h : Lies W v []) : ∃ a c, v = .slice a 0 c := by
  rcases h with ⟨a, c, rfl, _⟩ | ⟨b, off, cap, rfl, _⟩
  · exact ⟨_, _, rfl⟩
  · exact ⟨_, _, rfl⟩

set_option maxRecDepth 100000 in
set_option maxHeartbeats 4000000 in
theorem back_walk (l : List X) (hl : ∀ x ∈ l, x.Ok) (hn : l.length ≤ 10000000000000) (v : Value) (w : World) (h : Lies w v l) (s : ByteArray) (hs : s.size ≤ 140737488351232) :
    Calls Try.prog 8 #[v, .string s] w fun e w' => e = .returned (.bool true) ∧ Below w.heap.size w w' := by
  have cL := Lib.hid (large_any l hn v w h)
  have hL0' := Lib.hid h
  obtain ⟨va, vl, vc, rfl⟩ := lies_slice h
  obtain ⟨bg, hbg⟩ : ∃ bg, big l.length = bg := ⟨_, rfl⟩
  rw [hbg] at cL
  have hW := Lib.hid wakes_any
  cases bg with
  | true =>
    clear hbg hl h
    go_enter Try.func8, Try.ntmps8
    go_wp2_with fail
    refine cL.out.mono ?_
    rintro e w1 ⟨rfl, rfl⟩
    go_wp2_with fail
    refine (hW.out _).mono ?_
    rintro e w2 ⟨rfl, hB⟩
    go_wp2
    go_ret
    exact ⟨rfl, hB⟩
  | false =>
    have hn5 := big_no hbg
    by_cases h5 : 5000 < s.size
    · clear hbg hl h
      go_enter Try.func8, Try.ntmps8
      go_wp2_with fail
      refine cL.out.mono ?_
      rintro e w1 ⟨rfl, rfl⟩
      go_wp2_with fail
      refine (hW.out _).mono ?_
      rintro e w2 ⟨rfl, hB⟩
      go_wp2
      go_ret
      exact ⟨rfl, hB⟩
    · have cE := Lib.hid (few_any l (by omega) _ w h)
      have cX := fun (v : Value) (w : World) (h : Lies w v l) => text_say l hl (by omega) v w h
      have cP := parse_say s hs
      have gP := parseOut_good s
      have cU := fun (v : Value) (w : World) (h : Lies w v (parseOut s)) => text_say (parseOut s) gP.oks (by have := gP.1; omega) v w h
      have cG := Lib.hid (fun (v : Value) (w : World) (h : Lies w v (parseOut s)) => good_any (parseOut s) gP.oks (by have := gP.1; omega) v w h true (by simp [gP]))
      have c1 := Lib.hid (same_self l hl (by omega))
      unfold told at cX cU
      unfold answer at cP
      by_cases hg : Good l
      · have e1 : textOk l = true := by unfold textOk; simp [hg]
        have e2 : textOut l = textF l := by unfold textOut; rw [if_pos hg]
        have hTl : (strOf (textF l)).size ≤ 140737488351232 := by rw [strOf_size, textF_length]; have := hg.1; omega
        have cR := parse_say (strOf (textF l)) hTl
        obtain ⟨e3, e4⟩ := parseOk_text hg
        unfold answer at cR
        rw [e1, e2] at cX
        rw [e3, e4] at cR
        simp only [if_true] at cX cR
        generalize strOf (textF l) = T at cX cR
        have cX' := Lib.hid cX
        have cR' := Lib.hid cR
        clear cX cR e1 e2 e3 e4 hTl hg
        cases hpo : parseOk s with
        | true =>
          rw [hpo] at cP
          obtain ⟨e5, e6⟩ := text_parse hpo
          rw [e5, e6] at cU
          simp only [if_true] at cP cU
          have cU' := Lib.hid cU
          generalize parseOut s = pl at cP cU' cG
          clear e5 e6 cU
          have cP' := Lib.hid cP
          clear cP gP hpo hbg hl h
          go_enter Try.func8, Try.ntmps8
          go_wp2_with fail
          refine cL.out.mono ?_
          rintro e w1 ⟨rfl, rfl⟩
          go_wp2_with fail
          refine cE.out.mono ?_
          rintro e w2 ⟨v2, rfl, hE, hB2⟩
          obtain ⟨ua, ul, uc, rfl⟩ := lies_slice hE
          have hE2 := Lib.hid hE
          have hL2 := Lib.hid (Lies.below hL0'.out hB2 (Nat.le_refl _))
          clear hE
          go_wp2_with fail
          refine (cX'.out _ _ hE2.out).mono ?_
          rintro e w3 ⟨rfl, hB3⟩
          have hL3 := Lib.hid (Lies.below hL2.out hB3 (Nat.le_refl _))
          have hB03 := hB2.trans (hB3.mono hB2.size)
          go_wp2_with fail
          refine (cR'.out _).mono ?_
          rintro e w4 ⟨v4, rfl, hS4, hB4⟩
          obtain ⟨ta, tn, tc, rfl⟩ := lies_slice hS4
          have hS4' := Lib.hid hS4
          clear hS4
          have hL4 := Lib.hid (Lies.below hL3.out hB4 (Nat.le_refl _))
          have hB04 := hB03.trans (hB4.mono hB03.size)
          go_wp2_with fail
          refine (c1.out _ _ _ hS4'.out hL4.out).mono ?_
          rintro e w5 ⟨rfl, hB5⟩
          have hB05 := hB04.trans (hB5.mono hB04.size)
          go_wp2_with fail
          refine (cP'.out _).mono ?_
          rintro e w6 ⟨v6, rfl, hS6, hB6⟩
          have hB06 := hB05.trans (hB6.mono hB05.size)
          obtain ⟨fa, fn, fc, rfl⟩ := lies_slice hS6
          have hS6' := Lib.hid hS6
          clear hS6
          go_wp2_with fail
          refine (cU'.out _ _ hS6'.out).mono ?_
          rintro e w7 ⟨rfl, hB7⟩
          have hS7 := Lib.hid (Lies.below hS6'.out hB7 (Nat.le_refl _))
          have hB07 := hB06.trans (hB7.mono hB06.size)
          go_wp2_with fail
          refine (cG.out _ _ hS7.out).mono ?_
          rintro e w8 ⟨rfl, hB8⟩
          have hB08 := hB07.trans (hB8.mono hB07.size)
          go_wp2_with fail
          refine (hW.out _).mono ?_
          rintro e w9 ⟨rfl, hB9⟩
          have hB09 := hB08.trans (hB9.mono hB08.size)
          go_wp2
          go_ret
          exact ⟨rfl, hB09⟩
        | false =>
          rw [hpo] at cP
          rw [parseOut_no hpo] at cP
          simp only [Bool.false_eq_true, if_false] at cP
          clear cU cG
          have cP' := Lib.hid cP
          clear cP gP hpo hbg hl h
          go_enter Try.func8, Try.ntmps8
          go_wp2_with fail
          refine cL.out.mono ?_
          rintro e w1 ⟨rfl, rfl⟩
          go_wp2_with fail
          refine cE.out.mono ?_
          rintro e w2 ⟨v2, rfl, hE, hB2⟩
          obtain ⟨ua, ul, uc, rfl⟩ := lies_slice hE
          have hE2 := Lib.hid hE
          have hL2 := Lib.hid (Lies.below hL0'.out hB2 (Nat.le_refl _))
          clear hE
          go_wp2_with fail
          refine (cX'.out _ _ hE2.out).mono ?_
          rintro e w3 ⟨rfl, hB3⟩
          have hL3 := Lib.hid (Lies.below hL2.out hB3 (Nat.le_refl _))
          have hB03 := hB2.trans (hB3.mono hB2.size)
          go_wp2_with fail
          refine (cR'.out _).mono ?_
          rintro e w4 ⟨v4, rfl, hS4, hB4⟩
          obtain ⟨ta, tn, tc, rfl⟩ := lies_slice hS4
          have hS4' := Lib.hid hS4
          clear hS4
          have hL4 := Lib.hid (Lies.below hL3.out hB4 (Nat.le_refl _))
          have hB04 := hB03.trans (hB4.mono hB03.size)
          go_wp2_with fail
          refine (c1.out _ _ _ hS4'.out hL4.out).mono ?_
          rintro e w5 ⟨rfl, hB5⟩
          have hB05 := hB04.trans (hB5.mono hB04.size)
          go_wp2_with fail
          refine (cP'.out _).mono ?_
          rintro e w6 ⟨v6, rfl, hS6, hB6⟩
          have hB06 := hB05.trans (hB6.mono hB05.size)
          obtain ⟨fa, fc, rfl⟩ := lies_none hS6
          clear hS6
          go_wp2_with fail
          refine (hW.out _).mono ?_
          rintro e w9 ⟨rfl, hB9⟩
          have hB09 := hB06.trans (hB9.mono hB06.size)
          go_wp2
          go_ret
          exact ⟨rfl, hB09⟩
      · have e1 : textOk l = false := by unfold textOk; simp [hg]
        rw [e1] at cX
        simp only [Bool.false_eq_true, if_false] at cX
        generalize strOf (textOut l) = T at cX
        have cX' := Lib.hid cX
        clear cX e1 hg
        cases hpo : parseOk s with
        | true =>
          rw [hpo] at cP
          obtain ⟨e5, e6⟩ := text_parse hpo
          rw [e5, e6] at cU
          simp only [if_true] at cP cU
          have cU' := Lib.hid cU
          generalize parseOut s = pl at cP cU' cG
          clear e5 e6 cU
          have cP' := Lib.hid cP
          clear cP gP hpo hbg hl h
          go_enter Try.func8, Try.ntmps8
          go_wp2_with fail
          refine cL.out.mono ?_
          rintro e w1 ⟨rfl, rfl⟩
          go_wp2_with fail
          refine cE.out.mono ?_
          rintro e w2 ⟨v2, rfl, hE, hB2⟩
          obtain ⟨ua, ul, uc, rfl⟩ := lies_slice hE
          have hE2 := Lib.hid hE
          have hL2 := Lib.hid (Lies.below hL0'.out hB2 (Nat.le_refl _))
          clear hE
          go_wp2_with fail
          refine (cX'.out _ _ hE2.out).mono ?_
          rintro e w3 ⟨rfl, hB3⟩
          have hL3 := Lib.hid (Lies.below hL2.out hB3 (Nat.le_refl _))
          have hB03 := hB2.trans (hB3.mono hB2.size)
          go_wp2_with fail
          refine (cP'.out _).mono ?_
          rintro e w6 ⟨v6, rfl, hS6, hB6⟩
          have hB06 := hB03.trans (hB6.mono hB03.size)
          obtain ⟨fa, fn, fc, rfl⟩ := lies_slice hS6
          have hS6' := Lib.hid hS6
          clear hS6
          go_wp2_with fail
          refine (cU'.out _ _ hS6'.out).mono ?_
          rintro e w7 ⟨rfl, hB7⟩
          have hS7 := Lib.hid (Lies.below hS6'.out hB7 (Nat.le_refl _))
          have hB07 := hB06.trans (hB7.mono hB06.size)
          go_wp2_with fail
          refine (cG.out _ _ hS7.out).mono ?_
          rintro e w8 ⟨rfl, hB8⟩
          have hB08 := hB07.trans (hB8.mono hB07.size)
          go_wp2_with fail
          refine (hW.out _).mono ?_
          rintro e w9 ⟨rfl, hB9⟩
          have hB09 := hB08.trans (hB9.mono hB08.size)
          go_wp2
          go_ret
          exact ⟨rfl, hB09⟩
        | false =>
          rw [hpo] at cP
          rw [parseOut_no hpo] at cP
          simp only [Bool.false_eq_true, if_false] at cP
          clear cU cG
          have cP' := Lib.hid cP
          clear cP gP hpo hbg hl h
          go_enter Try.func8, Try.ntmps8
          go_wp2_with fail
          refine cL.out.mono ?_
          rintro e w1 ⟨rfl, rfl⟩
          go_wp2_with fail
          refine cE.out.mono ?_
          rintro e w2 ⟨v2, rfl, hE, hB2⟩
          obtain ⟨ua, ul, uc, rfl⟩ := lies_slice hE
          have hE2 := Lib.hid hE
          have hL2 := Lib.hid (Lies.below hL0'.out hB2 (Nat.le_refl _))
          clear hE
          go_wp2_with fail
          refine (cX'.out _ _ hE2.out).mono ?_
          rintro e w3 ⟨rfl, hB3⟩
          have hL3 := Lib.hid (Lies.below hL2.out hB3 (Nat.le_refl _))
          have hB03 := hB2.trans (hB3.mono hB2.size)
          go_wp2_with fail
          refine (cP'.out _).mono ?_
          rintro e w6 ⟨v6, rfl, hS6, hB6⟩
          have hB06 := hB03.trans (hB6.mono hB03.size)
          obtain ⟨fa, fc, rfl⟩ := lies_none hS6
          clear hS6
          go_wp2_with fail
          refine (hW.out _).mono ?_
          rintro e w9 ⟨rfl, hB9⟩
          have hB09 := hB06.trans (hB9.mono hB06.size)
          go_wp2
          go_ret
          exact ⟨rfl, hB09⟩

end Go.Proofs.Ytplplojhgiaabaa
