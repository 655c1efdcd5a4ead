/- The page's Text. -/
import Derived.Test.YtplplojhgiaabaaTh
set_option linter.unusedVariables false
set_option linter.unusedSimpArgs false
set_option linter.unnecessarySimpa false
namespace Go.Proofs.Ytplplojhgiaabaa
open Go.RowKit

theorem OwnB.weaken {w : World} {B B' n : Nat} {v : Value} {bs : List Value} (h : OwnB w B v n bs) (hB : B' ≤ B) : OwnB w B' v n bs := by
  obtain ⟨h1, g, cap, cur, fz, hv, h2, r⟩ := h
  exact ⟨h1, g, cap, cur, fz, hv, by omega, r⟩

set_option maxRecDepth 100000 in
set_option maxHeartbeats 4000000 in
theorem textRef_no (l : List X) (hl : ∀ x ∈ l, x.Ok) (hn : l.length ≤ 1000000000) (v : Value) (w : World) (h : Lies w v l) (hg : ¬ Good l) :
    Calls Try.prog 24 #[v] w fun e w' => e = .returned (told (strOf []) false) ∧ Below w.heap.size w w' := by
  have hG := Lib.hid (goodRef_any l hl hn v w h false (by simp [hg]))
  obtain ⟨va, vl, vc, rfl⟩ : ∃ a len cap, v = .slice a len cap := by
    rcases h with ⟨_, _, rfl, _⟩ | ⟨b, off, cap, rfl, _⟩
    · exact ⟨_, _, _, rfl⟩
    · exact ⟨_, _, _, rfl⟩
  clear h hl hg
  go_enter Try.func24, Try.ntmps24
  go_wp2_with fail
  refine hG.out.mono ?_
  rintro e w1 ⟨rfl, hB1⟩
  go_wp2
  go_ret2
  exact ⟨rfl, hB1⟩

set_option maxRecDepth 100000 in
set_option maxHeartbeats 4000000 in
theorem textRef_nil (a0 : Option Addr) (c0 : Nat) (w : World) :
    Calls Try.prog 24 #[.slice a0 0 c0] w fun e w' => e = .returned (told (strOf (textF [])) true) ∧ Below w.heap.size w w' := by
  have hG := Lib.hid (goodRef_any [] (by simp) (by simp) (.slice a0 0 c0) w (.inl ⟨a0, c0, rfl, rfl⟩) true (by simp [good_nil]))
  have cP := Lib.hid (fun (w : World) => putRef_any 0 (by omega) w)
  go_enter Try.func24, Try.ntmps24
  go_wp2_with fail
  refine hG.out.mono ?_
  rintro e w1 ⟨rfl, hB1⟩
  have hB1' := Lib.hid hB1
  go_wp2_with fail
  refine (cP.out _).mono ?_
  rintro e w2 ⟨rfl, hB2⟩
  have hB02 := Lib.hid (hB1'.out.trans ((hB2.trans ((bytes_below w2 (strOf (be4 0))).mono hB2.size)).mono hB1.size))
  have hcv := Lib.run_convert_string_bytes (P := Try.prog) w2 9 59 5 (strOf (be4 0)) (u := .string) Try.underlying9 Try.underlying59 Try.underlying5
  have hO := ownB_bytes w2 (strOf (be4 0)) (by rw [strOf_size, be4_length]; omega)
  rw [strOf_size, be4_length] at hcv hO
  rw [str_be4] at hO
  have hcb := conv_ownB hO
  clear hB1 hB2 hO
  generalize grownCap w2 4 0 5 = gc at hcv hcb
  generalize Lib.bytesWorld w2 5 (strOf (be4 0)) = w3 at hcv hcb hB02
  go_wp2_with fail
  refine wp_loop_rounds 1 ?_
  rw [rounds_succ]
  go_wp2_with fail
  go_ret2
  exact ⟨rfl, hB02.out⟩

set_option maxRecDepth 100000 in
set_option maxHeartbeats 4000000 in
theorem textRef_cons (l : List X) (hp : 0 < l.length) (v : Value) (w : World) (h : Lies w v l) (hg : Good l) :
    Calls Try.prog 24 #[v] w fun e w' => e = .returned (told (strOf (textF l)) true) ∧ Below w.heap.size w w' := by
  have hG := Lib.hid (goodRef_any l (fun x hx => by have := hg.one_mem hx; unfold One at this; unfold X.Ok fits; omega) (by have := hg.1; omega) v w h true (by simp [hg]))
  have hn := hg.1
  have hgh := Lib.hid hg
  obtain ⟨b, off, vc, rfl, hb, hc⟩ := lies_pos h hp
  have hc3 := Lib.hid hc
  obtain ⟨n, hnl⟩ : ∃ n, l.length = n := ⟨_, rfl⟩
  rw [hnl] at hn hG hp ⊢
  have hnh := Lib.hid hnl
  have cP := Lib.hid (fun (q : Nat) (hq : q < 4294967296) (w : World) => putRef_any q hq w)
  clear h hg hnl hc
  go_enter Try.func24, Try.ntmps24
  go_wp2_with fail
  refine hG.out.mono ?_
  rintro e w1 ⟨rfl, hB1⟩
  have hB1' := Lib.hid hB1
  have hB1z := hB1.size
  clear hB1
  go_wp2_with fail
  refine (cP.out n (by omega) _).mono ?_
  rintro e w2 ⟨rfl, hB2⟩
  have hB02 := Lib.hid (hB2.trans ((bytes_below w2 (strOf (be4 n))).mono hB2.size))
  have hcv := Lib.run_convert_string_bytes (P := Try.prog) w2 9 59 5 (strOf (be4 n)) (u := .string) Try.underlying9 Try.underlying59 Try.underlying5
  have hO := (ownB_bytes w2 (strOf (be4 n)) (by rw [strOf_size, be4_length]; omega)).weaken hB2.size
  rw [strOf_size, be4_length] at hcv hO
  rw [str_be4] at hO
  have hO' := Lib.hid hO
  clear hB2 hO
  generalize grownCap w2 4 0 5 = gc at hcv hO'
  generalize Lib.bytesWorld w2 5 (strOf (be4 n)) = w3 at hcv hO' hB02
  go_wp2_with fail
  clear hcv
  go_loopw [4, 5] (fun u i wr => ∃ k : Nat, k ≤ n ∧ i = .int .i64 k ∧ OwnB wr w1.heap.size u (4 + 12 * k) (Lib.byteCells (be4 n ++ recs (l.take k))) ∧ Below w1.heap.size w1 wr) (fun _ i _ => n - (intOf i).toNat)
  case atStart => exact ⟨0, Nat.zero_le _, rfl, by simpa [recs] using hO'.out, hB02.out⟩
  case round =>
    obtain ⟨k, hk, rfl, hI, hB⟩ := hrel
    have hI' := Lib.hid hI
    obtain ⟨ua, uc, rfl⟩ := hI.slice
    clear hI
    have hBz := hB.size
    have hB' := Lib.hid hB
    clear hB
    by_cases hlt : k < n
    · have hkl : k < l.length := by have := hnh.out; omega
      obtain ⟨x, hx⟩ : ∃ x, l[k]? = some x := ⟨_, List.getElem?_eq_getElem hkl⟩
      have hcw := Lib.hid ((hc3.out k x hx).below hB1'.out hb)
      have hxo := hgh.out.one hx
      have hts := Lib.hid (recs_succ hx)
      clear hx
      obtain ⟨a, m, p⟩ := x
      unfold One at hxo
      dsimp only at hxo
      obtain ⟨o1, o2, o3, o4, o5, o6⟩ := hxo
      obtain ⟨A, rfl⟩ : ∃ A : Nat, a = A := ⟨a.toNat, by omega⟩
      obtain ⟨M, rfl⟩ : ∃ M : Nat, m = M := ⟨m.toNat, by omega⟩
      obtain ⟨P, rfl⟩ : ∃ P : Nat, p = P := ⟨p.toNat, by omega⟩
      have hxb : x12 ⟨A, M, P⟩ = be4 A ++ (be4 M ++ be4 P) := rfl
      rw [hxb] at hts
      clear hxb
      obtain ⟨T, hT⟩ : ∃ T, be4 n ++ recs (l.take k) = T := ⟨_, rfl⟩
      have hT' := Lib.hid hT
      rw [hT] at hI'
      clear hT
      have f0 := (hcw.out.below hB'.out (by omega)).c0
      dsimp only at f0
      go_wp2_with fail
      refine (cP.out A (by omega) _).mono ?_
      rintro e wa0 ⟨rfl, ha0⟩
      have ia0 := Lib.hid (hI'.out.below ha0)
      have ba0 := Lib.hid (hB'.out.trans (ha0.mono hB'.out.size))
      have za0 := ba0.out.size
      clear ha0 f0
      go_wp2_with (at_builtin; refine wpList_append_strB rfl (.tmp 20) (.tmp 27) rfl w1.heap.size _ (4 + 12 * k) T rfl ia0.out A rfl (by omega) za0 ?_; intro v0 wb0 ho0 hb0; have ib0 := Lib.hid ho0; have bb0 := Lib.hid (ba0.out.trans hb0); obtain ⟨va0, vc0, rfl⟩ := ho0.slice; clear ho0 hb0; have f1 := (hcw.out.below bb0.out (by omega)).c1; dsimp only at f1)
      refine (cP.out M (by omega) _).mono ?_
      rintro e wa1 ⟨rfl, ha1⟩
      have ia1 := Lib.hid (ib0.out.below ha1)
      have ba1 := Lib.hid (bb0.out.trans (ha1.mono bb0.out.size))
      have za1 := ba1.out.size
      clear ha1 f1
      go_wp2_with (at_builtin; refine wpList_append_strB rfl (.tmp 29) (.tmp 36) rfl w1.heap.size _ ((4 + 12 * k) + 4) (T ++ be4 A) rfl ia1.out M rfl (by omega) za1 ?_; intro v1 wb1 ho1 hb1; have ib1 := Lib.hid ho1; have bb1 := Lib.hid (ba1.out.trans hb1); obtain ⟨va1, vc1, rfl⟩ := ho1.slice; clear ho1 hb1; have f2 := (hcw.out.below bb1.out (by omega)).c2; dsimp only at f2)
      refine (cP.out P (by omega) _).mono ?_
      rintro e wa2 ⟨rfl, ha2⟩
      have ia2 := Lib.hid (ib1.out.below ha2)
      have ba2 := Lib.hid (bb1.out.trans (ha2.mono bb1.out.size))
      have za2 := ba2.out.size
      clear ha2 f2
      go_wp2_with (at_builtin; refine wpList_append_strB rfl (.tmp 38) (.tmp 45) rfl w1.heap.size _ (((4 + 12 * k) + 4) + 4) ((T ++ be4 A) ++ be4 M) rfl ia2.out P rfl (by omega) za2 ?_; intro v2 wb2 ho2 hb2; have ib2 := Lib.hid ho2; have bb2 := Lib.hid (ba2.out.trans hb2); obtain ⟨va2, vc2, rfl⟩ := ho2.slice; clear ho2 hb2)
      have hxe : T ++ be4 A ++ be4 M ++ be4 P = be4 n ++ recs (l.take (k + 1)) := by rw [hts.out, ← hT'.out]; simp only [List.append_assoc]
      have ie := ib2.out
      rw [hxe] at ie
      have ie' := Lib.hid ie
      clear ie hxe
      go_roundw
      case rel => exact ⟨k + 1, by omega, by simp, ie'.out, bb2.out⟩
      case measure => simp [intOf]; omega
    · obtain rfl : k = n := by omega
      have hfin : l.take k = l := List.take_of_length_le (by have := hnh.out; omega)
      rw [hfin] at hI'
      have hcb := conv_ownB hI'.out
      have hfe : be4 k ++ recs l = textF l := by unfold textF; rw [hnh.out]
      rw [hfe] at hcb
      clear hfe hfin
      go_wp2_with fail
      go_ret2
      exact ⟨rfl, hB1'.out.trans (hB'.out.mono hB1'.out.size)⟩

end Go.Proofs.Ytplplojhgiaabaa
