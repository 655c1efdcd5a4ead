/- The program's Text. -/
import Derived.Test.YtplplojhgiaabaaQ
import Derived.Test.YtplplojhgiaabaaTf
set_option linter.unusedVariables false
set_option linter.unusedSimpArgs false
set_option linter.unnecessarySimpa false
namespace Go.Proofs.Ytplplojhgiaabaa
open Go.RowKit

/-- Text's two answers. -/
def told (s : ByteArray) (ok : Bool) : Value := .tuple #[.string s, .int .i64 (if ok then 0 else 70)]

set_option maxRecDepth 100000 in
set_option maxHeartbeats 4000000 in
theorem text_no (l : List X) (hl : ∀ x ∈ l, x.Ok) (hn : l.length ≤ 1000000000) (v : Value) (w : World) (h : Lies w v l) (hg : ¬ Good l) :
    Calls Try.prog 23 #[v] w fun e w' => e = .returned (told (strOf []) false) ∧ Below w.heap.size w w' := by
  have hG := Lib.hid (good_any l hl hn v w h false (by simp [hg]))
  obtain ⟨va, vl, vc, rfl⟩ : ∃ a len cap, v = .slice a len cap := by
    rcases h with ⟨_, _, rfl, _⟩ | ⟨b, off, cap, rfl, _⟩
    · exact ⟨_, _, _, rfl⟩
    · exact ⟨_, _, _, rfl⟩
  clear h hl hg
  go_enter Try.func23, Try.ntmps23
  go_wp2_with fail
  refine hG.out.mono ?_
  rintro e w1 ⟨rfl, hB1⟩
  go_wp2
  go_ret2
  exact ⟨rfl, hB1⟩

def xt (A M P : Nat) : Nat → List UInt8
  | 0 => []
  | 1 => be4 A
  | 2 => be4 A ++ be4 M
  | _ => be4 A ++ (be4 M ++ be4 P)
def x3 (A M P : Nat) : Nat → Nat
  | 0 => A
  | 1 => M
  | _ => P
theorem xt_succ (A M P j : Nat) (hj : j < 3) : xt A M P (j + 1) = xt A M P j ++ be4 (x3 A M P j) := by
  obtain rfl | rfl | rfl : j = 0 ∨ j = 1 ∨ j = 2 := by omega
  · rfl
  · rfl
  · exact (List.append_assoc _ _ _).symm
theorem xt_length (A M P j : Nat) : (xt A M P j).length ≤ 12 := by
  unfold xt
  split <;> simp [be4_length]
theorem x3_lt (A M P j : Nat) (hA : A ≤ 8192) (hM : M ≤ 8192) (hP : P ≤ 8192) : x3 A M P j ≤ 8192 := by
  unfold x3
  split <;> assumption
theorem x3_cell {W : World} {g : Nat} (A M P j : Nat) (h : W.heap[g]? = some (.cells #[.int .i64 A, .int .i64 M, .int .i64 P] 3 (0, 0))) (hj : j < 3) : W.cell? ⟨g, j, none⟩ = some (.int .i64 (x3 A M P j)) := by
  simp only [World.cell?, h]
  obtain rfl | rfl | rfl : j = 0 ∨ j = 1 ∨ j = 2 := by omega
  all_goals rfl
theorem lies_pos {W : World} {v : Value} {l : List X} (h : Lies W v l) (hp : 0 < l.length) : ∃ b off cap, v = .slice (some ⟨b, off, none⟩) l.length cap ∧ b < W.heap.size ∧ ∀ k x, l[k]? = some x → At3 W b (off + k * 3) x := by
  rcases h with ⟨a, c, _, rfl⟩ | ⟨b, off, cap, h1, h2, h3⟩
  · simp at hp
  · exact ⟨b, off, cap, h1, h2, fun k x hx => ⟨(h3 k x hx).1, (h3 k x hx).2.1, (h3 k x hx).2.2⟩⟩

set_option maxRecDepth 100000 in
set_option maxHeartbeats 4000000 in
theorem text_nil (a0 : Option Addr) (c0 : Nat) (w : World) :
    Calls Try.prog 23 #[.slice a0 0 c0] w fun e w' => e = .returned (told (strOf (textF [])) true) ∧ Below w.heap.size w w' := by
  have hG := Lib.hid (good_any [] (by simp) (by simp) (.slice a0 0 c0) w (.inl ⟨a0, c0, rfl, rfl⟩) true (by simp [good_nil]))
  have cP := Lib.hid (fun (w : World) => putBig_any 0 (by omega) w)
  go_enter Try.func23, Try.ntmps23
  go_wp2_with fail
  refine hG.out.mono ?_
  rintro e w1 ⟨rfl, hB1⟩
  have hB1' := Lib.hid hB1
  go_wp2_with fail
  refine (cP.out _).mono ?_
  rintro e w2 ⟨rfl, hB2⟩
  have hI2 := Lib.hid (builder_below (Lib.fresh_isBuilder 61 5 w1) hB2)
  have hz2 : w1.heap.size + 1 ≤ w2.heap.size := by have := hB2.size; simp at this; omega
  have hB02 := Lib.hid (((Below.refl w1.heap.size w1).alloc (Nat.le_refl _) _).trans (hB2.mono (by simp)))
  clear hB2
  go_wp2_with fail
  refine (write_be4 w1.heap.size w1.heap.size [] 0 w2 hI2.out (by simp) (by omega)).mono ?_
  rintro e w3 ⟨rfl, hI3, hB3, hk3⟩
  have hB03 := hB02.out.trans hB3
  have hS := Lib.hid (string_any w1.heap.size w1.heap.size _ w3 hI3 hB03.size)
  have hB03' := Lib.hid hB03
  clear hI3 hB3 hk3 hB03
  go_wp2_with fail
  refine wp_loop_rounds 1 ?_
  rw [rounds_succ]
  go_wp2_with fail
  refine hS.out.mono ?_
  rintro e w9 ⟨rfl, hB9⟩
  go_wp2
  go_ret2
  exact ⟨rfl, hB1'.out.trans ((hB03'.out.trans hB9).mono hB1'.out.size)⟩

set_option maxRecDepth 100000 in
set_option maxHeartbeats 4000000 in
theorem text_cons (l : List X) (hp : 0 < l.length) (v : Value) (w : World) (h : Lies w v l) (hg : Good l) :
    Calls Try.prog 23 #[v] w fun e w' => e = .returned (told (strOf (textF l)) true) ∧ Below w.heap.size w w' := by
  have hG := Lib.hid (good_any l (fun x hx => by have := hg.one_mem hx; unfold One at this; unfold X.Ok fits; omega) (by have := hg.1; omega) v w h true (by simp [hg]))
  have hn := hg.1
  have hgh := Lib.hid hg
  obtain ⟨b, off, vc, rfl, hb, hc⟩ := lies_pos h hp
  have hc3 := Lib.hid hc
  obtain ⟨n, hnl⟩ : ∃ n, l.length = n := ⟨_, rfl⟩
  rw [hnl] at hn hG hp ⊢
  have hnh := Lib.hid hnl
  have cP := Lib.hid (fun (q : Nat) (hq : q < 4294967296) (w : World) => putBig_any q hq w)
  clear h hg hnl hc
  go_enter Try.func23, Try.ntmps23
  go_wp2_with fail
  refine hG.out.mono ?_
  rintro e w1 ⟨rfl, hB1⟩
  have hB1' := Lib.hid hB1
  have hB1z := hB1.size
  clear hB1
  go_wp2_with fail
  refine (cP.out n (by omega) _).mono ?_
  rintro e w2 ⟨rfl, hB2⟩
  have hI2 := Lib.hid (builder_below (Lib.fresh_isBuilder 61 5 w1) hB2)
  have hz2 : w1.heap.size + 1 ≤ w2.heap.size := by have := hB2.size; simp at this; omega
  have hB02 := Lib.hid (((Below.refl w1.heap.size w1).alloc (Nat.le_refl _) _).trans (hB2.mono (by simp)))
  clear hB2
  go_wp2_with fail
  refine (write_be4 w1.heap.size w1.heap.size [] n w2 hI2.out (by simp) (by omega)).mono ?_
  rintro e w3 ⟨rfl, hI3, hB3, hk3⟩
  have hI3' := Lib.hid hI3
  have hB03 := Lib.hid (hB02.out.trans hB3)
  clear hI3 hB3 hk3
  go_wp2_with fail
  go_loopw [19] (fun i wr => ∃ k : Nat, k ≤ n ∧ i = .int .i64 k ∧ Lib.IsBuilder 61 5 w1.heap.size w1.heap.size (Lib.byteCells (be4 n ++ recs (l.take k))) wr ∧ Below w1.heap.size w1 wr) (fun i _ => n - (intOf i).toNat)
  case atStart => exact ⟨0, Nat.zero_le _, rfl, by simpa [recs] using hI3'.out, hB03.out⟩
  case round =>
    obtain ⟨k, hk, rfl, hI, hB⟩ := hrel
    have hI' := Lib.hid hI
    clear hI
    have hBz := hB.size
    have hB' := Lib.hid hB
    clear hB
    by_cases hlt : k < n
    · have hkl : k < l.length := by have := hnh.out; omega
      obtain ⟨x, hx⟩ : ∃ x, l[k]? = some x := ⟨_, List.getElem?_eq_getElem hkl⟩
      have hcx := ((hc3.out k x hx).below hB1'.out hb).below hB'.out (by omega)
      have hxo := hgh.out.one hx
      have hts := Lib.hid (recs_succ hx)
      have hlen := recs_length (l.take k)
      rw [List.length_take] at hlen
      clear hx
      have c0 := hcx.c0
      have c1 := hcx.c1
      have c2 := hcx.c2
      clear hcx
      obtain ⟨a, m, p⟩ := x
      unfold One at hxo
      dsimp only at *
      obtain ⟨o1, o2, o3, o4, o5, o6⟩ := hxo
      obtain ⟨A, rfl⟩ : ∃ A : Nat, a = A := ⟨a.toNat, by omega⟩
      obtain ⟨M, rfl⟩ : ∃ M : Nat, m = M := ⟨m.toNat, by omega⟩
      obtain ⟨P, rfl⟩ : ∃ P : Nat, p = P := ⟨p.toNat, by omega⟩
      have hxb : x12 ⟨A, M, P⟩ = be4 A ++ (be4 M ++ be4 P) := rfl
      rw [hxb] at hts
      clear hxb
      obtain ⟨T, hT⟩ : ∃ T, be4 n ++ recs (l.take k) = T := ⟨_, rfl⟩
      have hTl : T.length ≤ 60000 := by rw [← hT, List.length_append, be4_length, hlen]; omega
      have hT' := Lib.hid hT
      rw [hT] at hI'
      clear hT hlen
      have hbb : Below wr.heap.size wr ((wr.alloc (.cells #[.int .i64 A, .int .i64 M, .int .i64 P] 32)).alloc (.cells #[.int .i64 A, .int .i64 M, .int .i64 P] 3)) := ((Below.refl _ wr).alloc (Nat.le_refl _) _).alloc (by simp) _
      have hI0 := Lib.hid (builder_below hI'.out hbb)
      have hB0 := Lib.hid (hB'.out.trans (hbb.mono hBz))
      have hX0 : ((wr.alloc (.cells #[.int .i64 A, .int .i64 M, .int .i64 P] 32)).alloc (.cells #[.int .i64 A, .int .i64 M, .int .i64 P] 3)).heap[wr.heap.size + 1]? = some (.cells #[.int .i64 A, .int .i64 M, .int .i64 P] 3 (0, 0)) := by
        have := heap_alloc_new (wr.alloc (.cells #[.int .i64 A, .int .i64 M, .int .i64 P] 32)) (.cells #[.int .i64 A, .int .i64 M, .int .i64 P] 3)
        rwa [World.size_alloc] at this
      have hX0' := Lib.hid hX0
      clear hX0 hbb
      obtain ⟨wo, hwo⟩ : ∃ wo : World, wo = wr := ⟨_, rfl⟩
      subst hwo
      go_wp2_with fail
      go_loopw [31] (fun i ws => ∃ j : Nat, j ≤ 3 ∧ i = .int .i64 j ∧ Lib.IsBuilder 61 5 w1.heap.size w1.heap.size (Lib.byteCells (T ++ xt A M P j)) ws ∧ ws.heap[wo.heap.size + 1]? = some (.cells #[.int .i64 A, .int .i64 M, .int .i64 P] 3 (0, 0)) ∧ Below w1.heap.size w1 ws) (fun i _ => 3 - (intOf i).toNat)
      case atStart => exact ⟨0, Nat.zero_le _, rfl, by simpa [xt] using hI0.out, hX0'.out, hB0.out⟩
      case round =>
        obtain ⟨j, hj, rfl, iI, iX, iB⟩ := hrel
        have iI' := Lib.hid iI
        have iB' := Lib.hid iB
        have iBz := iB.size
        by_cases hj3 : j < 3
        · have cj := x3_cell A M P j iX hj3
          have iX' := Lib.hid iX
          have hxl := x3_lt A M P j (by omega) (by omega) (by omega)
          have hxs := Lib.hid (xt_succ A M P j hj3)
          have hxt := xt_length A M P j
          clear iX iI iB
          generalize x3 A M P j = q at cj hxl hxs
          go_wp2_with fail
          refine (cP.out q (by omega) _).mono ?_
          rintro e ws2 ⟨rfl, hBp⟩
          have jI := Lib.hid (builder_below iI'.out hBp)
          have jX := Lib.hid ((hBp.block _ (lt_of_block iX'.out)).trans iX'.out)
          have jB := iB'.out.trans (hBp.mono iBz)
          have jBz := jB.size
          have jB' := Lib.hid jB
          clear hBp jB
          go_wp2_with fail
          refine (write_be4 w1.heap.size w1.heap.size _ q ws2 jI.out (by rw [List.length_append]; omega) jBz).mono ?_
          rintro e ws3 ⟨rfl, kI, kB, kk⟩
          rw [List.append_assoc, ← hxs.out] at kI
          have kI' := Lib.hid kI
          have kX := Lib.hid (kk _ _ _ _ (by decide) (by decide) jX.out)
          have kB' := Lib.hid (jB'.out.trans kB)
          clear kI kB kk
          go_wp2_with fail
          go_roundw
          case rel => exact ⟨j + 1, by omega, by simp, kI'.out, kX.out, kB'.out⟩
          case measure => simp [intOf]; omega
        · obtain rfl : j = 3 := by omega
          clear iX iI iB
          have hxe : T ++ xt A M P 3 = be4 n ++ recs (l.take (k + 1)) := by rw [hts.out, ← hT'.out, List.append_assoc]; rfl
          rw [hxe] at iI'
          clear hxe
          go_wp2_with fail
          go_roundw
          case rel => exact ⟨k + 1, by omega, by simp, iI'.out, iB'.out⟩
          case measure => simp [intOf]; omega
    · obtain rfl : k = n := by omega
      have hfin : l.take k = l := List.take_of_length_le (by have := hnh.out; omega)
      rw [hfin] at hI'
      have hS := Lib.hid (string_any w1.heap.size w1.heap.size _ wr hI'.out hBz)
      clear hfin
      go_wp2_with fail
      refine hS.out.mono ?_
      rintro e w9 ⟨rfl, hB9⟩
      have hfe : be4 k ++ recs l = textF l := by unfold textF; rw [hnh.out]
      have hfe' := Lib.hid hfe
      clear hfe
      go_wp2
      go_ret2
      refine ⟨?_, hB1'.out.trans ((hB'.out.trans hB9).mono hB1'.out.size)⟩
      rw [← hfe'.out]
      rfl

end Go.Proofs.Ytplplojhgiaabaa
