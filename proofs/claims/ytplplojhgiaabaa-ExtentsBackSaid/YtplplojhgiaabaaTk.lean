/- The program's Parse, of a text of the right length. -/
import Derived.Test.YtplplojhgiaabaaTj
set_option linter.unusedVariables false
set_option linter.unusedSimpArgs false
set_option linter.unnecessarySimpa false
namespace Go.Proofs.Ytplplojhgiaabaa
open Go.RowKit

/-- The three numbers of one extent as they are read. -/
def pa (a b c : Int) : Nat → Array Value
  | 0 => #[.int .i64 0, .int .i64 0, .int .i64 0]
  | 1 => #[.int .i64 a, .int .i64 0, .int .i64 0]
  | 2 => #[.int .i64 a, .int .i64 b, .int .i64 0]
  | _ => #[.int .i64 a, .int .i64 b, .int .i64 c]

theorem owns_below {w w' : World} {B e size n : Nat} {v : Value} {xs : List Value} (h : w.ownsRow B e size v n xs) (u : Below w.heap.size w w') : w'.ownsRow B e size v n xs := by
  refine ⟨h.1, ?_⟩
  rcases h.2 with h0 | ⟨g, cap, cur, hv, hbg, hg, r⟩
  · exact .inl h0
  · exact .inr ⟨g, cap, cur, hv, hbg, (u.block g (lt_of_block hg)).trans hg, r⟩
def pn (s : ByteArray) (k j : Nat) : Nat := num4 s (4 + 12 * k + 4 * j)
theorem pa_step (a b c : Int) (x : Int) (j : Nat) (hj : j < 3) (hx : x = if j = 0 then a else if j = 1 then b else c) : (pa a b c j).setIfInBounds j (.int .i64 x) = pa a b c (j + 1) := by
  subst hx
  obtain rfl | rfl | rfl : j = 0 ∨ j = 1 ∨ j = 2 := by omega
  all_goals rfl
theorem pa_cell {W : World} {g : Nat} {a b c : Int} {j : Nat} (h : W.heap[g]? = some (.cells (pa a b c j) 71 (0, 0))) (hj : j < 3) : W.cell? ⟨g, j, none⟩ = some (.int .i64 0) := by
  simp only [World.cell?, h]
  obtain rfl | rfl | rfl : j = 0 ∨ j = 1 ∨ j = 2 := by omega
  all_goals rfl
theorem pa_free {W : World} {g : Nat} {cs : Array Value} {T : TypeId} (h : W.heap[g]? = some (.cells cs T (0, 0))) (j : Nat) : W.frozen? ⟨g, j, none⟩ = false := by
  simp [World.frozen?, h]

set_option maxRecDepth 100000 in
set_option maxHeartbeats 4000000 in
theorem parse_fit (s : ByteArray) (n : Nat) (hm : num4 s 0 = n) (hn : n ≤ 4096) (hs : s.size = 4 + 12 * n) (w : World) (r : Bool) (hr : r = true ↔ Good (parsed s n)) :
    Calls Try.prog 25 #[.string s] w fun e w' => ∃ v', e = .returned (answer v' r) ∧ Lies w' v' (if r then parsed s n else []) ∧ Below w.heap.size w w' := by
  have hG := Lib.hid (big_yes0 s n hm (by omega) (by omega) w)
  have cB := Lib.hid (show ∀ (k j : Nat) (hA : 4 + 12 * k + 4 * j + 4 ≤ s.size) (w : World) (q : Int) (hq : q = 4 + 12 * (k : Int) + 4 * j), Calls Try.prog 38 #[.string s, .int .i64 q, .int .i64 4] w fun e w' => e = .returned (.tuple #[.int .u64 (pn s k j), .bool true]) ∧ Below w.heap.size w w' from fun k j hA w q hq => by
    have := big_yes s (4 + 12 * k + 4 * j) hA (by omega) w
    rw [hq]
    have e : ((4 + 12 * k + 4 * j : Nat) : Int) = 4 + 12 * (k : Int) + 4 * j := by omega
    rw [e] at this
    exact this)
  have cN := Lib.hid (fun k j => num4_lt s (4 + 12 * k + 4 * j))
  have hsb : ((s.size : Int) == 4 + 12 * (n : Int)) = true := by
    simp only [beq_iff_eq]
    omega
  have hsb' : ((s.size : Int) != 4 + 12 * (n : Int)) = false := by
    simp only [bne_eq_false_iff_eq]
    omega
  have hr' := Lib.hid hr
  have hs' := Lib.hid hs
  clear hm hr hs
  go_enter Try.func25, Try.ntmps25
  go_wp2_with fail
  refine hG.out.mono ?_
  rintro e w1 ⟨rfl, hB1⟩
  go_wp2_with fail
  clear hsb hsb'
  go_loopw [6, 34] (fun v i wr => ∃ k : Nat, k ≤ n ∧ i = .int .i64 k ∧ wr.ownsRow w.heap.size 32 3 v k (flat (parsed s k)) ∧ Below w.heap.size w wr) (fun _ i _ => n - (intOf i).toNat)
  case atStart => exact ⟨0, Nat.zero_le _, rfl, World.ownsRow_nil _ _ _ _, hB1⟩
  case round =>
    obtain ⟨k, hk, rfl, hown, hB⟩ := hrel
    have ho' := Lib.hid hown
    obtain ⟨va, vc, rfl⟩ := owns_len hown
    clear hown
    have hBz := hB.size
    have hB' := Lib.hid hB
    clear hB
    by_cases hlt : k < n
    · obtain ⟨wo, hwo⟩ : ∃ wo : World, wo = wr := ⟨_, rfl⟩
      subst hwo
      have hX0 := Lib.hid (heap_alloc_new wo (.cells (pa (pn s k 0) (pn s k 1) (pn s k 2) 0) 71))
      go_wp2_with fail
      go_loopw [37] (fun i ws => ∃ j : Nat, j ≤ 3 ∧ i = .int .i64 j ∧ ws.heap[wo.heap.size]? = some (.cells (pa (pn s k 0) (pn s k 1) (pn s k 2) j) 71 (0, 0)) ∧ Below wo.heap.size wo ws) (fun i _ => 3 - (intOf i).toNat)
      case atStart => exact ⟨0, Nat.zero_le _, rfl, hX0.out, (Below.refl _ _).alloc (Nat.le_refl _) _⟩
      case round =>
        obtain ⟨j, hj, rfl, iX, iB⟩ := hrel
        have iX' := Lib.hid iX
        have iB' := Lib.hid iB
        have iBz := iB.size
        have iXl := lt_of_block iX
        by_cases hj3 : j < 3
        · have hps := Lib.hid (pa_step (pn s k 0) (pn s k 1) (pn s k 2) (pn s k j) j hj3 (by obtain rfl | rfl | rfl : j = 0 ∨ j = 1 ∨ j = 2 := by omega
                                                                                             all_goals rfl))
          have hnl : pn s k j < 4294967296 := cN.out k j
          have hcall := Lib.hid (fun w q hq => cB.out k j (by have := hs'.out; omega) w q hq)
          clear iX iB
          generalize pn s k j = q at hps hnl hcall
          go_wp2_with fail
          refine (hcall.out _ _ (by omega)).mono ?_
          rintro e ws2 ⟨rfl, hB2⟩
          have jX := (hB2.block _ iXl).trans iX'.out
          have jc := pa_cell jX hj3
          have jf := pa_free jX j
          have jS := set_cells jX j (.int .i64 q)
          rw [hps.out] at jS
          have jS' := Lib.hid jS
          have jB := Lib.hid ((iB'.out.trans (hB2.mono iBz)).setCell (p := ⟨wo.heap.size, j, none⟩) (Nat.le_refl _) (.int .i64 q))
          have jz : wo.heap.size < ws2.heap.size := by have := hB2.size; omega
          clear jX jS hB2
          go_wp2_with fail
          go_roundw
          case rel => exact ⟨j + 1, by omega, by simp, jS'.out, jB.out⟩
          case measure => simp [intOf]; omega
        · obtain rfl : j = 3 := by omega
          have e0 : wr.cell? ⟨wo.heap.size, 0, none⟩ = some (.int .i64 (pn s k 0)) := by simp only [World.cell?, iX]; rfl
          have e1 : wr.cell? ⟨wo.heap.size, 1, none⟩ = some (.int .i64 (pn s k 1)) := by simp only [World.cell?, iX]; rfl
          have e2 : wr.cell? ⟨wo.heap.size, 2, none⟩ = some (.int .i64 (pn s k 2)) := by simp only [World.cell?, iX]; rfl
          have hw := Lib.hid (owns_below ho'.out iB)
          have hz : w.heap.size ≤ wr.heap.size := Nat.le_trans hBz iBz
          have hpx : flat (parsed s k) ++ [.int .i64 (pn s k 0), .int .i64 (pn s k 1), .int .i64 (pn s k 2)] = flat (parsed s (k + 1)) := by
            rw [parsed, flat_append _ [_], flat_one]
            rfl
          have hpx' := Lib.hid hpx
          clear hpx iX iB
          generalize pn s k 0 = q0 at e0 hpx'
          generalize pn s k 1 = q1 at e1 hpx'
          generalize pn s k 2 = q2 at e2 hpx'
          go_wp2_with (at_builtin; refine push_row _ _ _ hw.out hz (by omega) rfl (.tmp 56) (.tmp 64) rfl rfl rfl ?_; intro v' w' hown2 hb2)
          rw [hpx'.out] at hown2
          have ho2 := Lib.hid hown2
          clear hown2
          go_roundw
          case rel => exact ⟨k + 1, by omega, by simp, ho2.out, (hB'.out.trans (iB'.out.mono hBz)).trans hb2⟩
          case measure => simp [intOf]; omega
    · obtain rfl : k = n := by omega
      have hpl := parsed_length s k
      have hli : Lies wr (.slice va k vc) (parsed s k) := lies_owned (by rw [hpl]; exact ho'.out)
      have hGd := Lib.hid (good_any (parsed s k) (parsed_ok s k) (by rw [hpl]; omega) _ wr hli r hr'.out)
      have hli' := Lib.hid hli
      clear hli hpl
      cases r with
      | true =>
        go_wp2_with fail
        refine hGd.out.mono ?_
        rintro e w9 ⟨rfl, hB9⟩
        have hl9 := Lib.hid (Lies.below hli'.out hB9 (Nat.le_refl _))
        have hB09 := Lib.hid (hB'.out.trans (hB9.mono hBz))
        clear hB9
        go_wp2_with fail
        go_ret2
        exact ⟨_, rfl, hl9.out, hB09.out⟩
      | false =>
        go_wp2_with fail
        refine hGd.out.mono ?_
        rintro e w9 ⟨rfl, hB9⟩
        have hB09 := Lib.hid (hB'.out.trans (hB9.mono hBz))
        clear hB9
        go_wp2_with fail
        go_ret2
        exact ⟨_, rfl, .inl ⟨none, 0, rfl, rfl⟩, hB09.out⟩

end Go.Proofs.Ytplplojhgiaabaa
