/- The page's Parse. -/
import Derived.Test.YtplplojhgiaabaaTk
set_option linter.unusedVariables false
set_option linter.unusedSimpArgs false
set_option linter.unnecessarySimpa false
namespace Go.Proofs.Ytplplojhgiaabaa
open Go.RowKit

theorem bigRef_yes0 (s : ByteArray) (m : Nat) (hm : num4 s 0 = m) (hA : 4 ≤ s.size) (hs : s.size ≤ 140737488351232) (w : World) :
    Calls Try.prog 39 #[.string s, .int .i64 0, .int .i64 4] w fun e w' => e = .returned (.tuple #[.int .u64 m, .bool true]) ∧ w = w' := by
  subst hm
  exact bigRef_yes s 0 (by omega) hs w

set_option maxRecDepth 100000 in
set_option maxHeartbeats 4000000 in
theorem parseRef_short (s : ByteArray) (w : World) (h4 : s.size < 4) :
    Calls Try.prog 26 #[.string s] w fun e w' => e = .returned (answer (.slice none 0 0) false) ∧ Below w.heap.size w w' := by
  have hG := Lib.hid (bigRef_no s h4 w)
  go_enter Try.func26, Try.ntmps26
  go_wp2_with fail
  refine hG.out.mono ?_
  rintro e w1 ⟨rfl, rfl⟩
  go_wp2
  go_ret2
  exact ⟨rfl, Below.refl _ _⟩

set_option maxRecDepth 100000 in
set_option maxHeartbeats 4000000 in
theorem parseRef_great (s : ByteArray) (m : Nat) (hm : num4 s 0 = m) (hA : 4 ≤ s.size) (hs : s.size ≤ 140737488351232) (w : World) (h5 : 4096 < m) (h6 : m < 4294967296) :
    Calls Try.prog 26 #[.string s] w fun e w' => e = .returned (answer (.slice none 0 0) false) ∧ Below w.heap.size w w' := by
  have hG := Lib.hid (bigRef_yes0 s m hm hA hs w)
  clear hm
  go_enter Try.func26, Try.ntmps26
  go_wp2_with fail
  refine hG.out.mono ?_
  rintro e w1 ⟨rfl, rfl⟩
  go_wp2
  go_ret2
  exact ⟨rfl, Below.refl _ _⟩

set_option maxRecDepth 100000 in
set_option maxHeartbeats 4000000 in
theorem parseRef_odd (s : ByteArray) (m : Nat) (hm : num4 s 0 = m) (hA : 4 ≤ s.size) (hs : s.size ≤ 140737488351232) (w : World) (h5 : m ≤ 4096) (h6 : s.size ≠ 4 + 12 * m) :
    Calls Try.prog 26 #[.string s] w fun e w' => e = .returned (answer (.slice none 0 0) false) ∧ Below w.heap.size w w' := by
  have hG := Lib.hid (bigRef_yes0 s m hm hA hs w)
  have h7 : ((s.size : Int) == 4 + 12 * (m : Int)) = false := by
    simp only [beq_eq_false_iff_ne, ne_eq]
    omega
  have h8 : ((s.size : Int) != 4 + 12 * (m : Int)) = true := by
    simp only [bne_iff_ne, ne_eq]
    omega
  clear hm h6
  go_enter Try.func26, Try.ntmps26
  go_wp2_with fail
  refine hG.out.mono ?_
  rintro e w1 ⟨rfl, rfl⟩
  go_wp2
  go_ret2
  exact ⟨rfl, Below.refl _ _⟩

set_option maxRecDepth 100000 in
set_option maxHeartbeats 4000000 in
theorem parseRef_fit (s : ByteArray) (n : Nat) (hm : num4 s 0 = n) (hn : n ≤ 4096) (hs : s.size = 4 + 12 * n) (w : World) (r : Bool) (hr : r = true ↔ Good (parsed s n)) :
    Calls Try.prog 26 #[.string s] w fun e w' => ∃ v', e = .returned (answer v' r) ∧ Lies w' v' (if r then parsed s n else []) ∧ Below w.heap.size w w' := by
  have hG := Lib.hid (bigRef_yes0 s n hm (by omega) (by omega) w)
  have cB := Lib.hid (show ∀ (A : Nat) (hA : A + 4 ≤ s.size) (w : World) (q : Int) (hq : q = A), Calls Try.prog 39 #[.string s, .int .i64 q, .int .i64 4] w fun e w' => e = .returned (.tuple #[.int .u64 (num4 s A), .bool true]) ∧ w = w' from fun A hA w q hq => by
    subst hq
    exact bigRef_yes s A hA (by omega) w)
  have cN := Lib.hid (fun k => num4_lt s k)
  have hsb : ((s.size : Int) == 4 + 12 * (n : Int)) = true := by
    simp only [beq_iff_eq]
    omega
  have hsb' : ((s.size : Int) != 4 + 12 * (n : Int)) = false := by
    simp only [bne_eq_false_iff_eq]
    omega
  have hr' := Lib.hid hr
  have hs' := Lib.hid hs
  clear hm hr hs
  go_enter Try.func26, Try.ntmps26
  go_wp2_with fail
  refine hG.out.mono ?_
  rintro e w1 ⟨rfl, rfl⟩
  go_wp2_with fail
  clear hsb hsb'
  go_loopw [6, 7] (fun v i wr => ∃ k : Nat, k ≤ n ∧ i = .int .i64 k ∧ wr.ownsRow w.heap.size 32 3 v k (flat (parsed s k)) ∧ Below w.heap.size w wr) (fun _ i _ => n - (intOf i).toNat)
  case atStart => exact ⟨0, Nat.zero_le _, rfl, World.ownsRow_nil _ _ _ _, Below.refl _ _⟩
  case round =>
    obtain ⟨k, hk, rfl, hown, hB⟩ := hrel
    have ho' := Lib.hid hown
    obtain ⟨va, vc, rfl⟩ := owns_len hown
    clear hown
    have hBz := hB.size
    have hB' := Lib.hid hB
    clear hB
    by_cases hlt : k < n
    · have hc0 := Lib.hid (fun w q hq => cB.out (4 + 12 * k) (by have := hs'.out; omega) w q hq)
      have hc1 := Lib.hid (fun w q hq => cB.out (4 + 12 * k + 4) (by have := hs'.out; omega) w q hq)
      have hc2 := Lib.hid (fun w q hq => cB.out (4 + 12 * k + 8) (by have := hs'.out; omega) w q hq)
      have n0 := cN.out (4 + 12 * k)
      have n1 := cN.out (4 + 12 * k + 4)
      have n2 := cN.out (4 + 12 * k + 8)
      have hpx : flat (parsed s k) ++ [.int .i64 (num4 s (4 + 12 * k)), .int .i64 (num4 s (4 + 12 * k + 4)), .int .i64 (num4 s (4 + 12 * k + 8))] = flat (parsed s (k + 1)) := by
        rw [parsed, flat_append _ [_], flat_one]
        rfl
      have hpx' := Lib.hid hpx
      clear hpx
      generalize num4 s (4 + 12 * k) = q0 at hc0 n0 hpx'
      generalize num4 s (4 + 12 * k + 4) = q1 at hc1 n1 hpx'
      generalize num4 s (4 + 12 * k + 8) = q2 at hc2 n2 hpx'
      go_wp2_with fail
      refine (hc0.out _ _ (by omega)).mono ?_
      rintro e wa ⟨rfl, rfl⟩
      go_wp2_with fail
      refine (hc1.out _ _ (by omega)).mono ?_
      rintro e wa ⟨rfl, rfl⟩
      go_wp2_with fail
      refine (hc2.out _ _ (by omega)).mono ?_
      rintro e wa ⟨rfl, rfl⟩
      go_wp2_with (at_builtin; refine push_row _ _ _ ho'.out hBz (by omega) rfl (.tmp 64) (.tmp 72) rfl rfl rfl ?_; intro v' w' hown2 hb2)
      rw [hpx'.out] at hown2
      have ho2 := Lib.hid hown2
      clear hown2
      go_roundw
      case rel => exact ⟨k + 1, by omega, by simp, ho2.out, hB'.out.trans hb2⟩
      case measure => simp [intOf]; omega
    · obtain rfl : k = n := by omega
      have hpl := parsed_length s k
      have hli : Lies wr (.slice va k vc) (parsed s k) := lies_owned (by rw [hpl]; exact ho'.out)
      have hGd := Lib.hid (goodRef_any (parsed s k) (parsed_ok s k) (by rw [hpl]; omega) _ wr hli r hr'.out)
      have hli' := Lib.hid hli
      clear hli hpl
      cases r with
      | true =>
        go_wp2_with fail
        refine hGd.out.mono ?_
        rintro e w9 ⟨rfl, hB9⟩
        have hl9 := Lib.hid (Lies.below hli'.out hB9 (Nat.le_refl _))
        have hB09 := Lib.hid (hB'.out.trans (hB9.mono hBz))
        clear hB9
        go_wp2_with fail
        go_ret2
        exact ⟨_, rfl, hl9.out, hB09.out⟩
      | false =>
        go_wp2_with fail
        refine hGd.out.mono ?_
        rintro e w9 ⟨rfl, hB9⟩
        have hB09 := Lib.hid (hB'.out.trans (hB9.mono hBz))
        clear hB9
        go_wp2_with fail
        go_ret2
        exact ⟨_, rfl, .inl ⟨none, 0, rfl, rfl⟩, hB09.out⟩

end Go.Proofs.Ytplplojhgiaabaa
