/- Numbers of four bytes: the program's Big. -/
import Derived.IntWalk
import Derived.Outline
import Derived.Test.YtplplojhgiaabaaTc
set_option linter.unusedVariables false
set_option linter.unusedSimpArgs false
set_option linter.unnecessarySimpa false
namespace Go.Proofs.Ytplplojhgiaabaa
open Go.RowKit

/-- A text's byte. -/
def nb (s : ByteArray) (i : Nat) : Nat := (s.data.toList.getD i 0).toNat
theorem nb_lt (s : ByteArray) (i : Nat) : nb s i < 256 := UInt8.toNat_lt _
theorem nb_get (s : ByteArray) (i : Nat) (h : i < s.size) : s[i].toNat = nb s i := by
  unfold nb
  have h' : i < s.data.toList.length := by simpa using h
  rw [List.getD_eq_getElem?_getD, List.getElem?_eq_getElem h']
  rfl
/-- The number of four bytes. -/
def num4 (s : ByteArray) (i : Nat) : Nat := nb s i * 16777216 + nb s (i + 1) * 65536 + nb s (i + 2) * 256 + nb s (i + 3)
def gp (s : ByteArray) (i : Nat) : Nat → Nat
  | 0 => 0
  | 1 => nb s i * 16777216
  | 2 => nb s i * 16777216 + nb s (i + 1) * 65536
  | 3 => nb s i * 16777216 + nb s (i + 1) * 65536 + nb s (i + 2) * 256
  | _ => num4 s i

theorem wrap_u64 (n : Int) (h0 : 0 ≤ n) (h1 : n < 4294967296) : IntKind.u64.wrap n = n := by
  exact IntWalk.u64_in n ⟨h0, by omega⟩
theorem or_step (m : Nat) (hm : m ≤ 24) (P b : Nat) (hP : P < 4294967296) (hd : P % 2 ^ (m + 8) = 0) (hb : b < 256) :
    bits .or .u64 P (IntKind.u64.wrap (IntKind.u64.wrap b * 2 ^ m)) = ((P + b * 2 ^ m : Nat) : Int) := by
  have hp : 0 < 2 ^ m := Nat.two_pow_pos m
  have hp24 : 2 ^ m ≤ 2 ^ 24 := Nat.pow_le_pow_right (by decide) hm
  have h1 : b * 2 ^ m < 2 ^ (m + 8) := by
    rw [Nat.pow_add, Nat.mul_comm]
    exact Nat.mul_lt_mul_of_pos_left hb hp
  have h2 : 2 ^ (m + 8) ≤ 2 ^ 32 := Nat.pow_le_pow_right (by decide) (by omega)
  have h32 : (2 : Nat) ^ 32 = 4294967296 := by decide
  have hq : ((b : Int) * 2 ^ m) = ((b * 2 ^ m : Nat) : Int) := by simp
  rw [wrap_u64 b (by omega) (by omega), hq]
  generalize b * 2 ^ m = q at h1
  have hqb : q < 4294967296 := by omega
  rw [wrap_u64 q (by omega) (by omega)]
  have hP32 : P < 2 ^ 32 := by omega
  have hb32 : q < 2 ^ 32 := by omega
  have := bits_join .u64 32 (by decide) (fun n h0 h1 => wrap_u64 n h0 (by rw [show (2 : Int) ^ 32 = 4294967296 from rfl] at h1; exact h1)) (m + 8) (P : Int) (q : Int) (by omega) (by exact_mod_cast hd) (by exact_mod_cast hP32) (by omega) (by exact_mod_cast h1) (by exact_mod_cast hb32)
  rw [this]
  simp
theorem gp_step0 (s : ByteArray) (A : Nat) (h : A < s.size) : bits .or .u64 (gp s A 0 : Nat) (IntKind.u64.wrap (IntKind.u64.wrap (s[A].toNat : Nat) * 16777216)) = (gp s A 1 : Nat) := by
  have h0 := nb_lt s A
  have h1 := nb_lt s (A + 1)
  have h2 := nb_lt s (A + 2)
  have h3 := nb_lt s (A + 3)
  have e : gp s A 0 = 0 := rfl
  have := or_step 24 (by omega) (0) (nb s (A)) (by omega) (by omega) (nb_lt _ _)
  rw [show (2 : Int) ^ 24 = 16777216 from rfl] at this
  rw [nb_get, e, this]
  congr 1
  exact Nat.zero_add _
theorem gp_step1 (s : ByteArray) (A : Nat) (h : A + 1 < s.size) : bits .or .u64 (gp s A 1 : Nat) (IntKind.u64.wrap (IntKind.u64.wrap (s[A + 1].toNat : Nat) * 65536)) = (gp s A 2 : Nat) := by
  have h0 := nb_lt s A
  have h1 := nb_lt s (A + 1)
  have h2 := nb_lt s (A + 2)
  have h3 := nb_lt s (A + 3)
  have e : gp s A 1 = nb s A * 16777216 := rfl
  have := or_step 16 (by omega) (nb s A * 16777216) (nb s (A + 1)) (by omega) (by omega) (nb_lt _ _)
  rw [show (2 : Int) ^ 16 = 65536 from rfl] at this
  rw [nb_get, e, this]
  congr 1
theorem gp_step2 (s : ByteArray) (A : Nat) (h : A + 2 < s.size) : bits .or .u64 (gp s A 2 : Nat) (IntKind.u64.wrap (IntKind.u64.wrap (s[A + 2].toNat : Nat) * 256)) = (gp s A 3 : Nat) := by
  have h0 := nb_lt s A
  have h1 := nb_lt s (A + 1)
  have h2 := nb_lt s (A + 2)
  have h3 := nb_lt s (A + 3)
  have e : gp s A 2 = nb s A * 16777216 + nb s (A + 1) * 65536 := rfl
  have := or_step 8 (by omega) (nb s A * 16777216 + nb s (A + 1) * 65536) (nb s (A + 2)) (by omega) (by omega) (nb_lt _ _)
  rw [show (2 : Int) ^ 8 = 256 from rfl] at this
  rw [nb_get, e, this]
  congr 1
theorem gp_step3 (s : ByteArray) (A : Nat) (h : A + 3 < s.size) : bits .or .u64 (gp s A 3 : Nat) (IntKind.u64.wrap (IntKind.u64.wrap (s[A + 3].toNat : Nat))) = (gp s A 4 : Nat) := by
  have h0 := nb_lt s A
  have h1 := nb_lt s (A + 1)
  have h2 := nb_lt s (A + 2)
  have h3 := nb_lt s (A + 3)
  have e : gp s A 3 = nb s A * 16777216 + nb s (A + 1) * 65536 + nb s (A + 2) * 256 := rfl
  have := or_step 0 (by omega) (nb s A * 16777216 + nb s (A + 1) * 65536 + nb s (A + 2) * 256) (nb s (A + 3)) (by omega) (by omega) (nb_lt _ _)
  rw [show (2 : Int) ^ 0 = 1 from rfl] at this
  rw [Int.mul_one] at this
  rw [nb_get, e, this, Nat.pow_zero, Nat.mul_one]
  rfl
theorem gp_zero (s : ByteArray) (A : Nat) : gp s A 0 = 0 := rfl
theorem gp_four (s : ByteArray) (A : Nat) : gp s A 4 = num4 s A := rfl
attribute [irreducible] gp num4

set_option maxRecDepth 100000 in
theorem get_yes (s : ByteArray) (A : Nat) (hA : A + 4 ≤ s.size) (hs : s.size ≤ 140737488351232) (w : World) :
    Calls Try.prog 45 #[.string s, .int .i64 A, .int .i64 4, .bool true] w fun e w' => e = .returned (.tuple #[.int .u64 (num4 s A), .bool true]) ∧ Below w.heap.size w w' := by
  have hS := Lib.hid (shifts_any w)
  go_enter Try.func45, Try.ntmps45
  go_wp2_with fail
  refine hS.out.mono ?_
  rintro e w1 ⟨b, cap, rfl, hb, hs', hB⟩
  have hsh := Lib.hid hs'
  have hbl := hs'.lt
  clear hs'
  go_wp2_with fail
  go_loopw [10, 35] (fun u i wr => ∃ k : Nat, k ≤ 4 ∧ i = .int .i64 k ∧ u = .int .u64 (gp s A k) ∧ wr = w1) (fun _ i _ => 4 - (intOf i).toNat)
  case atStart => exact ⟨0, Nat.zero_le _, rfl, by rw [gp_zero]; rfl, rfl⟩
  case round =>
    obtain ⟨k, hk, rfl, rfl, rfl⟩ := hrel
    obtain ⟨_, c0, c1, c2, c3⟩ := hsh.out
    by_cases hlt : k < 4
    · obtain rfl | rfl | rfl | rfl : k = 0 ∨ k = 1 ∨ k = 2 ∨ k = 3 := by omega
      · go_wp2
        exact ⟨⟨1, by omega, rfl, congrArg (Value.int .u64) (gp_step0 s A (by omega)), trivial⟩, by simp [intOf]⟩
      · go_wp2
        exact ⟨⟨2, by omega, rfl, congrArg (Value.int .u64) (gp_step1 s A (by omega)), trivial⟩, by simp [intOf]⟩
      · go_wp2
        exact ⟨⟨3, by omega, rfl, congrArg (Value.int .u64) (gp_step2 s A (by omega)), trivial⟩, by simp [intOf]⟩
      · go_wp2
        exact ⟨⟨4, by omega, rfl, congrArg (Value.int .u64) (gp_step3 s A (by omega)), trivial⟩, by simp [intOf]⟩
    · obtain rfl : k = 4 := by omega
      rw [gp_four]
      go_wp2
      go_ret2
      exact ⟨rfl, hB⟩

end Go.Proofs.Ytplplojhgiaabaa
