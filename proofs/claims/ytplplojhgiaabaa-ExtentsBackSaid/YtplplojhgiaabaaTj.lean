/- The program's Parse. -/
import Derived.Test.YtplplojhgiaabaaTi
import Derived.Test.YtplplojhgiaabaaO
import Derived.Test.YtplplojhgiaabaaGather
set_option linter.unusedVariables false
set_option linter.unusedSimpArgs false
set_option linter.unnecessarySimpa false
namespace Go.Proofs.Ytplplojhgiaabaa
open Go.RowKit

/-- A text of the right length. -/
def Fit (s : ByteArray) : Prop := 4 ≤ s.size ∧ num4 s 0 ≤ 4096 ∧ s.size = 4 + 12 * num4 s 0
/-- The extent at place i of a text; the first ones. -/
def px (s : ByteArray) (i : Nat) : X := ⟨num4 s (4 + 12 * i), num4 s (4 + 12 * i + 4), num4 s (4 + 12 * i + 8)⟩
def parsed (s : ByteArray) : Nat → List X
  | 0 => []
  | k + 1 => parsed s k ++ [px s k]
theorem parsed_length (s : ByteArray) : ∀ k, (parsed s k).length = k
  | 0 => rfl
  | k + 1 => by rw [parsed, List.length_append, parsed_length s k]; rfl
theorem num4_lt (s : ByteArray) (i : Nat) : num4 s i < 4294967296 := by
  have h0 := nb_lt s i
  have h1 := nb_lt s (i + 1)
  have h2 := nb_lt s (i + 2)
  have h3 := nb_lt s (i + 3)
  unfold num4
  omega
theorem parsed_ok (s : ByteArray) : ∀ k, ∀ x ∈ parsed s k, x.Ok := by
  intro k
  induction k with
  | zero => intro x hx; simp [parsed] at hx
  | succ k ih =>
    intro x hx
    rw [parsed, List.mem_append, List.mem_singleton] at hx
    rcases hx with hx | rfl
    · exact ih x hx
    · have h0 := num4_lt s (4 + 12 * k)
      have h1 := num4_lt s (4 + 12 * k + 4)
      have h2 := num4_lt s (4 + 12 * k + 8)
      unfold X.Ok fits px
      dsimp only
      omega

theorem big_yes0 (s : ByteArray) (m : Nat) (hm : num4 s 0 = m) (hA : 4 ≤ s.size) (hs : s.size ≤ 140737488351232) (w : World) :
    Calls Try.prog 38 #[.string s, .int .i64 0, .int .i64 4] w fun e w' => e = .returned (.tuple #[.int .u64 m, .bool true]) ∧ Below w.heap.size w w' := by
  subst hm
  exact big_yes s 0 (by omega) hs w

set_option maxRecDepth 100000 in
set_option maxHeartbeats 4000000 in
theorem parse_short (s : ByteArray) (w : World) (h4 : s.size < 4) :
    Calls Try.prog 25 #[.string s] w fun e w' => e = .returned (answer (.slice none 0 0) false) ∧ Below w.heap.size w w' := by
  have hG := Lib.hid (big_no4 s h4 w)
  go_enter Try.func25, Try.ntmps25
  go_wp2_with fail
  refine hG.out.mono ?_
  rintro e w1 ⟨rfl, hB1⟩
  go_wp2
  go_ret2
  exact ⟨rfl, hB1⟩

set_option maxRecDepth 100000 in
set_option maxHeartbeats 4000000 in
theorem parse_great (s : ByteArray) (m : Nat) (hm : num4 s 0 = m) (hA : 4 ≤ s.size) (hs : s.size ≤ 140737488351232) (w : World) (h5 : 4096 < m) (h6 : m < 4294967296) :
    Calls Try.prog 25 #[.string s] w fun e w' => e = .returned (answer (.slice none 0 0) false) ∧ Below w.heap.size w w' := by
  have hG := Lib.hid (big_yes0 s m hm hA hs w)
  clear hm
  go_enter Try.func25, Try.ntmps25
  go_wp2_with fail
  refine hG.out.mono ?_
  rintro e w1 ⟨rfl, hB1⟩
  go_wp2
  go_ret2
  exact ⟨rfl, hB1⟩

set_option maxRecDepth 100000 in
set_option maxHeartbeats 4000000 in
theorem parse_odd (s : ByteArray) (m : Nat) (hm : num4 s 0 = m) (hA : 4 ≤ s.size) (hs : s.size ≤ 140737488351232) (w : World) (h5 : m ≤ 4096) (h6 : s.size ≠ 4 + 12 * m) :
    Calls Try.prog 25 #[.string s] w fun e w' => e = .returned (answer (.slice none 0 0) false) ∧ Below w.heap.size w w' := by
  have hG := Lib.hid (big_yes0 s m hm hA hs w)
  have h7 : ((s.size : Int) == 4 + 12 * (m : Int)) = false := by
    simp only [beq_eq_false_iff_ne, ne_eq]
    omega
  have h8 : ((s.size : Int) != 4 + 12 * (m : Int)) = true := by
    simp only [bne_iff_ne, ne_eq]
    omega
  clear hm h6
  go_enter Try.func25, Try.ntmps25
  go_wp2_with fail
  refine hG.out.mono ?_
  rintro e w1 ⟨rfl, hB1⟩
  go_wp2
  go_ret2
  exact ⟨rfl, hB1⟩

end Go.Proofs.Ytplplojhgiaabaa
