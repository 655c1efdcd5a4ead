/- Numbers of four bytes: shifts, the program's put and get. -/
import Derived.Laws.BitsLemmas
import Derived.Laws.BytesString
import Derived.Test.YtplplojhgiaabaaF
import Derived.Test.YtplplojhgiaabaaTa
set_option linter.unusedVariables false
set_option linter.unusedSimpArgs false
set_option linter.unnecessarySimpa false
namespace Go.Proofs.Ytplplojhgiaabaa
open Go.RowKit

theorem ret_int {k : IntKind} {a b : Int} (h : a = b) : Ending.returned (.int k a) = .returned (.int k b) := by rw [h]
theorem ret_str {a b : ByteArray} (h : a = b) : Ending.returned (.string a) = .returned (.string b) := by rw [h]
def strOf (l : List UInt8) : ByteArray := ⟨l.toArray⟩

/-- The four bytes of a number, the highest first. -/
def be4 (n : Nat) : List UInt8 := [UInt8.ofNat (n / 16777216 % 256), UInt8.ofNat (n / 65536 % 256), UInt8.ofNat (n / 256 % 256), UInt8.ofNat (n % 256)]
theorem be4_length (n : Nat) : (be4 n).length = 4 := rfl

theorem infoInt : (Try.prog.info? 3).map (fun i => (i.zero, i.size, i.bytes)) = some (some (.int .i64 0), 1, 8) := by kernel_rfl
theorem cell_new1 (w : World) (v : Value) (T : TypeId) : ∀ (j : Nat) (u : Value), [v][j]? = some u → (w.alloc (.cells #[v] T)).cell? ((⟨w.heap.size, 0, none⟩ : Addr).add j) = some u := by
  intro j u hu
  cases j with
  | zero =>
    rw [Addr.add_zero']
    simp only [List.getElem?_cons_zero, Option.some.injEq] at hu
    subst hu
    simp only [World.cell?, heap_alloc_new]
    rfl
  | succ j => simp at hu

/-- 'out = append(out, a)' of a row of numbers of the call's own. -/
theorem push_int {W : World} {B k : Nat} {v : Value} {xs : List Value} (a : Int) (hown : W.ownsRow B 3 1 v k xs) (hB : B ≤ W.heap.size) (hk : k ≤ 20000)
    {ops : Array Oper} {rest : List Oper} {o : Oper} {act : Act} {Q : Exit → Act → World → Prop} (hgd : o.guard = none) (s x : Operand)
    (ho : o.op = .call { callee := .builtin .append, args := #[s, x], argTypes := #[51, 51] }) (hs : act.eval s = v) (hx : act.eval x = .slice (some ⟨W.heap.size, 0, none⟩) 1 1)
    (h : ∀ v' w', w'.ownsRow B 3 1 v' (k + 1) (xs ++ [.int .i64 a]) → Below B W w' → wpList Try.prog ops Q rest (act.put o.dst v') w') : wpList Try.prog ops Q (o :: rest) act (W.alloc (.cells #[.int .i64 a] 3)) := by
  obtain ⟨i0, hi, hz0, hz1, hz2⟩ := info_parts infoInt
  refine wpList_append_own _ hgd s x 51 ho B 3 i0 _ 1 8 Try.underlying51 hi hz0 hz1 hz2 rfl (by decide) v k xs hs (hown.alloc _) ⟨W.heap.size, 0, none⟩ 1 1 [.int .i64 a] hx rfl
    (cell_new1 W _ 3) (by intro u hu; simp at hu; subst hu; rfl) (by simp only [maxLen]; omega) (by omega) (by simp; omega) ?_
  intro v' w' h1 hg _
  refine h v' w' h1 (((Below.refl B W).alloc hB _).grown hg (by simp; omega) ?_)
  intro j hj
  exact (hown.lt j hj).1
theorem push_byte {W : World} {B k : Nat} {v : Value} {xs : List Value} (a : Int) (hown : W.ownsRow B 5 1 v k xs) (hB : B ≤ W.heap.size) (hk : k ≤ 20000)
    {ops : Array Oper} {rest : List Oper} {o : Oper} {act : Act} {Q : Exit → Act → World → Prop} (hgd : o.guard = none) (s x : Operand)
    (ho : o.op = .call { callee := .builtin .append, args := #[s, x], argTypes := #[59, 59] }) (hs : act.eval s = v) (hx : act.eval x = .slice (some ⟨W.heap.size, 0, none⟩) 1 1)
    (h : ∀ v' w', w'.ownsRow B 5 1 v' (k + 1) (xs ++ [.int .u8 a]) → Below B W w' → wpList Try.prog ops Q rest (act.put o.dst v') w') : wpList Try.prog ops Q (o :: rest) act (W.alloc (.cells #[.int .u8 a] 5)) := by
  obtain ⟨i0, hi, hz0, hz1, hz2⟩ := info_parts Try.infoByte
  refine wpList_append_own _ hgd s x 59 ho B 5 i0 _ 1 1 Try.underlying59 hi hz0 hz1 hz2 rfl (by decide) v k xs hs (hown.alloc _) ⟨W.heap.size, 0, none⟩ 1 1 [.int .u8 a] hx rfl
    (cell_new1 W _ 5) (by intro u hu; simp at hu; subst hu; rfl) (by simp only [maxLen]; omega) (by omega) (by simp; omega) ?_
  intro v' w' h1 hg _
  refine h v' w' h1 (((Below.refl B W).alloc hB _).grown hg (by simp; omega) ?_)
  intro j hj
  exact (hown.lt j hj).1

/-- The shifts of a number of four bytes. -/
def sh : Nat → List Value
  | 0 => []
  | k + 1 => sh k ++ [.int .i64 (8 * (3 - (k : Int)))]
structure Shifts (W : World) (b : Nat) : Prop where
  lt : b < W.heap.size
  c0 : W.cell? ⟨b, 0, none⟩ = some (.int .i64 24)
  c1 : W.cell? ⟨b, 1, none⟩ = some (.int .i64 16)
  c2 : W.cell? ⟨b, 2, none⟩ = some (.int .i64 8)
  c3 : W.cell? ⟨b, 3, none⟩ = some (.int .i64 0)
theorem Shifts.below {n b : Nat} {A B : World} (h : Shifts A b) (hb : Below n A B) (hn : b < n) : Shifts B b :=
  ⟨Nat.lt_of_lt_of_le h.lt hb.size, (hb.cell (p := ⟨b, 0, none⟩) hn).trans h.c0, (hb.cell (p := ⟨b, 1, none⟩) hn).trans h.c1, (hb.cell (p := ⟨b, 2, none⟩) hn).trans h.c2, (hb.cell (p := ⟨b, 3, none⟩) hn).trans h.c3⟩
theorem owns_len1 {W : World} {B T n : Nat} {v : Value} {xs : List Value} (h : W.ownsRow B T 1 v n xs) : ∃ a c, v = .slice a n c := by
  rcases h.2 with ⟨rfl, h0⟩ | ⟨g, cap, cur, rfl, _⟩
  · have := h.1
    rw [h0] at this
    simp at this
    exact ⟨none, 0, by rw [h0]⟩
  · exact ⟨_, _, rfl⟩
theorem shifts_of {W : World} {B : Nat} {v : Value} (h : W.ownsRow B 3 1 v 4 (sh 4)) : ∃ b cap, v = .slice (some ⟨b, 0, none⟩) 4 cap ∧ B ≤ b ∧ Shifts W b := by
  rcases h.2 with ⟨rfl, h0⟩ | ⟨g, cap, cur, rfl, _⟩
  · simp [sh] at h0
  · have hc := h.cells (g := g) rfl
    have hl := h.lt g rfl
    refine ⟨g, cap, rfl, hl.1, hl.2, ?_, ?_, ?_, ?_⟩
    · have := hc 0 (.int .i64 24) rfl
      rwa [Addr.add_zero'] at this
    · exact hc 1 (.int .i64 16) rfl
    · exact hc 2 (.int .i64 8) rfl
    · exact hc 3 (.int .i64 0) rfl

set_option maxRecDepth 100000 in
theorem shifts_any (w : World) :
    Calls Try.prog 50 #[.int .i64 4, .bool true] w fun e w' => ∃ b cap, e = .returned (.slice (some ⟨b, 0, none⟩) 4 cap) ∧ w.heap.size ≤ b ∧ Shifts w' b ∧ Below w.heap.size w w' := by
  go_enter Try.func50, Try.ntmps50
  go_wp2
  go_loopw [5, 8] (fun v i wr => ∃ k : Nat, k ≤ 4 ∧ i = .int .i64 k ∧ wr.ownsRow w.heap.size 3 1 v k (sh k) ∧ Below w.heap.size w wr) (fun _ i _ => 4 - (intOf i).toNat)
  case atStart => exact ⟨0, Nat.zero_le _, rfl, World.ownsRow_nil _ _ _ _, Below.refl _ _⟩
  case round =>
    obtain ⟨k, hk, rfl, hown, hB⟩ := hrel
    have hBz := hB.size
    by_cases hlt : k < 4
    · have ho' := Lib.hid hown
      obtain ⟨va, vc, rfl⟩ := owns_len1 hown
      clear hown
      go_wp2_with (at_builtin; refine push_int _ ho' hBz (by omega) rfl (.tmp 12) (.tmp 18) rfl rfl rfl ?_; intro v' w' hown2 hb2)
      go_roundw
      case rel => exact ⟨k + 1, by omega, by simp, hown2, hB.trans hb2⟩
      case measure => simp [intOf]; omega
    · obtain rfl : k = 4 := by omega
      obtain ⟨b, cap, rfl, hb, hs⟩ := shifts_of hown
      have hs' := Lib.hid hs
      clear hown hs
      go_wp2
      go_ret
      exact ⟨_, _, rfl, hb, hs', hB⟩

end Go.Proofs.Ytplplojhgiaabaa
