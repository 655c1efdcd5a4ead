/- Numbers of four bytes: the program's PutBig. -/
import Derived.Test.YtplplojhgiaabaaTb
set_option linter.unusedVariables false
set_option linter.unusedSimpArgs false
set_option linter.unnecessarySimpa false
namespace Go.Proofs.Ytplplojhgiaabaa
open Go.RowKit

theorem fold_bytes (ns : List Int) : ∀ s : ByteArray, (ns.foldl (fun r n => r.push (UInt8.ofNat n.toNat)) s) = s ++ strOf (ns.map fun n => UInt8.ofNat n.toNat) := by
  induction ns with
  | nil => intro s; simp [strOf]; apply ByteArray.ext; simp
  | cons n ns ih =>
    intro s
    simp only [List.foldl_cons, List.map_cons]
    rw [ih]
    apply ByteArray.ext
    simp [strOf, ByteArray.data_append, ByteArray.push]

/-- string(b) of a row of the call's own. -/
theorem conv_own {w : World} {B k : Nat} {v : Value} {ns : List Int} (h : w.ownsRow B 5 1 v k (ns.map (Value.int .u8))) (hne : 0 < k) :
    (convert 59 9 v).run Try.prog w = .ok (.string (strOf (ns.map fun n => UInt8.ofNat n.toNat))) w := by
  have hl := h.1
  rw [List.length_map, Nat.mul_one] at hl
  obtain ⟨g, cap, rfl⟩ : ∃ g cap, v = .slice (some ⟨g, 0, none⟩) k cap := by
    rcases h.2 with ⟨_, h0⟩ | ⟨g, cap, cur, rfl, _⟩
    · omega
    · exact ⟨_, _, rfl⟩
  have hc := h.cells (g := g) rfl
  rw [run_convert_bytes_string w 59 9 5 _ _ _ Try.underlying59 Try.underlying5 Try.underlying9]
  have hl2 := run_loadCells_list (P := Try.prog) w ⟨g, 0, none⟩ (ns.map (Value.int .u8)) hc
  rw [List.length_map] at hl2
  rw [← hl, run_bytesToString w ⟨g, 0, none⟩ ns.length cap ns hl2, fold_bytes]
  simp [strOf]

def be4i (v : Int) : List Int := [v / 16777216 % 256, v / 65536 % 256, v / 256 % 256, v % 256]
theorem be4i_bytes (v : Nat) : (be4i v).map (fun n => UInt8.ofNat n.toNat) = be4 v := by
  simp only [be4i, be4, List.map_cons, List.map_nil, List.cons.injEq, and_true]
  refine ⟨?_, ?_, ?_, ?_⟩ <;> (congr 1)
def pb (v : Int) (k : Nat) : List Value := ((be4i v).take k).map (Value.int .u8)

theorem pb_step0 {v : Nat} (hv : v < 4294967296) : pb v 0 ++ [Value.int .u8 ((v : Int) / 16777216)] = pb v 1 := by
  simp only [pb, be4i, List.take, List.map_cons, List.map_nil, List.nil_append, List.cons.injEq, Value.int.injEq, and_true, true_and]
  omega
theorem pb_step1 {v : Nat} : pb v 1 ++ [Value.int .u8 ((v : Int) / 65536 % 256)] = pb v 2 := rfl
theorem pb_step2 {v : Nat} : pb v 2 ++ [Value.int .u8 ((v : Int) / 256 % 256)] = pb v 3 := rfl
theorem pb_step3 {v : Nat} : pb v 3 ++ [Value.int .u8 ((v : Int) % 256)] = pb v 4 := rfl

set_option maxRecDepth 100000 in
theorem put_any (v : Nat) (hv : v < 4294967296) (w : World) :
    Calls Try.prog 44 #[.int .u64 v, .int .i64 4, .bool true] w fun e w' => e = .returned (.string (strOf (be4 v))) ∧ Below w.heap.size w w' := by
  have hS := Lib.hid (shifts_any w)
  go_enter Try.func44, Try.ntmps44
  go_wp2_with fail
  refine hS.out.mono ?_
  rintro e w1 ⟨b, cap, rfl, hb, hs, hB⟩
  have hs' := Lib.hid hs
  have hbl := hs.lt
  clear hs
  go_wp2_with fail
  go_loopw [7, 20] (fun u i wr => ∃ k : Nat, k ≤ 4 ∧ i = .int .i64 k ∧ wr.ownsRow w1.heap.size 5 1 u k (pb v k) ∧ Below w1.heap.size w1 wr) (fun _ i _ => 4 - (intOf i).toNat)
  case atStart => exact ⟨0, Nat.zero_le _, rfl, World.ownsRow_nil _ _ _ _, Below.refl _ _⟩
  case round =>
    obtain ⟨k, hk, rfl, hown, hBr⟩ := hrel
    have hBz := hBr.size
    have ho' := Lib.hid hown
    obtain ⟨va, vc, rfl⟩ := owns_len1 hown
    have hsr := hs'.out.below hBr hbl
    obtain ⟨_, c0, c1, c2, c3⟩ := hsr
    by_cases hlt : k < 4
    · clear hown
      obtain rfl | rfl | rfl | rfl : k = 0 ∨ k = 1 ∨ k = 2 ∨ k = 3 := by omega
      all_goals
        go_wp2_with (at_builtin; refine push_byte _ ho' hBz (by omega) rfl (.tmp 24) (.tmp 29) rfl rfl rfl ?_; intro v' w' hown2 hb2)
        first
          | (rw [pb_step0 hv] at hown2; exact ⟨⟨1, by omega, rfl, hown2, hBr.trans hb2⟩, by simp [intOf]⟩)
          | (rw [pb_step1] at hown2; exact ⟨⟨2, by omega, rfl, hown2, hBr.trans hb2⟩, by simp [intOf]⟩)
          | (rw [pb_step2] at hown2; exact ⟨⟨3, by omega, rfl, hown2, hBr.trans hb2⟩, by simp [intOf]⟩)
          | (rw [pb_step3] at hown2; exact ⟨⟨4, by omega, rfl, hown2, hBr.trans hb2⟩, by simp [intOf]⟩)
    · obtain rfl : k = 4 := by omega
      have hcv := conv_own (ns := be4i v) hown (by omega)
      rw [be4i_bytes] at hcv
      clear hown
      go_wp2
      go_ret
      exact ⟨rfl, (hB.trans (hBr.mono hB.size))⟩

end Go.Proofs.Ytplplojhgiaabaa
