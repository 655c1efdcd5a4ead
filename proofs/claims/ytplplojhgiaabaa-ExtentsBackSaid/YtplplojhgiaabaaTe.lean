/- Numbers of four bytes: Big and PutBig of the program, Big of the page. -/
import Derived.Laws.MakeOwn
import Derived.Test.YtplplojhgiaabaaTd
set_option linter.unusedVariables false
set_option linter.unusedSimpArgs false
set_option linter.unnecessarySimpa false
namespace Go.Proofs.Ytplplojhgiaabaa
open Go.RowKit

theorem get_no (s : ByteArray) (hA : s.size < 4) (w : World) :
    Calls Try.prog 45 #[.string s, .int .i64 0, .int .i64 4, .bool true] w fun e w' => e = .returned (.tuple #[.int .u64 0, .bool false]) ∧ Below w.heap.size w w' := by
  go_enter Try.func45, Try.ntmps45
  go_wp2
  go_ret2
  exact ⟨rfl, Below.refl _ _⟩

theorem putBig_any (v : Nat) (hv : v < 4294967296) (w : World) :
    Calls Try.prog 35 #[.int .u64 v, .int .i64 4] w fun e w' => e = .returned (.string (strOf (be4 v))) ∧ Below w.heap.size w w' := by
  have hP := Lib.hid (put_any v hv w)
  go_enter Try.func35, Try.ntmps35
  go_wp2_with fail
  refine hP.out.mono ?_
  rintro e w1 ⟨rfl, hB⟩
  go_wp2
  go_ret
  exact ⟨rfl, hB⟩

theorem big_yes (s : ByteArray) (A : Nat) (hA : A + 4 ≤ s.size) (hs : s.size ≤ 140737488351232) (w : World) :
    Calls Try.prog 38 #[.string s, .int .i64 A, .int .i64 4] w fun e w' => e = .returned (.tuple #[.int .u64 (num4 s A), .bool true]) ∧ Below w.heap.size w w' := by
  have hP := Lib.hid (get_yes s A hA hs w)
  go_enter Try.func38, Try.ntmps38
  go_wp2_with fail
  refine hP.out.mono ?_
  rintro e w1 ⟨rfl, hB⟩
  go_wp2
  go_ret2
  exact ⟨rfl, hB⟩
theorem big_no4 (s : ByteArray) (hA : s.size < 4) (w : World) :
    Calls Try.prog 38 #[.string s, .int .i64 0, .int .i64 4] w fun e w' => e = .returned (.tuple #[.int .u64 0, .bool false]) ∧ Below w.heap.size w w' := by
  have hP := Lib.hid (get_no s hA w)
  go_enter Try.func38, Try.ntmps38
  go_wp2_with fail
  refine hP.out.mono ?_
  rintro e w1 ⟨rfl, hB⟩
  go_wp2
  go_ret2
  exact ⟨rfl, hB⟩

theorem there_yes (s : ByteArray) (A : Nat) (hA : A + 4 ≤ s.size) (hs : s.size ≤ 140737488351232) (w : World) :
    Calls Try.prog 46 #[.string s, .int .i64 A, .int .i64 4] w fun e w' => e = .returned (.bool true) ∧ w = w' := by
  go_enter Try.func46, Try.ntmps46
  go_wp2
  go_ret
  refine ⟨?_, rfl⟩
  simp
  omega
theorem there_no (s : ByteArray) (hA : s.size < 4) (w : World) :
    Calls Try.prog 46 #[.string s, .int .i64 0, .int .i64 4] w fun e w' => e = .returned (.bool false) ∧ w = w' := by
  go_enter Try.func46, Try.ntmps46
  go_wp2
  go_ret
  refine ⟨?_, rfl⟩
  simp
  omega

def gr (s : ByteArray) (i : Nat) : Nat → Nat
  | 0 => 0
  | k + 1 => gr s i k * 256 + nb s (i + k)
theorem gr_four (s : ByteArray) (i : Nat) : gr s i 4 = num4 s i := by
  unfold num4
  simp only [gr, Nat.add_zero, Nat.zero_mul, Nat.zero_add]
  omega
theorem gr_lt (s : ByteArray) (i : Nat) : ∀ k, k ≤ 3 → gr s i k < 16777216 := by
  have h0 := nb_lt s (i + 0)
  have h1 := nb_lt s (i + 1)
  have h2 := nb_lt s (i + 2)
  intro k hk
  obtain rfl | rfl | rfl | rfl : k = 0 ∨ k = 1 ∨ k = 2 ∨ k = 3 := by omega
  all_goals
    simp only [gr]
    omega

set_option maxRecDepth 100000 in
theorem bigRef_yes (s : ByteArray) (A : Nat) (hA : A + 4 ≤ s.size) (hs : s.size ≤ 140737488351232) (w : World) :
    Calls Try.prog 39 #[.string s, .int .i64 A, .int .i64 4] w fun e w' => e = .returned (.tuple #[.int .u64 (num4 s A), .bool true]) ∧ w = w' := by
  have hP := Lib.hid (there_yes s A hA hs w)
  go_enter Try.func39, Try.ntmps39
  go_wp2_with fail
  refine hP.out.mono ?_
  rintro e w1 ⟨rfl, rfl⟩
  go_wp2_with fail
  go_loop [8, 9] (fun u i => ∃ k : Nat, k ≤ 4 ∧ i = .int .i64 k ∧ u = .int .u64 (gr s A k)) (fun _ i => 4 - (intOf i).toNat)
  case atStart => exact ⟨0, Nat.zero_le _, rfl, rfl⟩
  case round =>
    obtain ⟨k, hk, rfl, rfl⟩ := hrel
    by_cases hlt : k < 4
    · have hg := gr_lt s A k (by omega)
      have hn := nb_get s (A + k) (by omega)
      have hn' := nb_lt s (A + k)
      have hst : gr s A (k + 1) = gr s A k * 256 + nb s (A + k) := rfl
      rw [← hn] at hst hn'
      have hst' := Lib.hid hst
      clear hn hst
      generalize gr s A k = P at hg hst' ⊢
      go_wp2
      exact ⟨⟨k + 1, by omega, by simp, congrArg (Value.int .u64) (by rw [show gr s A (k + 1) = _ from hst', Int.natCast_add, Int.natCast_mul]; rfl)⟩, by simp [intOf]; omega⟩
    · obtain rfl : k = 4 := by omega
      rw [gr_four]
      go_wp2
      go_ret2
      exact ⟨rfl, rfl⟩
theorem bigRef_no (s : ByteArray) (hA : s.size < 4) (w : World) :
    Calls Try.prog 39 #[.string s, .int .i64 0, .int .i64 4] w fun e w' => e = .returned (.tuple #[.int .u64 0, .bool false]) ∧ w = w' := by
  have hP := Lib.hid (there_no s hA w)
  go_enter Try.func39, Try.ntmps39
  go_wp2_with fail
  refine hP.out.mono ?_
  rintro e w1 ⟨rfl, rfl⟩
  go_wp2
  go_ret2
  exact ⟨rfl, rfl⟩


/-- The row of the page's PutBig behind k rounds. -/
def rb (v : Nat) : Nat → Array Value
  | 0 => #[.int .u8 0, .int .u8 0, .int .u8 0, .int .u8 0]
  | 1 => #[.int .u8 0, .int .u8 0, .int .u8 0, .int .u8 ((v % 256 : Nat) : Int)]
  | 2 => #[.int .u8 0, .int .u8 0, .int .u8 ((v / 256 % 256 : Nat) : Int), .int .u8 ((v % 256 : Nat) : Int)]
  | 3 => #[.int .u8 0, .int .u8 ((v / 65536 % 256 : Nat) : Int), .int .u8 ((v / 256 % 256 : Nat) : Int), .int .u8 ((v % 256 : Nat) : Int)]
  | _ => #[.int .u8 ((v / 16777216 % 256 : Nat) : Int), .int .u8 ((v / 65536 % 256 : Nat) : Int), .int .u8 ((v / 256 % 256 : Nat) : Int), .int .u8 ((v % 256 : Nat) : Int)]
def rv (v : Nat) : Nat → Nat
  | 0 => v
  | 1 => v / 256
  | 2 => v / 65536
  | 3 => v / 16777216
  | _ => 0
theorem rv_lt (v : Nat) (hv : v < 4294967296) (k : Nat) : rv v k < 4294967296 := by
  unfold rv
  split <;> omega

theorem rv_step (v : Nat) (hv : v < 4294967296) (k : Nat) (hk : k < 4) : ((rv v k : Nat) : Int) / 256 = (rv v (k + 1) : Nat) := by
  obtain rfl | rfl | rfl | rfl : k = 0 ∨ k = 1 ∨ k = 2 ∨ k = 3 := by omega
  all_goals
    simp only [rv]
    omega
theorem rb_step (v : Nat) (k : Nat) (hk : k < 4) : (rb v k).setIfInBounds (3 - k) (.int .u8 (((rv v k : Nat) : Int) % 256)) = rb v (k + 1) := by
  obtain rfl | rfl | rfl | rfl : k = 0 ∨ k = 1 ∨ k = 2 ∨ k = 3 := by omega
  all_goals rfl
theorem set_cells {W : World} {b : Nat} {arr : Array Value} {T : TypeId} (h : W.heap[b]? = some (.cells arr T (0, 0))) (i : Nat) (x : Value) :
    (W.setCell ⟨b, i, none⟩ x).heap[b]? = some (.cells (arr.setIfInBounds i x) T (0, 0)) := by
  simp [World.setCell, Array.getElem?_modify, h]
theorem rb_conv {W : World} {b : Nat} (v : Nat) (h : W.heap[b]? = some (.cells (rb v 4) 5 (0, 0))) :
    (convert 59 9 (.slice (some ⟨b, 0, none⟩) 4 4)).run Try.prog W = .ok (.string (strOf (be4 v))) W := by
  rw [run_convert_bytes_string W 59 9 5 _ _ _ Try.underlying59 Try.underlying5 Try.underlying9]
  have hl2 := run_loadCells_list (P := Try.prog) W ⟨b, 0, none⟩ ((be4i v).map (Value.int .u8)) (fun j u hu => by
    have hadd : (⟨b, 0, none⟩ : Addr).add j = ⟨b, j, none⟩ := by unfold Addr.add; split <;> simp_all
    rw [hadd]
    simp only [World.cell?, h]
    have : (rb v 4).toList = (be4i v).map (Value.int .u8) := rfl
    rw [← this] at hu
    simpa using hu)
  rw [List.length_map] at hl2
  rw [show (4 : Nat) = (be4i v).length from rfl, run_bytesToString W ⟨b, 0, none⟩ (be4i v).length _ (be4i v) hl2, fold_bytes, be4i_bytes]
  simp [strOf]
theorem made_one' (z : Value) (n : Nat) : madeCells #[z] n = Array.replicate n z := by
  apply Array.ext
  · simp [madeCells]
  · intro i h1 h2
    simp [madeCells, Nat.mod_one]

theorem make_four (w : World) : (Instr.makeSlice 59 (.int .i64 4) (.int .i64 4)).run Try.prog w =
    .ok (.slice (some ⟨w.heap.size, 0, none⟩) 4 4) (w.alloc (.cells #[.int .u8 0, .int .u8 0, .int .u8 0, .int .u8 0] 5)) := by
  obtain ⟨i0, hi, hz0, hz1, hz2⟩ := info_parts Try.infoByte
  have := run_make (P := Try.prog) w 59 5 i0 (.int .u8 0) Try.underlying59 hi hz0 .i64 .i64 4 4 (by omega) (Int.le_refl _) (by rw [hz2]; omega) (by omega)
  rw [this, hz1, Nat.mul_one]
  simp only [Value.cells, made_one']
  rfl

set_option maxRecDepth 100000 in
theorem putRef_any (v : Nat) (hv : v < 4294967296) (w : World) :
    Calls Try.prog 37 #[.int .u64 v, .int .i64 4] w fun e w' => e = .returned (.string (strOf (be4 v))) ∧ Below w.heap.size w w' := by
  have hmk := make_four w
  go_enter Try.func37, Try.ntmps37
  go_wp2
  go_loopw [0, 6] (fun u i wr => ∃ k : Nat, k ≤ 4 ∧ i = .int .i64 (3 - k) ∧ u = .int .u64 (rv v k) ∧ wr.heap[w.heap.size]? = some (.cells (rb v k) 5 (0, 0)) ∧ Below w.heap.size w wr) (fun _ i _ => (intOf i + 1).toNat)
  case atStart => exact ⟨0, Nat.zero_le _, rfl, rfl, heap_alloc_new w _, (Below.refl _ _).alloc (Nat.le_refl _) _⟩
  case round =>
    obtain ⟨k, hk, rfl, rfl, hb, hB⟩ := hrel
    have hlt' := rv_lt v hv k
    by_cases hlt : k < 4
    · have cc : wr.cell? ⟨w.heap.size, 3 - k, none⟩ = some (.int .u8 0) := by
        simp only [World.cell?, hb]
        obtain rfl | rfl | rfl | rfl : k = 0 ∨ k = 1 ∨ k = 2 ∨ k = 3 := by omega
        all_goals rfl
      have cf : wr.frozen? ⟨w.heap.size, 3 - k, none⟩ = false := by simp [World.frozen?, hb]
      clear hmk
      have hb' := Lib.hid hb
      clear hb
      have hst := Lib.hid (rv_step v hv k hlt)
      have hbt := Lib.hid (rb_step v k hlt)
      have hbs := fun x => set_cells (show wr.heap[w.heap.size]? = _ from hb') (3 - k) x
      have hBs := fun x => hB.setCell (p := ⟨w.heap.size, 3 - k, none⟩) (Nat.le_refl _) x
      have hbs' := Lib.hid hbs
      have hBs' := Lib.hid hBs
      clear hbs hBs
      obtain rfl | rfl | rfl | rfl : k = 0 ∨ k = 1 ∨ k = 2 ∨ k = 3 := by omega
      · go_wp2
        exact ⟨⟨1, by omega, rfl, congrArg (Value.int .u64) hst, (hbs' _).trans (by rw [show Array.setIfInBounds (rb v 0) (3 - 0) _ = _ from hbt]), hBs' _⟩, by simp [intOf]⟩
      · go_wp2
        exact ⟨⟨2, by omega, rfl, congrArg (Value.int .u64) hst, (hbs' _).trans (by rw [show Array.setIfInBounds (rb v 1) (3 - 1) _ = _ from hbt]), hBs' _⟩, by simp [intOf]⟩
      · go_wp2
        exact ⟨⟨3, by omega, rfl, congrArg (Value.int .u64) hst, (hbs' _).trans (by rw [show Array.setIfInBounds (rb v 2) (3 - 2) _ = _ from hbt]), hBs' _⟩, by simp [intOf]⟩
      · go_wp2
        exact ⟨⟨4, by omega, rfl, congrArg (Value.int .u64) hst, (hbs' _).trans (by rw [show Array.setIfInBounds (rb v 3) (3 - 3) _ = _ from hbt]), hBs' _⟩, by simp [intOf]⟩
    · obtain rfl : k = 4 := by omega
      have hcv := rb_conv v hb
      clear hb hmk
      go_wp2
      go_ret
      exact ⟨rfl, hB⟩

end Go.Proofs.Ytplplojhgiaabaa
