/- The small helpers' contracts: Mod, Block, Zeros. -/
import Derived.Test.YtojcoambodedbaaA
import Derived.Laws.MakeOwn
import Derived.Laws.BytesString
import Derived.Laws.IdiomStrings
set_option linter.unusedVariables false
set_option linter.unusedSimpArgs false
set_option linter.unnecessarySimpa false
namespace Go.Proofs.Ytojcoambodedbaa
open Go.RowKit

theorem ret_int {k : IntKind} {a b : Int} (h : a = b) : Ending.returned (.int k a) = .returned (.int k b) := by rw [h]
theorem ret_str {a b : ByteArray} (h : a = b) : Ending.returned (.string a) = .returned (.string b) := by rw [h]

theorem mod_low (k n : Int) (w : World) (h : n < 1) :
    Calls Try.prog 10 #[.int .i64 k, .int .i64 n] w fun e w' => e = .returned (.int .i64 0) ∧ w = w' := by
  go_enter Try.func10, Try.ntmps10
  go_wp2
  go_ret
  exact ⟨rfl, rfl⟩

theorem mod_eq (k n : Int) (h : 1 ≤ n) : (k.tmod n + n) % n = k % n := by
  have e : k.tmod n + n = k + n * (1 - k.tdiv n) := by
    rw [Int.tmod_def, Int.mul_sub, Int.mul_one]; omega
  rw [e, Int.add_mul_emod_self_left]

theorem mod_any (k n : Int) (w : World) (h : 1 ≤ n) (hn : n ≤ 100000) :
    Calls Try.prog 10 #[.int .i64 k, .int .i64 n] w fun e w' => e = .returned (.int .i64 (k % n)) ∧ w = w' := by
  have h1 : -n < k.tmod n := by have := Int.lt_tmod_of_pos k (show 0 < n by omega); omega
  have h2 : k.tmod n < n := Int.tmod_lt_of_pos k (by omega)
  have H := Lib.hid (mod_eq k n h)
  go_enter Try.func10, Try.ntmps10
  go_wp2
  go_ret
  exact ⟨ret_int H.out, rfl⟩

theorem madeCells_one (v : Value) (n : Nat) : madeCells #[v] n = Array.replicate n v := by
  apply Array.ext
  · simp [madeCells]
  · intro i h1 h2
    simp [madeCells, Nat.mod_one]

theorem Try.info5 : (Try.prog.info? 5).map (fun i => (i.zero, i.size, i.bytes)) = some (some (.int .u8 0), 1, 1) := by kernel_rfl

/-- A row of n bytes 0. -/
def zrow (n : Nat) : Array Value := Array.replicate n (.int .u8 0)

/-- make([]byte, n). -/
theorem make_bytes (n : Int) (h0 : 0 ≤ n) (hn : n ≤ 140737488355328) (w : World) : (Instr.makeSlice 22 (.int .i64 n) (.int .i64 n)).run Try.prog w =
    .ok (.slice (some ⟨w.heap.size, 0, none⟩) n.toNat n.toNat) (w.alloc (.cells (zrow n.toNat) 5)) := by
  obtain ⟨i0, hi, hz0, hz1, hz2⟩ := info_parts Try.info5
  have := run_make (P := Try.prog) w 22 5 i0 (.int .u8 0) Try.underlying22 hi hz0 .i64 .i64 n n h0 (Int.le_refl _) (by rw [hz2]; omega) (by omega)
  rw [this, hz1, Nat.mul_one]
  simp only [Value.cells, madeCells_one, zrow]

def strOf (l : List UInt8) : ByteArray := ⟨l.toArray⟩
def zeros (n : Nat) : ByteArray := strOf (List.replicate n 0)
def blockN (n b : Nat) : ByteArray := strOf (List.replicate n (UInt8.ofNat b))
def block (b : Nat) : ByteArray := blockN 512 b

theorem fold_bytes (ns : List Int) : ∀ s : ByteArray, (ns.foldl (fun r n => r.push (UInt8.ofNat n.toNat)) s) = s ++ strOf (ns.map fun n => UInt8.ofNat n.toNat) := by
  induction ns with
  | nil => intro s; simp [strOf]; apply ByteArray.ext; simp
  | cons n ns ih =>
    intro s
    simp only [List.foldl_cons, List.map_cons]
    rw [ih]
    apply ByteArray.ext
    simp [strOf, ByteArray.data_append, ByteArray.push]

/-- string(b) of a row that is known whole. -/
theorem conv_bytes {w : World} {b : Nat} {ns : List Int} (hb : Blk w b (ns.map (Value.int .u8)).toArray 5) (cap : Nat) :
    (convert 22 9 (.slice (some ⟨b, 0, none⟩) ns.length cap)).run Try.prog w = .ok (.string (strOf (ns.map fun n => UInt8.ofNat n.toNat))) w := by
  rw [run_convert_bytes_string w 22 9 5 _ _ _ Try.underlying22 Try.underlying5 Try.underlying9]
  have hl := run_loadCells_list (P := Try.prog) w ⟨b, 0, none⟩ (ns.map (Value.int .u8)) (fun j v hv => by
    have hadd : (⟨b, 0, none⟩ : Addr).add j = ⟨b, j, none⟩ := by unfold Addr.add; split <;> simp_all
    rw [hadd, hb.cell]; simpa using hv)
  rw [List.length_map] at hl
  rw [run_bytesToString w ⟨b, 0, none⟩ ns.length cap ns hl, fold_bytes]
  simp [strOf]

theorem zrow_list (n : Nat) : zrow n = ((List.replicate n (0 : Int)).map (Value.int .u8)).toArray := by
  simp [zrow]

theorem zrow_conv (n : Nat) (w : World) : (convert 22 9 (.slice (some ⟨w.heap.size, 0, none⟩) n n)).run Try.prog (w.alloc (.cells (zrow n) 5)) = .ok (.string (zeros n)) (w.alloc (.cells (zrow n) 5)) := by
  have hb := Blk.new w (zrow n) 5
  rw [zrow_list] at hb ⊢
  have := conv_bytes hb n
  simpa [zeros] using this

theorem zeros_any (n : Int) (h0 : 0 ≤ n) (hn : n ≤ 140737488355328) (w : World) :
    Calls Try.prog 18 #[.int .i64 n] w fun e w' => e = .returned (.string (zeros n.toNat)) ∧ Below w.heap.size w w' := by
  have hmk := make_bytes n h0 hn w
  have hcv := zrow_conv n.toNat w
  go_enter Try.func18, Try.ntmps18
  go_wp2
  go_ret
  exact ⟨rfl, (Below.refl _ _).alloc (Nat.le_refl _) _⟩

/-- The row of Block's loop behind k rounds. -/
def brow (b n k : Nat) : List Int := List.replicate k (b : Int) ++ List.replicate (n - k) 0
def barr (b n k : Nat) : Array Value := ((brow b n k).map (Value.int .u8)).toArray
theorem barr_zero (b n : Nat) : zrow n = barr b n 0 := by simp [zrow_list, barr, brow]
theorem barr_get (b n k i : Nat) (h : i < n) (hk : k ≤ n) : ∃ v, (barr b n k)[i]? = some v := by
  have : i < (barr b n k).size := by simp [barr, brow]; omega
  exact ⟨_, Array.getElem?_eq_getElem this⟩
theorem barr_set (b n k : Nat) (h : k < n) : (barr b n k).setIfInBounds k (.int .u8 b) = barr b n (k + 1) := by
  apply Array.ext_getElem?
  intro i
  simp only [barr, brow, Array.getElem?_setIfInBounds, List.getElem?_toArray, List.getElem?_map, List.getElem?_append, List.length_replicate, List.getElem?_replicate]
  simp only [List.size_toArray, List.length_map, List.length_append, List.length_replicate]
  grind

theorem blockN_conv {w : World} {B b n : Nat} (hb : Blk w B (barr b n n) 5) : (convert 22 9 (.slice (some ⟨B, 0, none⟩) n n)).run Try.prog w = .ok (.string (blockN n b)) w := by
  unfold barr at hb
  have := conv_bytes hb n
  have hl : (brow b n n).length = n := by simp only [brow, List.length_append, List.length_replicate]; omega
  rw [hl] at this
  rw [this]
  unfold blockN
  simp only [brow, Nat.sub_self, List.replicate_zero, List.append_nil, List.map_replicate, Int.toNat_natCast]

set_option maxRecDepth 100000 in
theorem block_any (b : Nat) (hb : b < 256) (w : World) :
    Calls Try.prog 11 #[.int .u8 b] w fun e w' => e = .returned (.string (block b)) ∧ Below w.heap.size w w' := by
  have hmk := make_bytes 512 (by omega) (by omega) w
  go_enter Try.func11, Try.ntmps11
  go_wp2
  go_loopw [4] (fun i wr => ∃ k : Nat, k ≤ 512 ∧ i = .int .i64 k ∧ Blk wr w.heap.size (barr b 512 k) 5 ∧ Below w.heap.size w wr) (fun i _ => 512 - (intOf i).toNat)
  case atStart => exact ⟨0, by omega, rfl, by rw [← barr_zero]; exact Blk.new w _ 5, (Below.refl _ _).alloc (Nat.le_refl _) _⟩
  case round =>
    obtain ⟨k, hk, rfl, hB, hbl⟩ := hrel
    by_cases hlt : k < 512
    · obtain ⟨v, hv⟩ := barr_get b 512 k k hlt hk
      have hc := (hB.cell k).trans hv
      have hf := hB.free k
      have hB' := hB.set k (.int .u8 b)
      rw [barr_set b 512 k hlt] at hB'
      have HB := Lib.hid hB'
      clear hB' hv hB hmk
      go_wp2
      go_roundw
      case rel => exact ⟨k + 1, by omega, by go_num, HB.out, hbl.setCell (Nat.le_refl _) _⟩
      case measure => simp [intOf]; omega
    · have : k = 512 := by omega
      subst this
      have hcv : (convert 22 9 (.slice (some ⟨w.heap.size, 0, none⟩) 512 512)).run Try.prog wr = .ok (.string (block b)) wr := blockN_conv hB
      clear hB hmk
      go_wp2
      go_ret
      exact ⟨rfl, hbl⟩
end Go.Proofs.Ytojcoambodedbaa
