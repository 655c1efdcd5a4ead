/- A new device; Write. -/
import Derived.Test.YtojcoambodedbaaC
set_option linter.unusedVariables false
set_option linter.unusedSimpArgs false
set_option linter.unnecessarySimpa false
namespace Go.Proofs.Ytojcoambodedbaa
open Go.RowKit

theorem Try.info9 : (Try.prog.info? 9).map (fun i => (i.zero, i.size, i.bytes)) = some (some (.string ⟨#[]⟩), 1, 16) := by kernel_rfl

def erow (n : Nat) : Array Value := strs (List.replicate n ByteArray.empty)

/-- make([]string, n). -/
theorem make_strs (n : Nat) (hn : n ≤ 8192) (w : World) : (Instr.makeSlice 53 (.int .i64 n) (.int .i64 n)).run Try.prog w =
    .ok (.slice (some ⟨w.heap.size, 0, none⟩) n n) (w.alloc (.cells (erow n) 9)) := by
  obtain ⟨i0, hi, hz0, hz1, hz2⟩ := info_parts Try.info9
  have := run_make (P := Try.prog) w 53 9 i0 (.string ⟨#[]⟩) Try.underlying53 hi hz0 .i64 .i64 n n (by omega) (Int.le_refl _) (by rw [hz2]; omega) (by omega)
  rw [this, hz1, Nat.mul_one]
  simp only [Value.cells, madeCells_one, erow, strs, Int.toNat_natCast, List.map_replicate, List.toArray_replicate]
  rfl

def DS.fresh (n : Nat) : DS := { safe := List.replicate n ByteArray.empty, now := List.replicate n ByteArray.empty, held := [], ops := 0, armed := false, left := 0, down := false }

theorem new_no (n : Int) (w : World) (h : n < 1 ∨ 8192 < n) :
    Calls Try.prog 9 #[.int .i64 n] w fun e w' => e = .returned (.tuple #[.pointer none, .int .i64 1]) ∧ w = w' := by
  rcases h with h | h
  · go_enter Try.func9, Try.ntmps9
    go_wp2
    go_ret2
    exact ⟨rfl, rfl⟩
  · have h' : 1 ≤ n := by omega
    go_enter Try.func9, Try.ntmps9
    go_wp2
    go_ret2
    exact ⟨rfl, rfl⟩

theorem fresh_dev (n : Nat) (w : World) (bs bn : Nat) (h2 : n ≤ 8192) (h : (bs = w.heap.size ∧ bn = w.heap.size + 1) ∨ (bs = w.heap.size + 1 ∧ bn = w.heap.size)) (w' : World)
    (hw : w' = (((w.alloc (.cells (erow n) 9)).alloc (.cells (erow n) 9)).alloc (.cells #[.slice (some ⟨bs, 0, none⟩) n n, .slice (some ⟨bn, 0, none⟩) n n, .slice none 0 0, .int .i64 0, .bool false, .int .i64 0, .bool false] 61)).drew) :
    DevAt w' ⟨w.heap.size + 1 + 1, bs, bn, .slice none 0 0⟩ (DS.fresh n) ∧ Upd (fun _ => False) w w' ∧ ∀ k, DH.foot ⟨w.heap.size + 1 + 1, bs, bn, .slice none 0 0⟩ k → w.heap.size ≤ k := by
  have b0 : Blk w' w.heap.size (erow n) 9 := by
    subst hw
    exact ((Blk.new w (erow n) 9).alloc _).alloc _
  have b1 : Blk w' (w.heap.size + 1) (erow n) 9 := by
    subst hw
    have := (Blk.new (w.alloc (.cells (erow n) 9)) (erow n) 9).alloc (.cells #[.slice (some ⟨bs, 0, none⟩) n n, .slice (some ⟨bn, 0, none⟩) n n, .slice none 0 0, .int .i64 0, .bool false, .int .i64 0, .bool false] 61)
    rw [World.size_alloc] at this
    exact this
  have b2 : Blk w' (w.heap.size + 1 + 1) #[.slice (some ⟨bs, 0, none⟩) n n, .slice (some ⟨bn, 0, none⟩) n n, .slice none 0 0, .int .i64 0, .bool false, .int .i64 0, .bool false] 61 := by
    subst hw
    have := Blk.new ((w.alloc (.cells (erow n) 9)).alloc (.cells (erow n) 9)) #[.slice (some ⟨bs, 0, none⟩) n n, .slice (some ⟨bn, 0, none⟩) n n, .slice none 0 0, .int .i64 0, .bool false, .int .i64 0, .bool false] 61
    rw [World.size_alloc, World.size_alloc] at this
    exact this
  have hu : Upd (fun _ => False) w w' := by
    subst hw
    exact ((((Upd.refl _ _).alloc _).alloc _).alloc _).drew
  refine ⟨⟨?_, ?_, ?_, ?_, ?_, ?_, ?_⟩, hu, ?_⟩
  · simpa [DH.cells, DS.fresh] using b2
  · rcases h with ⟨rfl, rfl⟩ | ⟨rfl, rfl⟩
    · exact b0
    · exact b1
  · rcases h with ⟨rfl, rfl⟩ | ⟨rfl, rfl⟩
    · exact b1
    · exact b0
  · exact World.ownsRow_nil _ _ _ _
  · show bs ≠ bn
    omega
  · rfl
  · simpa [DS.fresh] using h2
  · intro k hk
    rcases hk with hk | hk | hk | hk
    · dsimp only at hk; omega
    · dsimp only at hk; omega
    · dsimp only at hk; omega
    · simp [Value.ownBlock] at hk

theorem new_yes (n : Nat) (w : World) (h1 : 1 ≤ n) (h2 : n ≤ 8192) :
    Calls Try.prog 9 #[.int .i64 n] w fun e w' => ∃ D : DH, e = .returned (.tuple #[.pointer (some ⟨D.b, 0, none⟩), .int .i64 0]) ∧ DevAt w' D (DS.fresh n) ∧ Upd (fun _ => False) w w' ∧ ∀ k, D.foot k → w.heap.size ≤ k := by
  have hmk := make_strs n h2
  have H := fresh_dev n w
  have H := Lib.hid H
  go_enter Try.func9, Try.ntmps9
  go_wp2
  go_region
  all_goals go_wp2
  · go_ret2
    exact ⟨_, rfl, H.out w.heap.size (w.heap.size + 1) h2 (Or.inl ⟨rfl, rfl⟩) _ rfl⟩
  · go_ret2
    exact ⟨_, rfl, H.out (w.heap.size + 1) w.heap.size h2 (Or.inr ⟨rfl, rfl⟩) _ rfl⟩

end Go.Proofs.Ytojcoambodedbaa
