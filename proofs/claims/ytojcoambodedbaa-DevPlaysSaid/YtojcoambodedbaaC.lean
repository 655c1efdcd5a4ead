/- The device as data, where it lies, and the contracts of its methods without a loop. -/
import Derived.Test.YtojcoambodedbaaB
set_option linter.unusedVariables false
set_option linter.unusedSimpArgs false
set_option linter.unnecessarySimpa false
namespace Go.Proofs.Ytojcoambodedbaa
open Go.RowKit

/-- What a device is, as data. -/
structure DS where
  safe : List ByteArray
  now : List ByteArray
  held : List (Nat × ByteArray)
  ops : Int
  armed : Bool
  left : Int
  down : Bool

def DS.kept (S : DS) (i : Nat) : ByteArray := if (S.safe.getD i ByteArray.empty).toList.isEmpty then zeros 512 else S.safe.getD i ByteArray.empty
def DS.sector (S : DS) (i : Nat) : ByteArray := if (S.now.getD i ByteArray.empty).toList.isEmpty then S.kept i else S.now.getD i ByteArray.empty

/-- Where a device lies: the struct's block, those of 'safe' and 'now', the value of 'held'. -/
structure DH where
  b : Nat
  bs : Nat
  bn : Nat
  hv : Value

def DH.foot (D : DH) (k : Nat) : Prop := k = D.b ∨ k = D.bs ∨ k = D.bn ∨ D.hv.ownBlock = some k

def strs (l : List ByteArray) : Array Value := (l.map Value.string).toArray
def heldCells (l : List (Nat × ByteArray)) : List Value := l.flatMap fun x => [.int .i64 x.1, .string x.2]
def DH.cells (D : DH) (S : DS) : Array Value :=
  #[.slice (some ⟨D.bs, 0, none⟩) S.safe.length S.safe.length, .slice (some ⟨D.bn, 0, none⟩) S.safe.length S.safe.length, D.hv, .int .i64 S.ops, .bool S.armed, .int .i64 S.left, .bool S.down]

structure DevAt (w : World) (D : DH) (S : DS) : Prop where
  blk : Blk w D.b (D.cells S) 61
  safe : Blk w D.bs (strs S.safe) 9
  now : Blk w D.bn (strs S.now) 9
  held : w.ownsRow 0 63 2 D.hv S.held.length (heldCells S.held)
  ne : D.bs ≠ D.bn
  len : S.now.length = S.safe.length
  small : S.safe.length ≤ 8192

theorem DevAt.lt {w : World} {D : DH} {S : DS} (h : DevAt w D S) : ∀ k, D.foot k → k < w.heap.size := by
  rintro k (rfl | rfl | rfl | hk)
  · exact h.blk.lt
  · exact h.safe.lt
  · exact h.now.lt
  · exact (h.held.lt k hk).2

theorem ownBlock_ne {w : World} {B : Nat} {e T : TypeId} {z : Nat} {v : Value} {n : Nat} {xs : List Value} {b : Nat} {cs : Array Value} (hown : w.ownsRow B e z v n xs) (hb : Blk w b cs T) (hTe : T ≠ e) : v.ownBlock ≠ some b := by
  rcases hown.2 with ⟨rfl, _⟩ | ⟨g, cap, cur, rfl, _, hg, _⟩
  · simp [Value.ownBlock]
  · intro h
    simp only [Value.ownBlock, Option.some.injEq] at h
    subst h
    unfold Blk at hb
    rw [hg] at hb
    simp only [Option.some.injEq, Obj.cells.injEq] at hb
    exact hTe hb.2.1.symm

/-- A device stays where other blocks turn. -/
theorem DevAt.keep {w w' : World} {F : Nat → Prop} {D : DH} {S : DS} (h : DevAt w D S) (u : Upd F w w') (hF : ∀ k, D.foot k → ¬ F k) : DevAt w' D S :=
  ⟨u.blk h.blk (hF _ (Or.inl rfl)), u.blk h.safe (hF _ (Or.inr (Or.inl rfl))), u.blk h.now (hF _ (Or.inr (Or.inr (Or.inl rfl)))), u.owns h.held fun k hk => hF k (Or.inr (Or.inr (Or.inr hk))), h.ne, h.len, h.small⟩

theorem cell_strs {w : World} {b : Nat} {l : List ByteArray} (h : Blk w b (strs l) 9) (i : Nat) (hi : i < l.length) : w.cell? ⟨b, i, none⟩ = some (.string (l.getD i ByteArray.empty)) := by
  rw [h.cell]
  simp [strs, List.getD, hi]

/-- What is empty and what is not, in the walk's own words. -/
theorem nonempty_bool {s : ByteArray} (h : s.toList.isEmpty = false) : (s.toList == ([] : List UInt8)) = false := by
  cases hs : s.toList <;> simp_all
theorem empty_bool {s : ByteArray} (h : s.toList.isEmpty = true) : (s.toList == ([] : List UInt8)) = true := by
  cases hs : s.toList <;> simp_all

theorem kept_any (D : DH) (S : DS) (i : Nat) (w : World) (h : DevAt w D S) (hi : i < S.safe.length) :
    Calls Try.prog 43 #[.pointer (some ⟨D.b, 0, none⟩), .int .i64 i] w fun e w' => e = .returned (.string (S.kept i)) ∧ Upd (fun _ => False) w w' := by
  have c0 : w.cell? ⟨D.b, 0, none⟩ = some (.slice (some ⟨D.bs, 0, none⟩) S.safe.length S.safe.length) := by rw [h.blk.cell]; rfl
  have c1 := cell_strs h.safe i hi
  have hs := h.small
  unfold DS.kept
  generalize S.safe.getD i ByteArray.empty = s at *
  generalize S.safe.length = n at *
  clear h
  have hmk := make_bytes 512 (by omega) (by omega) w
  have hcv := zrow_conv 512 w
  cases hem : s.toList.isEmpty with
  | true =>
    have hb := empty_bool hem
    clear hem
    go_enter Try.func43, Try.ntmps43
    go_wp2
    go_ret
    exact ⟨rfl, (Upd.refl _ _).alloc _⟩
  | false =>
    have hb := nonempty_bool hem
    clear hem
    go_enter Try.func43, Try.ntmps43
    go_wp2
    go_ret
    exact ⟨rfl, Upd.refl _ _⟩

theorem sector_any (D : DH) (S : DS) (i : Nat) (w : World) (h : DevAt w D S) (hi : i < S.safe.length) :
    Calls Try.prog 35 #[.pointer (some ⟨D.b, 0, none⟩), .int .i64 i] w fun e w' => e = .returned (.string (S.sector i)) ∧ Upd (fun _ => False) w w' := by
  have c0 : w.cell? ⟨D.b, 1, none⟩ = some (.slice (some ⟨D.bn, 0, none⟩) S.safe.length S.safe.length) := by rw [h.blk.cell]; rfl
  have c1 := cell_strs h.now i (by rw [h.len]; exact hi)
  have hs := h.small
  have K := Lib.hid (kept_any D S i w h hi)
  unfold DS.sector
  generalize S.now.getD i ByteArray.empty = s at *
  generalize S.safe.length = n at *
  clear h
  cases hem : s.toList.isEmpty with
  | true =>
    have hb := empty_bool hem
    clear hem
    go_enter Try.func35, Try.ntmps35
    go_wp2_with fail
    refine K.out.mono ?_
    rintro e w' ⟨rfl, hu⟩
    go_wp2_with fail
    go_ret
    exact ⟨rfl, hu⟩
  | false =>
    have hb := nonempty_bool hem
    clear hem
    go_enter Try.func35, Try.ntmps35
    go_wp2_with fail
    go_ret
    exact ⟨rfl, Upd.refl _ _⟩

theorem size_any (D : DH) (S : DS) (w : World) (h : DevAt w D S) :
    Calls Try.prog 22 #[.pointer (some ⟨D.b, 0, none⟩)] w fun e w' => e = .returned (.int .i64 S.safe.length) ∧ w = w' := by
  have c0 : w.cell? ⟨D.b, 0, none⟩ = some (.slice (some ⟨D.bs, 0, none⟩) S.safe.length S.safe.length) := by rw [h.blk.cell]; rfl
  clear h
  go_enter Try.func22, Try.ntmps22
  go_wp2
  go_ret
  exact ⟨rfl, rfl⟩

theorem held_any (D : DH) (S : DS) (w : World) (h : DevAt w D S) :
    Calls Try.prog 14 #[.pointer (some ⟨D.b, 0, none⟩)] w fun e w' => e = .returned (.int .i64 S.held.length) ∧ w = w' := by
  obtain ⟨ao, cap, hv⟩ : ∃ ao cap, D.hv = .slice ao S.held.length cap := by
    rcases h.held.2 with ⟨hv, h0⟩ | ⟨g, cap, cur, hv, _⟩
    · exact ⟨none, 0, by rw [hv, h0]⟩
    · exact ⟨_, _, hv⟩
  have c0 : w.cell? ⟨D.b, 2, none⟩ = some (.slice ao S.held.length cap) := by rw [h.blk.cell, ← hv]; rfl
  clear h hv
  go_enter Try.func14, Try.ntmps14
  go_wp2
  go_ret
  exact ⟨rfl, rfl⟩

theorem down_any (D : DH) (S : DS) (w : World) (h : DevAt w D S) :
    Calls Try.prog 20 #[.pointer (some ⟨D.b, 0, none⟩)] w fun e w' => e = .returned (.bool S.down) ∧ w = w' := by
  have c0 : w.cell? ⟨D.b, 6, none⟩ = some (.bool S.down) := by rw [h.blk.cell]; rfl
  clear h
  go_enter Try.func20, Try.ntmps20
  go_wp2
  go_ret
  exact ⟨rfl, rfl⟩

/-- New values in the struct's own cells. -/
theorem DevAt.restruct {w w' : World} {D : DH} {S : DS} (h : DevAt w D S) (ops left : Int) (armed down : Bool) (hb : Blk w' D.b (D.cells { S with ops := ops, left := left, armed := armed, down := down }) 61) (hu : Upd (fun k => k = D.b) w w') :
    DevAt w' D { S with ops := ops, left := left, armed := armed, down := down } := by
  have n1 : D.bs ≠ D.b := h.safe.ne h.blk (by decide)
  have n2 : D.bn ≠ D.b := h.now.ne h.blk (by decide)
  exact ⟨hb, hu.blk h.safe n1, hu.blk h.now n2, hu.owns h.held (fun k hk e => ownBlock_ne h.held h.blk (by decide) (e ▸ hk)), h.ne, h.len, h.small⟩

theorem arm_any (D : DH) (S : DS) (n : Int) (w : World) (h : DevAt w D S) :
    Calls Try.prog 19 #[.pointer (some ⟨D.b, 0, none⟩), .int .i64 n] w fun e w' => e = .returned (.tuple #[]) ∧ DevAt w' D { S with armed := true, left := max n 0 } ∧ Upd (fun k => k = D.b) w w' := by
  have c4 : w.cell? ⟨D.b, 4, none⟩ = some (.bool S.armed) := by rw [h.blk.cell]; rfl
  have c5 : w.cell? ⟨D.b, 5, none⟩ = some (.int .i64 S.left) := by rw [h.blk.cell]; rfl
  have f4 := h.blk.free 4
  have f5 := h.blk.free 5
  obtain ⟨m, hm, hn⟩ : ∃ m, max n 0 = m ∧ ((n < 0 ∧ m = 0) ∨ (0 ≤ n ∧ m = n)) := ⟨max n 0, rfl, by omega⟩
  rw [hm]
  have hb := (h.blk.set 4 (.bool true)).set 5 (.int .i64 m)
  have hu : Upd (fun k => k = D.b) w ((w.setCell ⟨D.b, 4, none⟩ (.bool true)).setCell ⟨D.b, 5, none⟩ (.int .i64 m)) := ((Upd.refl _ _).at1 _ _).at1 _ _
  have H := Lib.hid (And.intro (h.restruct S.ops m true S.down hb hu) hu)
  clear h hb hu hm
  rcases hn with ⟨hn, rfl⟩ | ⟨hn, rfl⟩
  all_goals
    go_enter Try.func19, Try.ntmps19
    go_wp2
    go_end0
    exact ⟨rfl, H.out.1, H.out.2⟩

/-- atomic.Int64's Add at a cell that is known. -/
theorem add_any (b i : Nat) (n : Int) (w : World) (h : w.cell? ⟨b, i, none⟩ = some (.int .i64 n)) (hf : w.frozen? ⟨b, i, none⟩ = false) :
    Calls Try.prog 41 #[.pointer (some ⟨b, i, none⟩), .int .i64 1] w fun e w' => e = .returned (.int .i64 (wrap64 (n + 1))) ∧ w' = w.setCell ⟨b, i, none⟩ (.int .i64 (wrap64 (n + 1))) := by
  have hadd := run_call_add (P := Try.prog) Try.func45 (by kernel_rfl) (by kernel_rfl) (by kernel_rfl) .i64 (by kernel_rfl) (y := 1) (s := wrap64 (n + 1)) h hf (by simp [go_sem, wrap64, IntKind.wrap_i64])
  go_enter Try.func41, Try.ntmps41
  go_wp2
  go_ret
  exact ⟨rfl, rfl⟩

theorem load_any (b i : Nat) (n : Int) (w : World) (h : w.cell? ⟨b, i, none⟩ = some (.int .i64 n)) :
    Calls Try.prog 34 #[.pointer (some ⟨b, i, none⟩)] w fun e w' => e = .returned (.int .i64 n) ∧ w = w' := by
  have hld := run_call_load (P := Try.prog) Try.func42 (by kernel_rfl) (by kernel_rfl) (by kernel_rfl) .i64 (by kernel_rfl) h
  go_enter Try.func34, Try.ntmps34
  go_wp2
  go_ret
  exact ⟨rfl, rfl⟩

theorem ops_any (D : DH) (S : DS) (w : World) (h : DevAt w D S) :
    Calls Try.prog 13 #[.pointer (some ⟨D.b, 0, none⟩)] w fun e w' => e = .returned (.int .i64 S.ops) ∧ w = w' := by
  have c0 : w.cell? ⟨D.b, 3, none⟩ = some (.int .i64 S.ops) := by rw [h.blk.cell]; rfl
  have K := Lib.hid (load_any D.b 3 S.ops w c0)
  clear h
  go_enter Try.func13, Try.ntmps13
  go_wp2_with fail
  refine K.out.mono ?_
  rintro e w' ⟨rfl, rfl⟩
  go_wp2_with fail
  go_ret
  exact ⟨rfl, rfl⟩

def DS.goes (S : DS) : Bool := !S.down && !(S.armed && S.left == 0)
def DS.op (S : DS) : DS := if S.goes then { S with left := wrap64 (S.left - 1), ops := wrap64 (S.ops + 1) } else { S with down := true }

theorem operation_no (D : DH) (S : DS) (w : World) (h : DevAt w D S) (hg : S.goes = false) :
    Calls Try.prog 33 #[.pointer (some ⟨D.b, 0, none⟩)] w fun e w' => e = .returned (.bool false) ∧ DevAt w' D { S with down := true } ∧ Upd (fun k => k = D.b) w w' := by
  have c4 : w.cell? ⟨D.b, 4, none⟩ = some (.bool S.armed) := by rw [h.blk.cell]; rfl
  have c5 : w.cell? ⟨D.b, 5, none⟩ = some (.int .i64 S.left) := by rw [h.blk.cell]; rfl
  have c6 : w.cell? ⟨D.b, 6, none⟩ = some (.bool S.down) := by rw [h.blk.cell]; rfl
  have f6 := h.blk.free 6
  have hb := h.blk.set 6 (.bool true)
  have hu : Upd (fun k => k = D.b) w (w.setCell ⟨D.b, 6, none⟩ (.bool true)) := (Upd.refl _ _).at1 _ _
  have H := Lib.hid (And.intro (h.restruct S.ops S.left S.armed true hb hu) hu)
  clear h hb hu
  unfold DS.goes at hg
  rcases S with ⟨sf, nw, hd, ops, armed, left, down⟩
  dsimp only at *
  cases down with
  | true =>
    clear hg
    go_enter Try.func33, Try.ntmps33
    go_wp2
    go_ret
    exact ⟨rfl, H.out.1, H.out.2⟩
  | false =>
    cases armed with
    | false => simp at hg
    | true =>
      have h0 : (left == 0) = true := by simpa using hg
      clear hg
      go_enter Try.func33, Try.ntmps33
      go_wp2
      go_ret
      exact ⟨rfl, H.out.1, H.out.2⟩

theorem operation_yes (D : DH) (S : DS) (w : World) (h : DevAt w D S) (hg : S.goes = true) :
    Calls Try.prog 33 #[.pointer (some ⟨D.b, 0, none⟩)] w fun e w' => e = .returned (.bool true) ∧ DevAt w' D { S with left := wrap64 (S.left - 1), ops := wrap64 (S.ops + 1) } ∧ Upd (fun k => k = D.b) w w' := by
  have c3 : w.cell? ⟨D.b, 3, none⟩ = some (.int .i64 S.ops) := by rw [h.blk.cell]; rfl
  have c4 : w.cell? ⟨D.b, 4, none⟩ = some (.bool S.armed) := by rw [h.blk.cell]; rfl
  have c5 : w.cell? ⟨D.b, 5, none⟩ = some (.int .i64 S.left) := by rw [h.blk.cell]; rfl
  have c6 : w.cell? ⟨D.b, 6, none⟩ = some (.bool S.down) := by rw [h.blk.cell]; rfl
  have f3 := h.blk.free 3
  have f5 := h.blk.free 5
  have K := Lib.hid (add_any D.b 3 S.ops (w.setCell ⟨D.b, 5, none⟩ (.int .i64 (wrap64 (S.left - 1)))) (by rw [(h.blk.set 5 _).cell]; rfl) ((h.blk.set 5 _).free 3))
  have hb := (h.blk.set 5 (.int .i64 (wrap64 (S.left - 1)))).set 3 (.int .i64 (wrap64 (S.ops + 1)))
  have hu : Upd (fun k => k = D.b) w ((w.setCell ⟨D.b, 5, none⟩ (.int .i64 (wrap64 (S.left - 1)))).setCell ⟨D.b, 3, none⟩ (.int .i64 (wrap64 (S.ops + 1)))) := ((Upd.refl _ _).at1 _ _).at1 _ _
  have H := Lib.hid (And.intro (h.restruct (wrap64 (S.ops + 1)) (wrap64 (S.left - 1)) S.armed S.down hb hu) hu)
  clear h hb hu c3 f3
  unfold DS.goes at hg
  rcases S with ⟨sf, nw, hd, ops, armed, left, down⟩
  dsimp only at *
  cases down with
  | true => simp at hg
  | false =>
    cases armed with
    | false =>
      clear hg
      go_enter Try.func33, Try.ntmps33
      go_wp2_with fail
      refine K.out.mono ?_
      rintro e w' ⟨rfl, rfl⟩
      go_wp2_with fail
      go_ret
      exact ⟨rfl, H.out.1, H.out.2⟩
    | true =>
      have h0 : (left == 0) = false := by simpa using hg
      clear hg
      go_enter Try.func33, Try.ntmps33
      go_wp2_with fail
      refine K.out.mono ?_
      rintro e w' ⟨rfl, rfl⟩
      go_wp2_with fail
      go_ret
      exact ⟨rfl, H.out.1, H.out.2⟩

end Go.Proofs.Ytojcoambodedbaa
