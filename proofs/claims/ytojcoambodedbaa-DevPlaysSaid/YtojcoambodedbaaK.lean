/- Read. -/
import Derived.Test.YtojcoambodedbaaI
import Derived.Test.YtojcoambodedbaaJ
set_option linter.unusedVariables false
set_option linter.unusedSimpArgs false
set_option linter.unnecessarySimpa false
namespace Go.Proofs.Ytojcoambodedbaa
open Go.RowKit

/-- The bytes of k sectors from a place on. -/
def DS.reads (S : DS) (i : Nat) : Nat → List UInt8
  | 0 => []
  | k + 1 => S.reads i k ++ (S.sector (i + k)).data.toList

theorem DS.Ok.reads_length {S : DS} (h : S.Ok) (i : Nat) : ∀ k, (S.reads i k).length = k * 512
  | 0 => rfl
  | k + 1 => by
    rw [DS.reads, List.length_append, h.reads_length i k]
    have : (S.sector (i + k)).data.toList.length = (S.sector (i + k)).size := Array.length_toList
    rw [this, h.sector]
    omega

theorem builder_keep {F : Nat → Prop} {w w' : World} {B b : Nat} {bs : List Value} (h : Lib.IsBuilder 67 5 B b bs w) (u : Upd F w w') (hF : ∀ k, B ≤ k → ¬ F k) : Lib.IsBuilder 67 5 B b bs w' := by
  have key : ∀ p, Lib.BuilderAt 67 5 B b p bs w → Lib.BuilderAt 67 5 B b p bs w' := by
    rintro p ⟨hB, v, hb, hown, hne⟩
    exact ⟨hB, v, u.blk hb (hF b hB), u.owns hown (fun k hk => hF k (hown.lt k hk).1), hne⟩
  exact h.imp (key _) (key _)

theorem read_ok (D : DH) (S : DS) (i n : Nat) (w : World) (h : DevAt w D S) (hok : S.Ok) (hi : i + n ≤ S.safe.length) (hdn : S.down = false) :
    Calls Try.prog 16 #[.pointer (some ⟨D.b, 0, none⟩), .int .i64 i, .int .i64 n] w fun e w' => e = .returned (.tuple #[.string ⟨(S.reads i n).toArray⟩, .int .i64 0]) ∧ Below w.heap.size w w' := by
  have c0 : w.cell? ⟨D.b, 0, none⟩ = some (.slice (some ⟨D.bs, 0, none⟩) S.safe.length S.safe.length) := by rw [h.blk.cell]; rfl
  have c6 : w.cell? ⟨D.b, 6, none⟩ = some (.bool false) := by rw [h.blk.cell, ← hdn]; rfl
  have hs := h.small
  have e1 : ¬ (i : Int) < 0 := by omega
  have e2 : ¬ (n : Int) < 0 := by omega
  have e3 : ¬ (S.safe.length : Int) < i := by omega
  have e4 : ¬ (S.safe.length : Int) - i < n := by omega
  have hin : i + n ≤ 8192 := by omega
  have H := Lib.hid h
  have HI := Lib.hid hi
  have HL := Lib.hid (hok.reads_length i)
  clear h hi hdn
  go_enter Try.func16, Try.ntmps16
  go_wp2_with fail
  go_loopw [46] (fun j wr => ∃ k : Nat, k ≤ n ∧ j = .int .i64 k ∧ Lib.IsBuilder 67 5 w.heap.size w.heap.size (Lib.byteCells (S.reads i k)) wr ∧ Below w.heap.size w wr) (fun j _ => n - (intOf j).toNat)
  case atStart => exact ⟨0, by omega, rfl, Lib.fresh_isBuilder 67 5 w, (Below.refl _ _).alloc (Nat.le_refl _) _⟩
  case round =>
    obtain ⟨k, hk, rfl, hB, hbl⟩ := hrel
    by_cases hlt : k < n
    · have hD : DevAt wr D S := H.out.keep (Upd.ofBelow (F := fun j => w.heap.size ≤ j) hbl (fun j _ hj => hj)) (fun j hj => by have := H.out.lt j hj; omega)
      have K1 := Lib.hid (sector_any D S (i + k) wr hD (by have := HI.out; omega))
      have HBB := Lib.hid hB
      clear hB hD c0 c6
      go_wp2_with fail
      refine K1.out.mono ?_
      rintro e w1 ⟨rfl, hu1⟩
      have hB1 := builder_keep HBB.out hu1 (fun _ _ h => h)
      have hbl1 : Below w.heap.size w w1 := hbl.trans (hu1.below hbl.size (fun _ h => h.elim))
      have K2 := writeString_any w.heap.size w.heap.size _ (S.sector (i + k)) w1 hB1 (by rw [Lib.byteCells_length, HL.out, hok.sector]; omega) hbl1.size
      rw [Lib.strCells_eq, ← Lib.byteCells_append] at K2
      have K2 := Lib.hid K2
      clear hB1 hu1 hbl
      go_wp2_with fail
      refine K2.out.mono ?_
      rintro e w2 ⟨rfl, hB2, hbl2⟩
      have HB2 := Lib.hid hB2
      clear hB2
      go_wp2_with fail
      go_roundw
      case rel => exact ⟨k + 1, by omega, by go_num, Or.inr HB2.out, hbl1.trans hbl2⟩
      case measure => simp [intOf]; omega
    · have hk' : k = n := by omega
      subst hk'
      have K3 := Lib.hid (string_any w.heap.size w.heap.size (S.reads i k) wr hB hbl.size)
      clear hB c0 c6
      go_wp2_with fail
      refine K3.out.mono ?_
      rintro e w1 ⟨rfl, hbl1⟩
      go_wp2_with fail
      go_ret2
      exact ⟨rfl, hbl.trans hbl1⟩

theorem read_place (D : DH) (S : DS) (i n : Int) (w : World) (h : DevAt w D S) (hbad : i < 0 ∨ n < 0 ∨ S.safe.length < i ∨ (S.safe.length : Int) - i < n) :
    Calls Try.prog 16 #[.pointer (some ⟨D.b, 0, none⟩), .int .i64 i, .int .i64 n] w fun e w' => e = .returned (.tuple #[.string ⟨#[]⟩, .int .i64 40]) ∧ w = w' := by
  have c0 : w.cell? ⟨D.b, 0, none⟩ = some (.slice (some ⟨D.bs, 0, none⟩) S.safe.length S.safe.length) := by rw [h.blk.cell]; rfl
  have hs := h.small
  clear h
  generalize S.safe.length = l at *
  by_cases h1 : i < 0
  · clear hbad
    go_enter Try.func16, Try.ntmps16
    go_wp2
    go_ret2
    exact ⟨rfl, rfl⟩
  · have h1' : 0 ≤ i := by omega
    by_cases h2 : n < 0
    · clear hbad h1
      go_enter Try.func16, Try.ntmps16
      go_wp2
      go_ret2
      exact ⟨rfl, rfl⟩
    · have h2' : 0 ≤ n := by omega
      by_cases h3 : (l : Int) < i
      · clear hbad h1 h2
        go_enter Try.func16, Try.ntmps16
        go_wp2
        go_ret2
        exact ⟨rfl, rfl⟩
      · have h4 : (l : Int) - i < n := by omega
        have h3' : i ≤ l := by omega
        clear hbad h1 h2 h3
        go_enter Try.func16, Try.ntmps16
        go_wp2
        go_ret2
        exact ⟨rfl, rfl⟩

theorem read_down (D : DH) (S : DS) (i n : Nat) (w : World) (h : DevAt w D S) (hi : i + n ≤ S.safe.length) (hdn : S.down = true) :
    Calls Try.prog 16 #[.pointer (some ⟨D.b, 0, none⟩), .int .i64 i, .int .i64 n] w fun e w' => e = .returned (.tuple #[.string ⟨#[]⟩, .int .i64 41]) ∧ w = w' := by
  have c0 : w.cell? ⟨D.b, 0, none⟩ = some (.slice (some ⟨D.bs, 0, none⟩) S.safe.length S.safe.length) := by rw [h.blk.cell]; rfl
  have c6 : w.cell? ⟨D.b, 6, none⟩ = some (.bool true) := by rw [h.blk.cell, ← hdn]; rfl
  have hs := h.small
  have e1 : ¬ (i : Int) < 0 := by omega
  have e2 : ¬ (n : Int) < 0 := by omega
  have e3 : ¬ (S.safe.length : Int) < i := by omega
  have e4 : ¬ (S.safe.length : Int) - i < n := by omega
  have hin : i + n ≤ 8192 := by omega
  clear h hi hdn
  go_enter Try.func16, Try.ntmps16
  go_wp2
  go_ret2
  exact ⟨rfl, rfl⟩

theorem read_nil (i n : Int) (w : World) : Calls Try.prog 16 #[.pointer none, .int .i64 i, .int .i64 n] w fun e w' => e = .returned (.tuple #[.string ⟨#[]⟩, .int .i64 1]) ∧ w = w' := by
  go_enter Try.func16, Try.ntmps16
  go_wp2
  go_ret2
  exact ⟨rfl, rfl⟩
theorem arm_nil (n : Int) (w : World) : Calls Try.prog 19 #[.pointer none, .int .i64 n] w fun e w' => e = .returned (.tuple #[]) ∧ w = w' := by
  go_enter Try.func19, Try.ntmps19
  go_wp2
  go_end0
  exact ⟨rfl, rfl⟩
theorem size_nil (w : World) : Calls Try.prog 22 #[.pointer none] w fun e w' => e = .returned (.int .i64 0) ∧ w = w' := by
  go_enter Try.func22, Try.ntmps22
  go_wp2
  go_ret
  exact ⟨rfl, rfl⟩
theorem ops_nil (w : World) : Calls Try.prog 13 #[.pointer none] w fun e w' => e = .returned (.int .i64 0) ∧ w = w' := by
  go_enter Try.func13, Try.ntmps13
  go_wp2
  go_ret
  exact ⟨rfl, rfl⟩
theorem held_nil (w : World) : Calls Try.prog 14 #[.pointer none] w fun e w' => e = .returned (.int .i64 0) ∧ w = w' := by
  go_enter Try.func14, Try.ntmps14
  go_wp2
  go_ret
  exact ⟨rfl, rfl⟩
theorem down_nil (w : World) : Calls Try.prog 20 #[.pointer none] w fun e w' => e = .returned (.bool false) ∧ w = w' := by
  go_enter Try.func20, Try.ntmps20
  go_wp2
  go_ret
  exact ⟨rfl, rfl⟩

end Go.Proofs.Ytojcoambodedbaa
