/- strings.Builder: what a write to it leaves alone; the program's Text. -/
import Derived.Deep.RegionHeld3
import Derived.Outline
import Derived.Test.YtplplojhgiaabaaTe
set_option linter.unusedVariables false
set_option linter.unusedSimpArgs false
set_option linter.unnecessarySimpa false
namespace Go.Proofs.Ytplplojhgiaabaa
open Go.RowKit

/-- Blocks of other types than the builder's and its bytes' lie as they lay. -/
def KeptB (w w' : World) : Prop := ∀ (j : Nat) (cs : Array Value) (T : TypeId) (m : Nat × Nat), T ≠ 5 → T ≠ 61 → w.heap[j]? = some (.cells cs T m) → w'.heap[j]? = some (.cells cs T m)
theorem KeptB.refl (w : World) : KeptB w w := fun _ _ _ _ _ _ h => h
theorem KeptB.trans {a b c : World} (h : KeptB a b) (k : KeptB b c) : KeptB a c := fun j cs T m h5 h6 h1 => k j cs T m h5 h6 (h j cs T m h5 h6 h1)
theorem KeptB.of_below {a b : World} (h : Below a.heap.size a b) : KeptB a b := fun j cs T m _ _ h1 => (h.block j (lt_of_block h1)).trans h1
theorem KeptB.setCell {W : World} {b o : Nat} {x : Value} {cs : Array Value} {m : Nat × Nat} (hb : W.heap[b]? = some (.cells cs 61 m)) : KeptB W (W.setCell ⟨b, o, none⟩ x) := by
  intro j cs' T m' h5 h6 h1
  have hne : j ≠ b := by
    rintro rfl
    rw [hb] at h1
    cases h1
    exact h6 rfl
  exact (Below.heap_setCell W ⟨b, o, none⟩ x j hne).trans h1

theorem builder_below {w w' : World} {B b : Nat} {bs : List Value} (h : Lib.IsBuilder 61 5 B b bs w) (u : Below w.heap.size w w') : Lib.IsBuilder 61 5 B b bs w' := by
  have key : ∀ p, Lib.BuilderAt 61 5 B b p bs w → Lib.BuilderAt 61 5 B b p bs w' := by
    rintro p ⟨hB, v, hb, hown, hne⟩
    refine ⟨hB, v, (u.block b (lt_of_block hb)).trans hb, ?_, hne⟩
    refine ⟨hown.1, ?_⟩
    rcases hown.2 with h0 | ⟨g, cap, cur, hv, hbg, hg, r⟩
    · exact .inl h0
    · exact .inr ⟨g, cap, cur, hv, hbg, (u.block g (lt_of_block hg)).trans hg, r⟩
  exact h.imp (key _) (key _)
theorem builder_drew {w : World} {B b : Nat} {bs : List Value} (h : Lib.IsBuilder 61 5 B b bs w) (n : Nat) : Lib.IsBuilder 61 5 B b bs (w.drewN n) := h

theorem copyCheck_kept (B b : Nat) (bs : List Value) (w : World) (h : Lib.IsBuilder 61 5 B b bs w) :
    Calls Try.prog 43 #[.pointer (some ⟨b, 0, none⟩)] w fun e w' => e = .returned (.tuple #[]) ∧ (Lib.BuilderAt 61 5 B b (.pointer (some ⟨b, 0, none⟩)) bs w' ∧ Below B w w' ∧ KeptB w w') := by
  rcases h with h | h
  · refine (copyCheck_fresh b w h.cell0 h.shape h.frozen0).mono ?_
    rintro e w' ⟨rfl, rfl⟩
    refine ⟨rfl, h.used _, (Below.refl B w).setCell (p := ⟨b, 0, none⟩) h.1 _, ?_⟩
    obtain ⟨_, v, hb, _⟩ := h
    exact KeptB.setCell hb
  · refine (copyCheck_used b w h.cell0).mono ?_
    rintro e w' ⟨rfl, rfl⟩
    exact ⟨rfl, h, Below.refl B _, KeptB.refl _⟩

set_option maxRecDepth 100000 in
theorem write_kept (B b : Nat) (bs : List Value) (s : ByteArray) (w : World) (h : Lib.IsBuilder 61 5 B b bs w) (hlen : bs.length + s.size ≤ 140737488355328) (hBw : B ≤ w.heap.size) :
    Calls Try.prog 34 #[.pointer (some ⟨b, 0, none⟩), .string s] w fun e w' => e = .returned (.tuple #[.int .i64 s.size, .nilIface]) ∧ (Lib.IsBuilder 61 5 B b (bs ++ Lib.strCells s) w' ∧ Below B w w' ∧ KeptB w w') := by
  obtain ⟨i0, hi, hz0, hz1, hz2⟩ := info_parts Try.infoByte
  have K := Lib.hid (copyCheck_kept B b bs w h)
  go_enter Try.func34, Try.ntmps34
  go_wp2_with fail
  refine K.out.mono ?_
  rintro e w1 ⟨rfl, h1, hb1, hk1⟩
  obtain ⟨hB, v, hbk, hown, hne⟩ := h1
  have hk1' := Lib.hid hk1
  clear hk1
  have c0 : w1.cell? ⟨b, 0, none⟩ = some (.pointer (some ⟨b, 0, none⟩)) := by rw [Lib.cell_of_heap hbk]; rfl
  have c1 : w1.cell? ⟨b, 1, none⟩ = some v := by rw [Lib.cell_of_heap hbk]; rfl
  go_wp2_with (at_builtin; refine Lib.wpList_append_own_string _ rfl _ _ 59 9 rfl B 5 i0 Try.underlying59 Try.underlying9 hi hz0 hz1 hz2 _ _ _ rfl hown s rfl ?c3 ?c4 ?c5 ?_)
  case c3 => unfold maxLen; omega
  case c4 => omega
  case c5 => have := hb1.size; omega
  intro v' w2 hown' hgrow _
  have hlt : b < w1.heap.size := lt_of_block hbk
  have hb2 : w2.heap[b]? = some (.cells #[.pointer (some ⟨b, 0, none⟩), v] 61 (0, 0)) := by
    rw [hgrow.block b hlt (fun e => hne e.symm)]
    exact hbk
  have hk2 : KeptB w1 w2 := by
    intro j cs T m h5 h6 hj
    refine (hgrow.block j (lt_of_block hj) ?_).trans hj
    intro e
    rcases hown.2 with ⟨rfl, _⟩ | ⟨g, cap, cur, rfl, _, hg, _⟩
    · cases e
    · simp only [Value.ownBlock, Option.some.injEq] at e
      subst e
      rw [hg] at hj
      cases hj
      exact h5 rfl
  have hk3 := Lib.hid (fun x : Value => (KeptB.trans hk1'.out hk2).trans (KeptB.setCell (o := 1) (x := x) hb2))
  clear hk2
  have d0 : w2.cell? ⟨b, 0, none⟩ = some (.pointer (some ⟨b, 0, none⟩)) := by rw [Lib.cell_of_heap hb2]; rfl
  have d1 : w2.cell? ⟨b, 1, none⟩ = some v := by rw [Lib.cell_of_heap hb2]; rfl
  have f1 : w2.frozen? ⟨b, 1, none⟩ = false := Lib.frozen_of_heap hb2 1
  obtain ⟨ao, n', cap, rfl⟩ : ∃ ao n' cap, v' = .slice ao n' cap := by
    rcases hown'.2 with ⟨hv, _⟩ | ⟨g, cap, cur, hv, _⟩
    · exact ⟨_, _, _, hv⟩
    · exact ⟨_, _, _, hv⟩
  go_wp2
  go_ret2
  refine ⟨rfl, ?_, ?_, hk3.out _⟩
  · exact Or.inr (Lib.BuilderAt.put (T := 61) (e := 5) hB hb2 (bs' := bs ++ Lib.strCells s) (by simpa [Lib.strCells_length] using hown') (by decide))
  · exact (hb1.grown hgrow (by have := hb1.size; omega) (fun k hk => (hown.lt k hk).1)).setCell (p := ⟨b, 1, none⟩) hB _

/-- The bytes of one extent, of a list's first ones, of a whole list. -/
def x12 (x : X) : List UInt8 := be4 x.lba.toNat ++ (be4 x.num.toNat ++ be4 x.pos.toNat)
def recs : List X → List UInt8
  | [] => []
  | x :: l => x12 x ++ recs l
def textF (l : List X) : List UInt8 := be4 l.length ++ recs l
theorem x12_length (x : X) : (x12 x).length = 12 := rfl
theorem recs_length (l : List X) : (recs l).length = 12 * l.length := by
  induction l with
  | nil => rfl
  | cons x l ih => rw [recs, List.length_append, x12_length, ih, List.length_cons]; omega
theorem recs_append (l m : List X) : recs (l ++ m) = recs l ++ recs m := by
  induction l with
  | nil => rfl
  | cons x l ih => simp only [List.cons_append, recs, ih, List.append_assoc]
theorem recs_succ {l : List X} {k : Nat} {x : X} (hx : l[k]? = some x) : recs (l.take (k + 1)) = recs (l.take k) ++ x12 x := by
  rw [take_succ_of hx, recs_append]
  simp [recs]
theorem str_be4 (n : Nat) : Lib.strCells (strOf (be4 n)) = Lib.byteCells (be4 n) := by
  rw [Lib.strCells_eq]
  rfl
theorem strOf_size (l : List UInt8) : (strOf l).size = l.length := by
  show l.toArray.size = l.length
  simp

theorem write_be4 (B b : Nat) (l : List UInt8) (n : Nat) (w : World) (h : Lib.IsBuilder 61 5 B b (Lib.byteCells l) w) (hlen : l.length ≤ 1000000) (hBw : B ≤ w.heap.size) :
    Calls Try.prog 34 #[.pointer (some ⟨b, 0, none⟩), .string (strOf (be4 n))] w fun e w' => e = .returned (.tuple #[.int .i64 4, .nilIface]) ∧ (Lib.IsBuilder 61 5 B b (Lib.byteCells (l ++ be4 n)) w' ∧ Below B w w' ∧ KeptB w w') := by
  refine (write_kept B b _ _ w h (by rw [Lib.byteCells_length, strOf_size, be4_length]; omega) hBw).mono ?_
  rintro e w' ⟨rfl, h1, h2⟩
  rw [str_be4, ← Lib.byteCells_append] at h1
  exact ⟨rfl, h1, h2⟩

end Go.Proofs.Ytplplojhgiaabaa
