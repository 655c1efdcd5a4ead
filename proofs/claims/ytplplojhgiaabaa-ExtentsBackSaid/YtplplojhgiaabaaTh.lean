/- A row of bytes that began as a text's copy: appending a text to it, reading it as a text. -/
import Derived.Lib.ConvBytes
import Derived.Lib.FrozenHead
import Derived.Test.YtplplojhgiaabaaTg
set_option linter.unusedVariables false
set_option linter.unusedSimpArgs false
set_option linter.unnecessarySimpa false
namespace Go.Proofs.Ytplplojhgiaabaa
open Go.RowKit

/-- The slice v of n bytes owns the cells bs; what of its block is frozen lies behind all cells. -/
def OwnB (w : World) (B : Nat) (v : Value) (n : Nat) (bs : List Value) : Prop :=
  bs.length = n ∧ ∃ g cap cur fz, v = .slice (some ⟨g, 0, none⟩) n cap ∧ B ≤ g ∧ w.heap[g]? = some (.cells cur 5 fz) ∧ (cur.size ≤ fz.1 ∨ fz.2 = 0) ∧ n ≤ cap ∧ cap ≤ maxLen ∧ cur.size = cap ∧ cur.toList.take n = bs

theorem OwnB.slice {w : World} {B n : Nat} {v : Value} {bs : List Value} (h : OwnB w B v n bs) : ∃ a c, v = .slice a n c := by
  obtain ⟨_, g, cap, cur, fz, rfl, _⟩ := h
  exact ⟨_, _, rfl⟩
theorem OwnB.below {w w' : World} {B n : Nat} {v : Value} {bs : List Value} (h : OwnB w B v n bs) (hb : Below w.heap.size w w') : OwnB w' B v n bs := by
  obtain ⟨h1, g, cap, cur, fz, hv, h2, h3, r⟩ := h
  exact ⟨h1, g, cap, cur, fz, hv, h2, (hb.block g (lt_of_block h3)).trans h3, r⟩
theorem OwnB.base {w : World} {B n : Nat} {v : Value} {bs : List Value} (h : OwnB w B v n bs) : ∀ k, v.ownBlock = some k → B ≤ k := by
  intro k hk
  obtain ⟨h1, g, cap, cur, fz, rfl, h2, h3, r⟩ := h
  simp only [Value.ownBlock, Option.some.injEq] at hk
  omega
theorem OwnB.cells {w : World} {B n : Nat} {v : Value} {bs : List Value} (h : OwnB w B v n bs) {g : Nat} (hg : v.ownBlock = some g) : ∀ j u, bs[j]? = some u → w.cell? ((⟨g, 0, none⟩ : Addr).add j) = some u := by
  intro j u hu
  obtain ⟨h1, g', cap, cur, fz, rfl, h2, h3, h4, h5, h6, h7, ht⟩ := h
  simp only [Value.ownBlock, Option.some.injEq] at hg
  subst hg
  have hadd : (⟨g', 0, none⟩ : Addr).add j = ⟨g', j, none⟩ := by unfold Addr.add; split <;> simp_all
  rw [hadd, cell_of_row w g' j cur 5 fz h3]
  rw [← ht, List.getElem?_take] at hu
  split at hu
  · simpa using hu
  · cases hu

theorem run_storeCells_atZ (P : Program) (g o : Nat) (t : TypeId) (fz : Nat × Nat) : ∀ (vs : List Value) (i : Nat) (cur : Array Value) (w : World), w.heap[g]? = some (.cells cur t fz) → (cur.size ≤ fz.1 ∨ fz.2 = 0) → o + i + vs.length ≤ cur.size → (∀ v ∈ vs, v.oneCell' = true) →
    (storeCells ⟨g, o, none⟩ vs i).run P w = .ok () (w.setRow g (cur.toList.take (o + i) ++ vs ++ cur.toList.drop (o + i + vs.length)).toArray)
  | [], i, cur, w, hg, _, _, _ => by
    simp only [storeCells, List.append_nil, List.length_nil, Nat.add_zero, List.take_append_drop, Array.toArray_toList]
    rw [setRow_self w g cur t fz hg]
    rfl
  | v :: rest, i, cur, w, hg, hfz, hl, h1 => by
    have hi : o + i < cur.size := by simp at hl; omega
    have hadd : (⟨g, o, none⟩ : Addr).add i = ⟨g, o + i, none⟩ := by unfold Addr.add; split <;> simp_all
    have hcell : w.cell? ⟨g, o + i, none⟩ = some cur[o + i] := by simp [World.cell?, hg, hi]
    have hfro : w.frozen? ⟨g, o + i, none⟩ = false := by
      obtain ⟨lo, hi'⟩ := fz
      simp only [World.frozen?, hg, Bool.and_eq_false_iff, decide_eq_false_iff_not]
      simp only at hfz
      omega
    have hst : (store ((⟨g, o, none⟩ : Addr).add i) v).run P w = .ok () (w.setRow g (cur.setIfInBounds (o + i) v)) := by
      rw [hadd, run_store P w _ v _ (h1 v (by simp)), hcell]
      simp [hfro, setCell_eq_setRow w g (o + i) cur t fz v hg]
    have ih := run_storeCells_atZ P g o t fz rest (i + 1) (cur.setIfInBounds (o + i) v) (w.setRow g (cur.setIfInBounds (o + i) v)) (setRow_heap w g cur _ t _ hg) (by simpa using hfz) (by simp at hl ⊢; omega) (fun x hx => h1 x (by simp [hx]))
    simp only [storeCells, Sem.run_bind, hst, Result.andThen_ok, ih, setRow_setRow]
    congr 3
    have e := list_seg_step cur.toList (o + i) v rest (by simp at hl ⊢; omega)
    simpa [Array.toList_setIfInBounds, Nat.add_assoc] using e

theorem run_append_strB (w : World) (B : Nat) (ty : TypeId) (v : Value) (n : Nat) (bs : List Value) (h : OwnB w B v n bs) (s : ByteArray) (hbytes : n + s.size ≤ 140737488355328) (hB : B ≤ w.heap.size) :
    ∃ v' w', (Builtin.append_ #[59, 9] ty #[v, .string s]).run Try.prog w = .ok v' w' ∧ OwnB w' B v' (n + s.size) (bs ++ Lib.strCells s) ∧ w.grownBy w' v.ownBlock := by
  obtain ⟨i, hi, hz, hsize, hby⟩ := info_parts Try.infoByte
  have h63 : n + s.size ≤ maxLen := by simp only [maxLen]; omega
  obtain ⟨hbl, g, cap, cur, fz, rfl, hbg, hg, hfz, hnc, hcm, hcs, htake⟩ := id h
  have hlen : (bs ++ Lib.strCells s).length = n + s.size := by rw [List.length_append, hbl, Lib.strCells_length]
  by_cases hroom : n + s.size ≤ cap
  · have hf := Lib.run_firstCells_string (P := Try.prog) w 1 s
    have hst := run_storeCells_atZ Try.prog g n 5 fz (Lib.strCells s) 0 cur w hg hfz (by simp [Lib.strCells_length]; omega) (Lib.strCells_oneCell s)
    simp only [Nat.add_zero, Lib.strCells_length] at hst
    have hr : (Builtin.append_ #[59, 9] ty #[.slice (some ⟨g, 0, none⟩) n cap, .string s]).run Try.prog w =
      .ok (.slice (some ⟨g, 0, none⟩) (n + s.size) cap) (w.setRow g (cur.toList.take n ++ Lib.strCells s ++ cur.toList.drop (n + s.size)).toArray) := by
      simp [Builtin.append_, run_underlying Try.underlying59, run_underlying Try.underlying9, sizeOf, typeInfo, hi, hsize, Builtin.lenOf, hroom, hf, Addr.add_lit, hst]
    refine ⟨_, _, hr, ⟨hlen, g, cap, _, fz, rfl, hbg, setRow_heap w g cur _ 5 _ hg, ?_, hroom, hcm, ?_, ?_⟩, ⟨rfl, rfl, rfl, by simp, fun k _ hk => setRow_other w g k _ (fun e => hk (by simp [Value.ownBlock, e]))⟩⟩
    · simp only [List.size_toArray, List.length_append, List.length_take, List.length_drop, Array.length_toList, Lib.strCells_length]
      omega
    · simp only [List.size_toArray, List.length_append, List.length_take, List.length_drop, Array.length_toList, Lib.strCells_length]
      omega
    · rw [htake, ← hlen]
      exact List.take_left
  · have holds : ∀ j u, bs[j]? = some u → w.cell? ((⟨g, 0, none⟩ : Addr).add j) = some u := h.cells (g := g) rfl
    have hr := Lib.run_append_grow_string (P := Try.prog) w 59 9 ty 5 i (.int .u8 0) Try.underlying59 Try.underlying9 hi hz ⟨g, 0, none⟩ n cap bs (by rw [hsize]; simpa using hbl) holds s (by omega) (by omega) (by rw [hby]; exact growslice_fits (by omega) (by omega))
    have hge := grownCap_ge w (n + s.size) cap 5
    have hcm2 : grownCap w (n + s.size) cap 5 ≤ maxLen := grownCap_le_maxLen w (n + s.size) cap 5 h63
    refine ⟨_, _, hr, ⟨hlen, w.heap.size, _, _, (0, 0), rfl, hB, heap_alloc_new w.drew _, .inr rfl, hge, hcm2, ?_, ?_⟩, ⟨rfl, rfl, rfl, by simp, fun k hk _ => Below.heap_alloc w.drew _ k hk⟩⟩
    · have hz1 : (Value.int IntKind.u8 0).cells.size = 1 := rfl
      simp only [Array.size_append, List.size_toArray, size_zeroCells, hz1, hbl, Lib.strCells_length]
      omega
    · simp only [Array.toList_append, List.append_assoc]
      rw [← List.append_assoc, ← hlen]
      exact List.take_left

theorem wpList_append_strB {ops : Array Oper} {rest : List Oper} {o : Oper} {a : Act} {Q : Exit → Act → World → Prop} {w : World} (hgd : o.guard = none) (sl x : Operand)
    (ho : o.op = .call { callee := .builtin .append, args := #[sl, x], argTypes := #[59, 9] })
    (B : Nat) (v : Value) (n : Nat) (l : List UInt8) (hs : a.eval sl = v) (hown : OwnB w B v n (Lib.byteCells l)) (q : Nat) (hx : a.eval x = .string (strOf (be4 q)))
    (hn : n ≤ 1000000) (hbase : B ≤ w.heap.size)
    (h : ∀ v' w', OwnB w' B v' (n + 4) (Lib.byteCells (l ++ be4 q)) → Below B w w' → wpList Try.prog ops Q rest (a.put o.dst v') w') : wpList Try.prog ops Q (o :: rest) a w := by
  refine wpList_plain hgd fun K hK => ?_
  have hsz : (strOf (be4 q)).size = 4 := by rw [strOf_size]; rfl
  obtain ⟨v', w', hr, h2, h3⟩ := run_append_strB w B o.type v n _ hown (strOf (be4 q)) (by omega) hbase
  rw [str_be4, ← Lib.byteCells_append, hsz] at h2
  have hb : Below B w w' := (Below.refl B w).grown h3 hbase (fun k hk => hown.base k hk)
  unfold Oper.wp execOp
  simp only [ho, resolve, invoke, builtin, Sem.run_bind, Sem.run_pure, Result.andThen_ok, List.map_toArray, List.map_cons, List.map_nil, hs, hx, hr]
  exact hK _ _ (h v' w' h2 hb)

/-- []byte(text). -/
theorem ownB_bytes (w : World) (s : ByteArray) (hs : s.size ≤ 1000000) : OwnB (Lib.bytesWorld w 5 s) w.heap.size (.slice (some ⟨w.heap.size, 0, none⟩) s.size (grownCap w s.size 0 5)) s.size (Lib.strCells s) := by
  have hge := grownCap_ge w s.size 0 5
  refine ⟨Lib.strCells_length s, w.heap.size, _, _, _, rfl, Nat.le_refl _, Lib.bytesWorld_at_new w 5 s, .inl (Nat.le_refl _), hge, grownCap_le_maxLen w s.size 0 5 (by simp only [maxLen]; omega), ?_, ?_⟩
  · have : s.data.size = s.size := rfl
    simp only [Lib.bytesCells, Array.size_append, Array.size_map, Array.size_replicate, this]
    omega
  · have hl : (Lib.strCells s).length = s.size := Lib.strCells_length s
    have e : (Lib.bytesCells w 5 s).toList = Lib.strCells s ++ List.replicate (grownCap w s.size 0 5 - s.size) (.int .u8 0) := by
      simp only [Lib.bytesCells, Array.toList_append, Array.toList_map, Array.toList_replicate]
      rfl
    rw [e, ← hl]
    exact List.take_left
theorem bytes_below (w : World) (s : ByteArray) : Below w.heap.size w (Lib.bytesWorld w 5 s) :=
  ⟨rfl, rfl, rfl, by rw [Lib.bytesWorld_size]; omega, fun k hk => Lib.bytesWorld_at_old w 5 s k hk⟩

/-- string(b). -/
theorem conv_ownB {w : World} {B n : Nat} {v : Value} {l : List UInt8} (h : OwnB w B v n (Lib.byteCells l)) : (convert 59 9 v).run Try.prog w = .ok (.string (strOf l)) w := by
  obtain ⟨g, cap, rfl⟩ : ∃ g cap, v = .slice (some ⟨g, 0, none⟩) n cap := by
    obtain ⟨_, g, cap, cur, fz, rfl, _⟩ := h
    exact ⟨_, _, rfl⟩
  have hc := h.cells (g := g) rfl
  have hl := h.1
  rw [Lib.byteCells_length] at hl
  rw [run_convert_bytes_string w 59 9 5 _ _ _ Try.underlying59 Try.underlying5 Try.underlying9]
  have e : Lib.byteCells l = (l.map fun b => (b.toNat : Int)).map (Value.int .u8) := by simp [Lib.byteCells]
  rw [e] at hc
  have hl2 := run_loadCells_list (P := Try.prog) w ⟨g, 0, none⟩ _ hc
  rw [List.length_map, List.length_map] at hl2
  have hlen : n = (l.map fun b => (b.toNat : Int)).length := by rw [List.length_map, hl]
  rw [hl] at hl2
  rw [hlen] at hl2 ⊢
  rw [run_bytesToString w ⟨g, 0, none⟩ _ _ _ hl2, fold_bytes]
  have e2 : ((l.map fun b => (b.toNat : Int)).map fun n => UInt8.ofNat n.toNat) = l := by
    rw [List.map_map]
    conv => rhs; rw [← List.map_id l]
    apply List.map_congr_left
    intro b _
    simp
  rw [e2]
  simp [strOf]

end Go.Proofs.Ytplplojhgiaabaa
