/- What a law carries: one device, or two that lie apart, in memory that the law's call has made; lists of numbers that came in; a copy of one. -/
import Derived.Test.YtojcoambodedbaaL
import Derived.Deep.AppendSrc
set_option linter.unusedVariables false
set_option linter.unusedSimpArgs false
set_option linter.unnecessarySimpa false
namespace Go.Proofs.Ytojcoambodedbaa
open Go.RowKit

/-- A device in memory that has been made since W. -/
structure Solo (W w : World) (D : DH) (S : DS) : Prop where
  dev : DevAt w D S
  ok : S.Ok
  new : ∀ k, D.foot k → W.heap.size ≤ k
  below : Below W.heap.size W w

theorem Solo.quiet {W w w' : World} {D : DH} {S : DS} (h : Solo W w D S) (hb : Below w.heap.size w w') : Solo W w' D S :=
  ⟨h.dev.keep (Upd.ofBelow (F := fun _ => False) hb (fun k hk h => by omega)) (fun _ _ h => h), h.ok, h.new, h.below.trans (hb.mono h.below.size)⟩
theorem Solo.upd {W w w' : World} {D : DH} {S : DS} (h : Solo W w D S) (hb : Upd (fun _ => False) w w') : Solo W w' D S :=
  h.quiet (hb.below (Nat.le_refl _) (fun _ h => h.elim))
theorem Solo.step {W w w' : World} {D : DH} {S S' : DS} {v : Value} {e : Ending} (h : Solo W w D S) (ho : S'.Ok) (p : DPost D w v S' e w') : ∃ D', D'.b = D.b ∧ e = .returned v ∧ Solo W w' D' S' := by
  obtain ⟨D', hb, he, hd, hu, hF⟩ := p
  exact ⟨D', hb, he, hd, ho, fun k hk => (hF k hk).elim (h.new k) (Nat.le_trans h.below.size), h.below.trans (hu.below h.below.size h.new)⟩
theorem Solo.of_new {W w w' : World} {D : DH} {S : DS} (hw : Below W.heap.size W w) (hd : DevAt w' D S) (ho : S.Ok) (hu : Upd (fun _ => False) w w') (hF : ∀ k, D.foot k → w.heap.size ≤ k) : Solo W w' D S :=
  ⟨hd, ho, fun k hk => Nat.le_trans hw.size (hF k hk), hw.trans (hu.below hw.size (fun _ h => h.elim))⟩

/-- Two devices that lie apart. -/
structure Pair (W w : World) (D E : DH) (S T : DS) : Prop where
  d : Solo W w D S
  e : Solo W w E T
  dj : ∀ k, D.foot k → ¬ E.foot k

theorem Pair.swap {W w : World} {D E : DH} {S T : DS} (h : Pair W w D E S T) : Pair W w E D T S := ⟨h.e, h.d, fun k hk hd => h.dj k hd hk⟩
theorem Pair.quiet {W w w' : World} {D E : DH} {S T : DS} (h : Pair W w D E S T) (hb : Below w.heap.size w w') : Pair W w' D E S T := ⟨h.d.quiet hb, h.e.quiet hb, h.dj⟩
theorem Pair.step {W w w' : World} {D E : DH} {S T S' : DS} {v : Value} {e : Ending} (h : Pair W w D E S T) (ho : S'.Ok) (p : DPost D w v S' e w') : ∃ D', D'.b = D.b ∧ e = .returned v ∧ Pair W w' D' E S' T := by
  obtain ⟨D', hb, he, hs⟩ := h.d.step ho p
  obtain ⟨D2, _, _, hd2, hu, hF⟩ := p
  obtain ⟨D', hb, he, hd, hu, hF⟩ : ∃ D', D'.b = D.b ∧ e = .returned v ∧ DevAt w' D' S' ∧ Upd D.foot w w' ∧ ∀ k, D'.foot k → D.foot k ∨ w.heap.size ≤ k := ⟨D2, by assumption, by assumption, hd2, hu, hF⟩
  have hs := h.d.step ho ⟨D', hb, he, hd, hu, hF⟩
  refine ⟨D', hb, he, ⟨hd, ho, fun k hk => (hF k hk).elim (h.d.new k) (Nat.le_trans h.d.below.size), h.d.below.trans (hu.below h.d.below.size h.d.new)⟩, ⟨h.e.dev.keep hu (fun k hk hd => h.dj k hd hk), h.e.ok, h.e.new, h.d.below.trans (hu.below h.d.below.size h.d.new)⟩, ?_⟩
  intro k hk hE
  rcases hF k hk with hf | hf
  · exact h.dj k hf hE
  · have := h.e.dev.lt k hE; omega

/-- A slice of numbers that came in: what its cells hold. -/
def View (k : IntKind) (w : World) (v : Value) (zs : List Int) : Prop :=
  ∃ ao cap, v = .slice ao zs.length cap ∧ ∀ j, j < zs.length → ∃ b off, ao = some ⟨b, off, none⟩ ∧ b < w.heap.size ∧ w.cell? ⟨b, off + j, none⟩ = some (.int k (zs.getD j 0))

theorem View.below {k : IntKind} {w w' : World} {v : Value} {zs : List Int} (h : View k w v zs) (hb : Below w.heap.size w w') : View k w' v zs := by
  obtain ⟨ao, cap, hv, hc⟩ := h
  refine ⟨ao, cap, hv, fun j hj => ?_⟩
  obtain ⟨b, off, ha, hlt, hcell⟩ := hc j hj
  exact ⟨b, off, ha, Nat.lt_of_lt_of_le hlt hb.size, (hb.cell (p := ⟨b, off + j, none⟩) hlt).trans hcell⟩

/-- append, by what its run comes to. -/
theorem wpList_append_run {P : Program} {w : World} {ops : Array Oper} {rest : List Oper} {o : Oper} {a : Act} {Q : Exit → Act → World → Prop} (hg : o.guard = none) (s x : Operand) (t tx : TypeId)
    (hop : o.op = Op.call { callee := Callee.builtin Builtin.append, args := #[s, x], argTypes := #[t, tx] }) (sv xv : Value) (hs : a.eval s = sv) (hx : a.eval x = xv) (v' : Value) (w' : World)
    (hrun : (Builtin.append_ #[t, tx] o.type #[sv, xv]).run P w = .ok v' w') (h : wpList P ops Q rest (a.put o.dst v') w') : wpList P ops Q (o :: rest) a w := by
  refine wpList_plain hg fun K hK' => ?_
  unfold Oper.wp
  simp [execOp, hop, resolve, invoke, builtin, hs, hx, hrun, Result.andThen]
  exact hK' _ _ h

theorem Try.info3 : (Try.prog.info? 3).map (fun i => (i.zero, i.size, i.bytes)) = some (some (.int .i64 0), 1, 8) := by kernel_rfl

/-- append([]int{}, ks...): a slice of the same numbers, whose cells are new. -/
theorem copy_ints (w : World) (a : Addr) (kv : Value) (ks : List Int) (ty : TypeId) (hv : View .i64 w kv ks) (hks : ks.length * 8 ≤ 140737488351232) :
    ∃ ao kc w', (Builtin.append_ #[23, 23] ty #[.slice (some a) 0 0, kv]).run Try.prog w = .ok (.slice ao ks.length kc) w' ∧ Upd (fun _ => False) w w' ∧
      ∀ j, j < ks.length → ∃ b off, ao = some ⟨b, off, none⟩ ∧ b < w'.heap.size ∧ w.heap.size ≤ b ∧ w'.cell? ⟨b, off + j, none⟩ = some (.int .i64 (ks.getD j 0)) := by
  obtain ⟨i0, hi, hz0, hz1, hz2⟩ := info_parts Try.info3
  obtain ⟨ao, cap, rfl, hc⟩ := hv
  have hs : Src Try.prog i0.size 23 (.slice ao ks.length cap) ks.length (ks.map (Value.int .i64)) w := by
    rw [hz1]
    cases ks with
    | nil =>
      refine ⟨Or.inl ⟨3, Try.underlying23⟩, fun _ => rfl, ?_, ?_, by simp, by simp⟩ <;> · cases ao <;> simp [Builtin.firstCells, loadCells, loadCellsFrom]
    | cons z zs =>
      obtain ⟨b, off, rfl, _, _⟩ := hc 0 (by simp)
      refine Src.ofSlice w Try.underlying23 ⟨b, off, none⟩ _ cap _ (by simp) ?_ (by intro u hu; simp at hu; rcases hu with rfl | ⟨x, _, rfl⟩ <;> rfl)
      intro j u hu
      have hj : j < (z :: zs).length := by have := (List.getElem?_eq_some_iff.1 hu).1; simpa using this
      obtain ⟨b', off', hao, _, hcell⟩ := hc j hj
      simp only [Option.some.injEq, Addr.mk.injEq] at hao
      obtain ⟨rfl, rfl, _⟩ := hao
      have hadd : (⟨b, off, none⟩ : Addr).add j = ⟨b, off + j, none⟩ := by unfold Addr.add; split <;> simp_all
      rw [hadd, hcell, ← hu, List.getElem?_map, List.getElem?_eq_getElem hj]
      simp [List.getD, List.getElem?_eq_getElem hj]
  by_cases h0 : ks.length = 0
  · obtain rfl := List.eq_nil_of_length_eq_zero h0
    refine ⟨some a, 0, w, ?_, Upd.refl _ _, fun j hj => by simp at hj⟩
    have hl := hs.len
    have hc' := hs.cells
    rw [hz1] at hc'
    simp only [List.length_nil] at hc' hl
    simp [Builtin.append_, run_underlying Try.underlying23, sizeOf, typeInfo, hi, hz1, hl, hc', storeCells]
  · have hr := run_append_grow_src (P := Try.prog) w 23 23 ty 3 i0 (.int .i64 0) Try.underlying23 hi hz0 (some a) 0 0 [] (by simp [Builtin.firstCells, loadCells, loadCellsFrom]) _ _ _ hs (by omega) (by omega) (by
      rw [nextslicecap_zero (by omega), hz2]; omega)
    rw [Nat.zero_add] at hr
    refine ⟨_, _, _, hr, ((Upd.refl _ _).drew.alloc _), fun j hj => ⟨w.heap.size, 0, rfl, by simp, Nat.le_refl _, ?_⟩⟩
    rw [Nat.zero_add]
    refine (World.cell?_alloc_new w.drew _ _ j).trans ?_
    simp only [List.nil_append]
    rw [Array.getElem?_append_left (by simpa using hj)]
    simp [List.getD, List.getElem?_eq_getElem hj]

end Go.Proofs.Ytojcoambodedbaa
