/- Proved: what was set is found block by block, what was dropped is nowhere, all other blocks are as they were; what comes of it is good (the statement ExtentsBlocksSaid). Conditions: none. -/
import Derived.Lib.SmallJoins
import Derived.Test.YtplplojhgiaabaaR
import Derived.Test.YtplplojhgiaabaaBlocks
set_option linter.unusedVariables false
set_option linter.unusedSimpArgs false
set_option linter.unnecessarySimpa false
namespace Go.Proofs.Ytplplojhgiaabaa.extentsBlocks
open Go.ChangeShapes Go.WideShapes Go.ChangeAt Go.RowKit

theorem cells38 : Try.prog.cellsOf 38 = 2 := by kernel_rfl

set_option maxRecDepth 100000 in
theorem lifted (os : Os) (started : os.Started) (H : Type) (enc : TypeId × Value → H) :
    ReturnsInHanded {} Try.checked os 6 .any (Rows.extentsBlocksSpec.pre6 enc Try.prog Try.f6 Rows.extentsBlocksRow.domain false) (Rows.extentsBlocksSpec.post enc Try.prog Try.f6 false true false false) := by
  refine returnsInHanded_of_change_sized (C := Try.checked) own started (by kernel_rfl) Try.func6
    (ChangeSpec.witness6 (enc := enc) (C := Try.checked) false ⟨#[], #[.slice none 0 0, .agg #[.int .i64 0, .int .i64 0, .int .i64 0], .agg #[.int .i64 0, .int .i64 0]], []⟩ 8 (by kernel_rfl) (by kernel_rfl) (by kernel_rfl) (by kernel_rfl)) ?_
  intro W base args ds gs before hval0 hW _ hsz0 _
  have hsz : (DataW.weightsEach Try.prog (Try.f6.params.toList ++ Rows.extentsBlocksSpec.plain.varTypes Try.prog) (ds ++ gs)).all (· ≤ reachBytes) = true := hsz0
  clear hsz0
  have hval : ∀ (j : Nat) t v, Try.f6.params[j]? = some t → args[j]? = some v → Value.okWide Try.prog W .any base t v := hval0
  have hW' := hW
  obtain ⟨p, q, hA0, hV, rfl, hfz, hnd⟩ := hW
  have hA : DataW.TrodAll enc Try.prog W 0 (fun _ => true) true Try.f6.params.toList args.toList ds p := hA0
  rw [Try.params6] at hA hval hsz
  obtain ⟨v0, vs0, d0, ds0, p0, q0, hargs, rfl, rfl, h0, r0⟩ := trodAll_cons hA
  obtain ⟨v1, vs1, d1, ds1, p1, q1, rfl, rfl, rfl, h1, r1⟩ := trodAll_cons r0
  obtain ⟨v2, vs2, d2, ds2, p2, q2, rfl, rfl, rfl, h2, r2⟩ := trodAll_cons r1
  obtain ⟨rfl, rfl, rfl⟩ := trodAll_nil r2
  obtain rfl : args = #[v0, v1, v2] := by cases args; simp_all
  obtain ⟨rfl, rfl⟩ := trodVars_none hV
  obtain ⟨ao0, len0, cap0, rfl⟩ := okWide_slice Try.underlying22 (hval 0 22 v0 rfl rfl)
  obtain ⟨l, hl, hok, hr⟩ := open_exts h0 hsz (j := 0) rfl rfl
  obtain ⟨x1a, x1b, x1c, y1a, y1b, y1c, n1, rfl, rfl, rfl, t1a, t1b, t1c⟩ := Go.Joins.open_agg3 Try.underlying32 (by kernel_rfl) cells32 (hval 1 32 v1 rfl rfl) h1
  obtain ⟨k1a, e1a, _, w1a⟩ := DataW.trod_int Try.underlying3 t1a
  obtain ⟨k1b, e1b, _, w1b⟩ := DataW.trod_int Try.underlying3 t1b
  obtain ⟨k1c, e1c, _, w1c⟩ := DataW.trod_int Try.underlying3 t1c
  simp only [List.cons.injEq, and_true] at e1a e1b e1c
  subst e1a e1b e1c
  obtain ⟨x2a, x2b, y2a, y2b, n2, rfl, rfl, rfl, t2a, t2b⟩ := Go.Joins.open_agg2 Try.underlying38 (by kernel_rfl) cells38 (hval 2 38 v2 rfl rfl) h2
  obtain ⟨k2a, e2a, _, w2a⟩ := DataW.trod_int Try.underlying3 t2a
  obtain ⟨k2b, e2b, _, w2b⟩ := DataW.trod_int Try.underlying3 t2b
  simp only [List.cons.injEq, and_true] at e2a e2b
  subst e2a e2b
  clear hA0 hval0
  simp only [List.append_nil] at hW'
  refine (blocks_walk l hok (by omega) _ W hl ⟨k1a, k1b, k1c⟩ ⟨fits_of w1a, fits_of w1b, fits_of w1c⟩ k2a k2b (fits_of w2a) (fits_of w2b)).mono fun e W' ⟨he, hg⟩ => ?_
  subst he
  exact ⟨_, rfl, law_post rfl hW' (by decide +kernel) rfl rfl hg⟩

theorem over : Rows.extentsBlocksRow.holds Try.pinned (OpenSpec.ofChange Rows.extentsBlocksSpec) :=
  OpenClaim.holds_of_wide 6 Try.f6 rfl rfl rfl rfl rfl rfl rfl ⟨rfl, rfl, rfl, rfl, rfl⟩ rfl rfl rfl rfl rfl (by kernel_rfl) Try.func6 (by kernel_rfl)
    (of_decide_eq_true (by kernel_rfl)) (by unfold Func.isWrapper; first | (rw [if_pos (by decide +kernel)]; kernel_rfl) | (rw [if_neg (by decide +kernel)]; exact ⟨rfl, rfl⟩))
    (fun os started H enc _ => lifted os started H enc)

/-- The statement. -/
theorem proved : Rows.ExtentsBlocksSaid :=
  over
#print axioms proved
end Go.Proofs.Ytplplojhgiaabaa.extentsBlocks
