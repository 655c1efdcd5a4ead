/- The page's device: Flush. -/
import Derived.Laws.CopyRow
import Derived.Outline
import Derived.Test.YtojcoambodedbaaRa
set_option linter.unusedVariables false
set_option linter.unusedSimpArgs false
set_option linter.unnecessarySimpa false
namespace Go.Proofs.Ytojcoambodedbaa
open Go.RowKit

/-- What a call that turns the page's device leaves. -/
def RPost (D : RH) (w : World) (v : Value) (S : DS) (e : Ending) (w' : World) : Prop :=
  ∃ D' : RH, D'.b = D.b ∧ e = .returned v ∧ RefAt w' D' S ∧ Upd D.foot w w' ∧ ∀ k, D'.foot k → D.foot k ∨ w.heap.size ≤ k

theorem size9 : (Try.prog.info? 9).map (·.size) = some 1 := by kernel_rfl
/-- 'copy(a, b)' of two rows of texts, one as long as the other, as one step of a region. -/
theorem step_copy_strs {ops : Array Oper} {o : Oper} {a : Act} {w : World} {K : Act → World → Prop} {Q : Exit → Act → World → Prop} {E : Prop} (hgd : o.guard = none) (d s : Operand)
    (ho : o.op = .call { callee := .builtin .copy, args := #[d, s], argTypes := #[53, 53] }) (g g' n dc sc : Nat)
    (hd : a.eval d = .slice (some ⟨g, 0, none⟩) n dc) (hs : a.eval s = .slice (some ⟨g', 0, none⟩) n sc)
    (l m : List ByteArray) (hl : l.length = n) (hm : m.length = n) (hg : SRow w g m) (hsrc : SRow w g' l)
    (h : ∀ w', SRow w' g l → Upd (fun k => k = g) w w' → K (a.put o.dst (goInt n)) w') :
    if Region.wanted o (yielded ops a.tmps) = true then Oper.wp Try.prog o a w K Q else E := by
  have hw : Region.wanted o (yielded ops a.tmps) = true := by simp [Region.wanted, hgd]
  rw [if_pos hw]
  obtain ⟨arr, hb, ht⟩ := hg
  have hsz : n ≤ arr.size := by
    have := congrArg List.length ht
    simp only [List.length_take, List.length_map, Array.length_toList] at this
    omega
  have hcl : (l.map Value.string).length = n := by rw [List.length_map, hl]
  have hrun := run_copy_row (P := Try.prog) w 53 53 o.type 9 g 0 n dc ⟨g', 0, none⟩ n sc arr 9 (l.map Value.string) Try.underlying53 size9 hb (by rw [hcl]; exact (Nat.min_self n).symm) (fun j v hv => by
    have hadd : (⟨g', 0, none⟩ : Addr).add j = ⟨g', j, none⟩ := by unfold Addr.add; split <;> simp_all
    have hj : j < l.length := by have := (List.getElem?_eq_some_iff.1 hv).1; simpa using this
    rw [hadd, hsrc.cell j hj, ← hv]
    simp [List.getD, hj]) (by omega) (by intro v hv; simp only [List.mem_map] at hv; obtain ⟨t, _, rfl⟩ := hv; rfl)
  rw [hcl] at hrun
  obtain ⟨row, hrow⟩ : ∃ row, row = (arr.toList.take 0 ++ l.map Value.string ++ arr.toList.drop (0 + n)).toArray := ⟨_, rfl⟩
  rw [← hrow] at hrun
  have hK := h (w.setRow g row) ⟨row, setRow_heap w g _ row 9 _ hb, by rw [hrow]; simp [← hl]⟩ ⟨rfl, rfl, rfl, by simp [World.setRow], fun k _ hk => setRow_other w g k row hk⟩
  unfold Oper.wp
  simp [execOp, ho, resolve, invoke, builtin, hd, hs, hrun, Result.andThen]
  exact hK

theorem rflush_yes (D : RH) (S : DS) (w : World) (h : RefAt w D S) (hg : S.goes = true) :
    Calls Try.prog 26 #[.pointer (some ⟨D.b, 0, none⟩)] w (RPost D w (.int .i64 0) { S.rop with safe := S.now, held := [] }) := by
  have K := Lib.hid (one_yes D S w h hg)
  have hn := h.len
  have hfoot := Lib.hid h.lt
  go_enter Try.func26, Try.ntmps26
  go_wp2_with fail
  refine K.out.mono ?_
  rintro e w1 ⟨rfl, h1, hu1⟩
  have H1 := Lib.hid h1
  have HU := Lib.hid hu1
  have c0 : w1.cell? ⟨D.b, 0, none⟩ = some (.slice (some ⟨D.bs, 0, none⟩) S.safe.length D.cs) := by rw [h1.blk.cell]; rfl
  have c1 : w1.cell? ⟨D.b, 1, none⟩ = some (.slice (some ⟨D.bn, 0, none⟩) S.safe.length D.cn) := by rw [h1.blk.cell]; rfl
  have s0 := Lib.hid (show ∀ n, SRow (w1.drewN n) D.bs S.safe from fun n => h1.safe.upd ((Upd.refl (fun _ => False) w1).drewN n) id)
  have s1 := Lib.hid (show ∀ n, SRow (w1.drewN n) D.bn S.now from fun n => h1.now.upd ((Upd.refl (fun _ => False) w1).drewN n) id)
  clear h h1 hu1
  go_wp2_with fail
  go_region_law (refine step_copy_strs rfl (.tmp 11) (.tmp 15) rfl D.bs D.bn S.safe.length D.cs D.cn rfl rfl S.now S.safe hn rfl (s0.out 1) (s1.out 1) ?_; intro w2 r2 u2)
  all_goals
    have hu2 : Upd (fun k => k = D.bs) w1 w2 := ⟨u2.os, u2.tape, u2.output, u2.size, u2.block⟩
    clear u2
    have n1 : D.bs ≠ D.b := H1.out.safe.ne_blk H1.out.blk (by decide)
    have n2 : D.bn ≠ D.b := H1.out.now.ne_blk H1.out.blk (by decide)
    have b2 := hu2.blk H1.out.blk (fun e => n1 e.symm)
    have x2 : w2.cell? ⟨D.b, 2, none⟩ = some D.hv := by rw [b2.cell]; rfl
    have f2 := b2.free 2
    have R : RefAt (w2.setCell ⟨D.b, 2, none⟩ (.slice none 0 0)) ⟨D.b, D.bs, D.bn, D.cs, D.cn, .slice none 0 0⟩ { S.rop with safe := S.now, held := [] } := by
      have hu3 : Upd (fun k => k = D.b) w2 (w2.setCell ⟨D.b, 2, none⟩ (.slice none 0 0)) := (Upd.refl _ _).at1 _ _
      have hb := b2.set 2 (.slice none 0 0)
      have r3 := r2.upd hu3 n1
      have r4 := (H1.out.now.upd hu2 (fun e => H1.out.ne e.symm)).upd hu3 n2
      refine ⟨?_, r3, r4, World.ownsRow_nil _ _ _ _, H1.out.ne, rfl, ?_, ?_⟩
      · unfold RH.cells at hb ⊢
        simpa [hn, DS.rop] using hb
      · show S.now.length ≤ 8192
        rw [hn]; exact H1.out.small
      · show S.now.length ≤ D.cs ∧ S.now.length ≤ D.cn
        rw [hn]; exact H1.out.caps
    have U : Upd D.foot w (w2.setCell ⟨D.b, 2, none⟩ (.slice none 0 0)) := by
      refine ((HU.out.mono (G := D.foot) (fun k _ e => Or.inl e)).trans hu2 (fun k _ e => Or.inr (Or.inl e))).setCell (p := ⟨D.b, 2, none⟩) (fun _ => Or.inl rfl) _
    have RR := Lib.hid R
    have UU := Lib.hid U
    clear R U r2 hu2 b2 n1 n2 hn
    go_wp2
    go_ret
    refine ⟨⟨D.b, D.bs, D.bn, D.cs, D.cn, .slice none 0 0⟩, rfl, rfl, RR.out, UU.out, fun k hk => ?_⟩
    rcases hk with hk | hk | hk | hk
    · exact Or.inl (Or.inl hk)
    · exact Or.inl (Or.inr (Or.inl hk))
    · exact Or.inl (Or.inr (Or.inr (Or.inl hk)))
    · simp [Value.ownBlock] at hk

theorem rflush_no (D : RH) (S : DS) (w : World) (h : RefAt w D S) (hg : S.goes = false) :
    Calls Try.prog 26 #[.pointer (some ⟨D.b, 0, none⟩)] w (RPost D w (.int .i64 41) { S with down := true }) := by
  have K := Lib.hid (one_no D S w h hg)
  clear h
  go_enter Try.func26, Try.ntmps26
  go_wp2_with fail
  refine K.out.mono ?_
  rintro e w1 ⟨rfl, h1, hu1⟩
  have H1 := Lib.hid h1
  have HU := Lib.hid hu1
  clear h1 hu1
  go_wp2_with fail
  go_ret
  exact ⟨D, rfl, rfl, H1.out, HU.out.mono (fun k _ e => Or.inl e), fun k hk => Or.inl hk⟩

end Go.Proofs.Ytojcoambodedbaa
