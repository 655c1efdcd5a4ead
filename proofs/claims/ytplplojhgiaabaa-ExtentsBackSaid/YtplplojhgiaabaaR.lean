/- The end that every law's row comes to: it returned true, and below the heap's old size nothing has turned. -/
import Derived.Test.YtplplojhgiaabaaRows
import Derived.WalkKit
import Derived.ProofKit
import Derived.OpenShut
import Derived.SizedLaws
import Derived.Deep.Slices
import Derived.Deep.Strs
import Derived.Lib.SmallJoins
import Derived.Test.YtplplojhgiaabaaF
set_option linter.unusedVariables false
set_option linter.unusedSimpArgs false
set_option linter.unnecessarySimpa false
namespace Go.Proofs.Ytplplojhgiaabaa
open Go.ChangeShapes Go.WideShapes Go.ChangeAt Go.RowKit

theorem Try.laidOut : laidOutB Try.prog = true := by kernel_rfl
theorem own : ownKnob Try.prog.godebug = none := by kernel_rfl

theorem trodAll_below {H : Type} {enc : TypeId × Value → H} {W W' : World} (hb : Below W.heap.size W W') :
    ∀ (ts : List TypeId) (vs : List Value) (ds : List (DataW H)) (ps : List MemPlace), (∀ t ∈ ts, Try.prog.readableRec t = true ∧ t < Try.prog.types.size) →
      DataW.TrodAll enc Try.prog W 0 (fun _ => true) true ts vs ds ps → (∀ x ∈ ps, x.block < W.heap.size) →
      DataW.TrodAll enc Try.prog W' 0 (fun b => decide (b < W.heap.size)) true ts vs ds ps := by
  intro ts
  induction ts with
  | nil =>
    intro vs ds ps _ h _
    obtain ⟨rfl, rfl, rfl⟩ := trodAll_nil h
    exact trodAll_mk0
  | cons t ts ih =>
    intro vs ds ps hts h hlt
    obtain ⟨v, vs', d, ds', p, q, rfl, rfl, rfl, h0, r0⟩ := trodAll_cons h
    have ht := hts t (by simp)
    exact trodAll_cons_mk (Below.trod Try.laidOut ht.1 ht.2 h0 hb (fun x hx => hlt x (by simp [hx]))) (ih vs' ds' q (fun u hu => hts u (by simp [hu])) r0 (fun x hx => hlt x (by simp [hx])))

theorem law_post {H : Type} {enc : TypeId × Value → H} {f : Func} {s : ChangeSpec} {W W' : World} {args : Array Value} {ds : List (DataW H)} {before : List MemPlace}
    (hv : s.vars = []) (hW : DataW.Whole enc Try.prog f.params.toList s.vars false W args.toList ds [] before) (hts : ∀ t ∈ f.params.toList, Try.prog.readableRec t = true ∧ t < Try.prog.types.size)
    (hres : f.resultTypes = #[4]) (hfn : s.fn H (ds ++ []) = { results := [.lit (.bool true)], args := ds }) (hb : Below W.heap.size W W') :
    s.post enc Try.prog f false true false false W args (.bool true) W' := by
  have hlt : ∀ x ∈ before, x.block < W.heap.size := fun x hx => by simpa using hW.lt x hx
  have hW0 := hW
  obtain ⟨p, q, hA, hV, rfl, _, _⟩ := hW0
  rw [hv] at hV
  obtain ⟨_, rfl⟩ := trodVars_none hV
  simp only [List.append_nil] at hlt hW
  refine ⟨ds, [], p, [], p, [], hW, ?_, ?_, ?_, hb.frame _, fun h => by cases h⟩
  · rw [hfn, hres]
    exact trodAll_cons_mk (shut_bool Try.underlying4 _) trodAll_mk0
  · rw [hfn]
    exact trodAll_below hb _ _ _ _ hts hA hlt
  · rw [hfn, hv]
    rfl


theorem cells32 : Try.prog.cellsOf 32 = 3 := by kernel_rfl
theorem cells3 : Try.prog.cellsOf 3 = 1 := by kernel_rfl
theorem bytes32 : Try.prog.bytesOf 32 = 24 := by kernel_rfl
instance : Inhabited X := ⟨⟨0, 0, 0⟩⟩

theorem fits_of {n : Int} (h : (Lit.int .i64 n).wf = true) : fits n := by
  simp [Lit.wf, IntKind.min, IntKind.max, IntKind.signed, IntKind.bits] at h
  unfold fits
  omega

theorem three_of {α : Type} : ∀ (l : List α), l.length = 3 → ∃ a b c, l = [a, b, c]
  | [a, b, c], _ => ⟨a, b, c, rfl⟩

/-- A slice of extents among a law's arguments: opened into what its cells hold, and its reach. -/
theorem open_exts {H : Type} {enc : TypeId × Value → H} {W : World} {a0 : Option Addr} {len cap : Nat} {d0 : DataW H} {p0 : List MemPlace}
    (h0 : DataW.Trod enc Try.prog W 0 (fun _ => true) true 22 (.slice a0 len cap) d0 p0) {ts : List TypeId} {ds : List (DataW H)} (hsz : (DataW.weightsEach Try.prog ts ds).all (· ≤ reachBytes) = true) {j : Nat} (htj : ts[j]? = some 22) (hdj : ds[j]? = some d0) :
    ∃ l : List X, Lies W (.slice a0 len cap) l ∧ (∀ x ∈ l, x.Ok) ∧ l.length * 24 ≤ 140737488351232 := by
  obtain ⟨fuel, hf⟩ := h0
  rcases Go.Deep.open_slice Try.underlying22 hf with ⟨hcs, hx⟩ | ⟨a, len', cap', m, n, D, Pl, hcs, _, hl, hm, hmm, hx, hel⟩
  · simp only [Value.cells] at hcs
    obtain ⟨rfl, rfl, rfl⟩ : a0 = none ∧ len = 0 ∧ cap = 0 := by simpa using hcs
    exact ⟨[], .inl ⟨none, 0, rfl, rfl⟩, by simp, by simp⟩
  · simp only [Value.cells] at hcs
    obtain ⟨rfl, rfl, rfl⟩ : a0 = some a ∧ len = len' ∧ cap = cap' := by simpa using hcs
    simp only [if_true] at hmm
    simp only [Prod.mk.injEq] at hx
    obtain ⟨hd0, _⟩ := hx
    rw [hd0] at hdj
    have hr := sized_slice hsz htj hdj Try.underlying22
    rw [bytes32] at hr
    have each : ∀ i, i < len → ∃ x : X, x.Ok ∧ W.cell? (a.add (i * 3)) = some (.int .i64 x.lba) ∧ W.cell? ((a.add (i * 3)).add 1) = some (.int .i64 x.num) ∧ W.cell? ((a.add (i * 3)).add 2) = some (.int .i64 x.pos) := by
      intro i hi
      obtain ⟨cs', hc, ht⟩ := hel i (by omega)
      rw [cells32] at hc
      obtain ⟨_, hcl, hat⟩ := World.cells?_some hc
      obtain ⟨y0, y1, y2, n', _, _, t0, t1, t2⟩ := Go.Deep.trod_struct3 Try.underlying32 ht
      obtain ⟨c0, c1, c2, rfl⟩ := three_of cs' hcl
      simp only [cells3] at t0 t1 t2
      obtain ⟨n0, e0, _, w0⟩ := DataW.trod_int Try.underlying3 t0
      obtain ⟨n1, e1, _, w1⟩ := DataW.trod_int Try.underlying3 t1
      obtain ⟨n2, e2, _, w2⟩ := DataW.trod_int Try.underlying3 t2
      simp at e0 e1 e2
      subst e0 e1 e2
      refine ⟨⟨n0, n1, n2⟩, ⟨fits_of w0, fits_of w1, fits_of w2⟩, ?_, hat 1 (by omega), hat 2 (by omega)⟩
      have := hat 0 (by omega)
      rw [Addr.add_zero'] at this
      exact this
    obtain ⟨f, hfe⟩ := Go.Deep.choose_lt each
    refine ⟨(List.range len).map f, ?_, ?_, ?_⟩
    · by_cases hz : len = 0
      · exact .inl ⟨some a, cap, by rw [hz], by simp [hz]⟩
      · have h00 := (hfe 0 (by omega)).2.1
        rcases a with ⟨b, off, spot⟩
        have hs : spot = none := by
          cases spot with
          | none => rfl
          | some s => simp [Addr.add, World.cell?] at h00; split at h00 <;> simp at h00
        subst hs
        have hb : b < W.heap.size := World.block_lt_of_cell? W _ h00
        refine .inr ⟨b, off, cap, by simp, hb, fun k x hk => ?_⟩
        have hkl : k < len := by have := (List.getElem?_eq_some_iff.1 hk).1; simpa using this
        have hfx : f k = x := by simpa [hkl] using hk
        have h3 := hfe k hkl
        rw [hfx] at h3
        simp only [Addr.add_lit] at h3
        exact h3.2
    · intro x hx
      rw [List.mem_map] at hx
      obtain ⟨i, hi, rfl⟩ := hx
      exact (hfe i (by simpa using hi)).1
    · simp only [List.length_map, List.length_range, reachBytes] at hr ⊢
      have : len * 24 ≤ (len + (cap - len)) * 24 := Nat.mul_le_mul_right _ (by omega)
      omega

end Go.Proofs.Ytplplojhgiaabaa
