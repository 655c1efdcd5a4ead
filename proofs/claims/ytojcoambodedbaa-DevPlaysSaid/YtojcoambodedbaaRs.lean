/- A slice of steps among a law's arguments: opened into what its cells hold, and its reach. -/
import Derived.Deep.Slices
import Derived.Deep.Strs
import Derived.Lib.SmallJoins
import Derived.Test.YtojcoambodedbaaPlays
import Derived.Test.YtojcoambodedbaaR
set_option linter.unusedVariables false
set_option linter.unusedSimpArgs false
set_option linter.unnecessarySimpa false
namespace Go.Proofs.Ytojcoambodedbaa
open Go.ChangeShapes Go.WideShapes Go.ChangeAt Go.RowKit

section
variable {H : Type} {enc : TypeId × Value → H} {w : World} {base : Nat} {spare : Nat → Bool} {held : Bool}
theorem trod_struct6 {t : TypeId} {f0 f1 f2 f3 f4 f5 : Field} {fuel : Nat} {cs : List Value} {x : DataW H × List MemPlace} (ht : Try.prog.underlying t = some (.struct #[f0, f1, f2, f3, f4, f5])) (h : DataW.trod enc Try.prog w base spare held fuel t cs = some x) :
    ∃ y0 y1 y2 y3 y4 y5 n, x.1 = .agg [y0.1, y1.1, y2.1, y3.1, y4.1, y5.1] ∧ cs.length = Try.prog.cellsOf t ∧ DataW.trod enc Try.prog w base spare held n f0.type ((cs.drop f0.offset).take (Try.prog.cellsOf f0.type)) = some y0 ∧
      DataW.trod enc Try.prog w base spare held n f1.type ((cs.drop f1.offset).take (Try.prog.cellsOf f1.type)) = some y1 ∧ DataW.trod enc Try.prog w base spare held n f2.type ((cs.drop f2.offset).take (Try.prog.cellsOf f2.type)) = some y2 ∧
      DataW.trod enc Try.prog w base spare held n f3.type ((cs.drop f3.offset).take (Try.prog.cellsOf f3.type)) = some y3 ∧ DataW.trod enc Try.prog w base spare held n f4.type ((cs.drop f4.offset).take (Try.prog.cellsOf f4.type)) = some y4 ∧
      DataW.trod enc Try.prog w base spare held n f5.type ((cs.drop f5.offset).take (Try.prog.cellsOf f5.type)) = some y5 := by
  obtain ⟨xs, n, _, rfl, hl, hlen, hf⟩ := DataW.trod_struct ht h
  match xs, hlen with
  | [y0, y1, y2, y3, y4, y5], _ => exact ⟨y0, y1, y2, y3, y4, y5, n, by simp, hl, by simpa using hf 0 f0 rfl, by simpa using hf 1 f1 rfl, by simpa using hf 2 f2 rfl, by simpa using hf 3 f3 rfl, by simpa using hf 4 f4 rfl, by simpa using hf 5 f5 rfl⟩
end

theorem six_of {α : Type} : ∀ (l : List α), l.length = 6 → ∃ a b c d e f, l = [a, b, c, d, e, f]
  | [a, b, c, d, e, f], _ => ⟨a, b, c, d, e, f, rfl⟩
theorem Try.cells47 : Try.prog.cellsOf 47 = 6 := by kernel_rfl
theorem Try.cells9 : Try.prog.cellsOf 9 = 1 := by kernel_rfl
theorem Try.cells23 : Try.prog.cellsOf 23 = 1 := by kernel_rfl
theorem Try.bytes47 : 1 ≤ Try.prog.bytesOf 47 := by decide +kernel
theorem weightsAll_mem {H : Type} {P : Program} {e : TypeId} : ∀ {l : List (DataW H)} {d : DataW H}, d ∈ l → ∀ n ∈ d.weights P e, n ∈ DataW.weightsAll P e l
  | d' :: r, d, hd, n, hn => by
    simp only [DataW.weightsAll, List.mem_append]
    rcases List.mem_cons.1 hd with rfl | h
    · exact Or.inl hn
    · exact Or.inr (weightsAll_mem h n hn)
theorem wf_int {n : Int} (h : (Lit.int .i64 n).wf = true) : -9223372036854775808 ≤ n ∧ n ≤ 9223372036854775807 := by
  simp [Lit.wf, IntKind.min, IntKind.max, IntKind.signed, IntKind.bits] at h
  omega
theorem wf_byte {n : Int} (h : (Lit.int .u8 n).wf = true) : 0 ≤ n ∧ n < 256 := by
  simp [Lit.wf, IntKind.min, IntKind.max, IntKind.signed, IntKind.bits] at h
  omega
instance : Inhabited Stp := ⟨⟨0, 0, 0, 0, ⟨#[]⟩, .bool false, []⟩⟩

theorem open_steps {H : Type} {enc : TypeId × Value → H} {W : World} {a0 : Option Addr} {len cap : Nat} {d0 : DataW H} {p0 : List MemPlace}
    (h0 : DataW.Trod enc Try.prog W 0 (fun _ => true) true 42 (.slice a0 len cap) d0 p0) {ts : List TypeId} {ds : List (DataW H)} (hsz : (DataW.weightsEach Try.prog ts ds).all (· ≤ reachBytes) = true) {j : Nat} (htj : ts[j]? = some 42) (hdj : ds[j]? = some d0) :
    ∃ l : List Stp, Steps W (.slice a0 len cap) l ∧ l.length ≤ 140737488351232 := by
  obtain ⟨fuel, hf⟩ := h0
  rcases Go.Deep.open_slice Try.underlying42 hf with ⟨hcs, hx⟩ | ⟨a, len', cap', m, n, D, Pl, hcs, _, hl, hm, hmm, hx, hel⟩
  · simp only [Value.cells] at hcs
    obtain ⟨rfl, rfl, rfl⟩ : a0 = none ∧ len = 0 ∧ cap = 0 := by simpa using hcs
    exact ⟨[], ⟨none, 0, rfl, fun k x hx => by simp at hx⟩, by simp⟩
  · simp only [Value.cells] at hcs
    obtain ⟨rfl, rfl, rfl⟩ : a0 = some a ∧ len = len' ∧ cap = cap' := by simpa using hcs
    simp only [if_true] at hmm
    simp only [Prod.mk.injEq] at hx
    obtain ⟨hd0, _⟩ := hx
    rw [hd0] at hdj
    have hr := sized_slice hsz htj hdj Try.underlying42
    have hb47 := Try.bytes47
    have inner : ∀ i, i < len → ∀ q, q ∈ (D i).weights Try.prog 47 → q ≤ reachBytes := by
      intro i hi q hq
      refine of_decide_eq_true (List.all_eq_true.1 hsz _ (DataW.weights_mem_each htj hdj _ ?_))
      simp only [DataW.weights, Try.underlying42, List.mem_cons, List.mem_append]
      exact Or.inr (Or.inl (weightsAll_mem (List.mem_map.2 ⟨i, List.mem_range.2 hi, rfl⟩) _ hq))
    have each : ∀ i, i < len → ∃ x : Stp, x.Ok W ∧ W.cell? (a.add (i * 6)) = some (.int .i64 x.kind) ∧ W.cell? ((a.add (i * 6)).add 1) = some (.int .i64 x.at') ∧ W.cell? ((a.add (i * 6)).add 2) = some (.int .i64 x.n) ∧ W.cell? ((a.add (i * 6)).add 3) = some (.int .u8 x.fill) ∧ W.cell? ((a.add (i * 6)).add 4) = some (.string x.data) ∧ W.cell? ((a.add (i * 6)).add 5) = some x.kv := by
      intro i hi
      obtain ⟨cs', hc, ht⟩ := hel i (by omega)
      rw [Try.cells47] at hc
      obtain ⟨_, hcl, hat⟩ := World.cells?_some hc
      obtain ⟨y0, y1, y2, y3, y4, y5, n', hD, _, t0, t1, t2, t3, t4, t5⟩ := trod_struct6 Try.underlying47 ht
      obtain ⟨c0, c1, c2, c3, c4, c5, rfl⟩ := six_of cs' hcl
      simp only [Try.cells3, Try.cells5, Try.cells9, Try.cells23] at t0 t1 t2 t3 t4 t5
      obtain ⟨n0, e0, g0, w0⟩ := DataW.trod_int Try.underlying3 t0
      obtain ⟨n1, e1, g1, w1⟩ := DataW.trod_int Try.underlying3 t1
      obtain ⟨n2, e2, g2, w2⟩ := DataW.trod_int Try.underlying3 t2
      obtain ⟨n3, e3, g3, w3⟩ := DataW.trod_int Try.underlying5 t3
      obtain ⟨s4, e4, g4, w4⟩ := DataW.trod_string Try.underlying9 t4
      simp at e0 e1 e2 e3 e4
      subst e0 e1 e2 e3 e4
      have hw := inner i hi
      have hD' : D i = .agg [y0.1, y1.1, y2.1, y3.1, y4.1, y5.1] := hD
      have hw2 : ∀ q, q ∈ DataW.weightsEach Try.prog [3, 3, 3, 5, 9, 23] [y0.1, y1.1, y2.1, y3.1, y4.1, y5.1] → q ≤ reachBytes := by
        intro q hq
        refine hw q ?_
        rw [hD']
        simp only [DataW.weights, Try.underlying47]
        exact hq
      have hs4 : s4.size ≤ 140737488351232 := by
        have := hw2 s4.data.toList.length (DataW.weights_mem_each (j := 4) (t := 9) (d := .lit (.string s4.data.toList)) rfl (by rw [g4]; rfl) _ (by simp [DataW.weights]))
        rw [Array.length_toList] at this
        exact this
      have base0 : W.cell? (a.add (i * 6)) = some (.int .i64 n0) := by
        have := hat 0 (by omega)
        rw [Addr.add_zero'] at this
        exact this
      have a1 := hat 1 (by omega)
      have a2 := hat 2 (by omega)
      have a3 := hat 3 (by omega)
      have a4 := hat 4 (by omega)
      have a5 := hat 5 (by omega)
      rcases open_ints Try.underlying23 Try.underlying3 Try.cells3 t5 with ⟨h5, _⟩ | ⟨ad, kl, kcap, zs, h5, _, hkl, hkm, hkz, hkx, hkcell, hkw⟩
      · simp at h5
        subst h5
        exact ⟨⟨n0, n1, n2, n3, s4, .slice none 0 0, []⟩, ⟨wf_byte w3, ⟨none, 0, rfl, by simp⟩, by simp, wf_int w0, hs4⟩, base0, a1, a2, a3, a4, a5⟩
      · simp at h5
        subst h5
        simp only [if_true] at hkz
        have hlen : (zs.take kl).length = kl := by simp; omega
        have hreach : kl * 8 ≤ 140737488351232 := by
          have := hw2 (((lits .i64 (zs.take kl) : List (DataW H)).length + (lits .i64 (zs.drop kl) : List (DataW H)).length) * Try.prog.bytesOf 3) (DataW.weights_mem_each (j := 5) (t := 23) (d := .slice (lits .i64 (zs.take kl)) (lits .i64 (zs.drop kl))) rfl (by rw [hkx]; rfl) _ (by simp [DataW.weights, Try.underlying23]))
          rw [Try.bytes3] at this
          simp only [lits, List.length_map, List.length_take, List.length_drop, reachBytes] at this
          omega
        refine ⟨⟨n0, n1, n2, n3, s4, .slice (some ad) kl kcap, zs.take kl⟩, ⟨wf_byte w3, ⟨some ad, kcap, by rw [hlen], fun q hq => ?_⟩, by rw [hlen]; exact hreach, wf_int w0, hs4⟩, base0, a1, a2, a3, a4, a5⟩
        dsimp only at hq ⊢
        rw [hlen] at hq
        have hci := hkcell q (by omega)
        have hg : (zs.take kl).getD q 0 = zs.getD q 0 := by simp [List.getD, List.getElem?_take, hq]
        rw [hg]
        have hblk := World.block_lt_of_cell? W _ hci
        have h00 := hkcell 0 (by omega)
        rcases ad with ⟨b, off, spot⟩
        have hs : spot = none := by
          cases spot with
          | none => rfl
          | some s => simp [Addr.add, World.cell?] at h00; split at h00 <;> simp at h00
        subst hs
        have hadd : (⟨b, off, none⟩ : Addr).add q = ⟨b, off + q, none⟩ := by unfold Addr.add; split <;> simp_all
        rw [hadd] at hci hblk
        exact ⟨b, off, rfl, hblk, hci⟩
    obtain ⟨f, hfe⟩ := Go.Deep.choose_lt each
    refine ⟨(List.range len).map f, ⟨some a, cap, by simp, fun k x hk => ?_⟩, ?_⟩
    · have hkl : k < len := by have := (List.getElem?_eq_some_iff.1 hk).1; simpa using this
      have hfx : f k = x := by simpa [hkl] using hk
      have h3 := hfe k hkl
      rw [hfx] at h3
      have h00 := (hfe 0 (by omega)).2.1
      rcases a with ⟨b, off, spot⟩
      have hs : spot = none := by
        cases spot with
        | none => rfl
        | some s => simp [Addr.add, World.cell?] at h00; split at h00 <;> simp at h00
      subst hs
      have hb : b < W.heap.size := World.block_lt_of_cell? W _ h00
      simp only [Addr.add_lit] at h3
      exact ⟨b, off, rfl, hb, ⟨h3.2.1, h3.2.2.1, h3.2.2.2.1, h3.2.2.2.2.1, h3.2.2.2.2.2.1, h3.2.2.2.2.2.2⟩, h3.1⟩
    · simp only [List.length_map, List.length_range, reachBytes] at hr ⊢
      have h1 : len * 1 ≤ (len + (m - len)) * Try.prog.bytesOf 47 := Nat.mul_le_mul (by omega) hb47
      omega

end Go.Proofs.Ytojcoambodedbaa
