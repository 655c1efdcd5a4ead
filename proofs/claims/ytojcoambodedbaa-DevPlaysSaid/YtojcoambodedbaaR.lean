/- A slice of numbers among a law's arguments: opened into what its cells hold, and its reach. -/
import Derived.Test.YtojcoambodedbaaP
import Derived.Test.YtojcoambodedbaaWhole
set_option linter.unusedVariables false
set_option linter.unusedSimpArgs false
set_option linter.unnecessarySimpa false
namespace Go.Proofs.Ytojcoambodedbaa
open Go.ChangeShapes Go.WideShapes Go.ChangeAt Go.RowKit

theorem open_view {H : Type} {enc : TypeId × Value → H} {W : World} {k : IntKind} {t e : TypeId} {bytes : Nat} (ht : Try.prog.underlying t = some (.slice e)) (he : Try.prog.underlying e = some (.int k)) (hc : Try.prog.cellsOf e = 1) (hby : Try.prog.bytesOf e = bytes)
    {a0 : Option Addr} {len cap : Nat} {d0 : DataW H} {p0 : List MemPlace} (h0 : DataW.Trod enc Try.prog W 0 (fun _ => true) true t (.slice a0 len cap) d0 p0) (hlt : ∀ x ∈ p0, x.block < W.heap.size)
    {ts : List TypeId} {ds : List (DataW H)} (hsz : (DataW.weightsEach Try.prog ts ds).all (· ≤ reachBytes) = true) {j : Nat} (htj : ts[j]? = some t) (hdj : ds[j]? = some d0) :
    ∃ zs : List Int, View k W (.slice a0 len cap) zs ∧ (∀ n ∈ zs, (Lit.int k n).wf = true) ∧ zs.length * bytes ≤ 140737488351232 := by
  obtain ⟨fuel, hf⟩ := h0
  rcases open_ints ht he hc hf with ⟨hcs, hx⟩ | ⟨a, len', cap', zs, hcs, _, hl, hm, hz, hx, hcell, hwz⟩
  · simp only [Value.cells] at hcs
    obtain ⟨rfl, rfl, rfl⟩ : a0 = none ∧ len = 0 ∧ cap = 0 := by simpa using hcs
    exact ⟨[], ⟨none, 0, rfl, by simp⟩, by simp, by simp⟩
  · simp only [Value.cells] at hcs
    obtain ⟨rfl, rfl, rfl⟩ : a0 = some a ∧ len = len' ∧ cap = cap' := by simpa using hcs
    simp only [if_true] at hz
    simp only [Prod.mk.injEq] at hx
    obtain ⟨hd0, hp0⟩ := hx
    rw [hd0] at hdj
    have hr := sized_slice hsz htj hdj ht
    rw [hby] at hr
    have hlen : (zs.take len).length = len := by simp; omega
    refine ⟨zs.take len, ⟨some a, cap, by rw [hlen], fun i hi => ?_⟩, fun n hn => hwz n (List.mem_of_mem_take hn), ?_⟩
    · rw [hlen] at hi
      have hci := hcell i (by omega)
      have hg : (zs.take len).getD i 0 = zs.getD i 0 := by simp [List.getD, List.getElem?_take, hi]
      rw [hg]
      have hblk := World.block_lt_of_cell? W _ hci
      have h00 := hcell 0 (by omega)
      rcases a with ⟨b, off, spot⟩
      have hs : spot = none := by
        cases spot with
        | none => rfl
        | some s => simp [Addr.add, World.cell?] at h00; split at h00 <;> simp at h00
      subst hs
      have hadd : (⟨b, off, none⟩ : Addr).add i = ⟨b, off + i, none⟩ := by unfold Addr.add; split <;> simp_all
      rw [hadd] at hci hblk
      exact ⟨b, off, rfl, hblk, hci⟩
    · rw [hlen]
      simp only [lits, List.length_map, List.length_take, List.length_drop, reachBytes] at hr
      have : len * bytes ≤ (min len zs.length + (zs.length - len)) * bytes := Nat.mul_le_mul_right _ (by omega)
      omega

theorem Try.cells3 : Try.prog.cellsOf 3 = 1 := by kernel_rfl
theorem Try.cells5 : Try.prog.cellsOf 5 = 1 := by kernel_rfl
theorem Try.bytes3 : Try.prog.bytesOf 3 = 8 := by kernel_rfl
theorem Try.bytes5 : Try.prog.bytesOf 5 = 1 := by kernel_rfl

/-- Bytes as natural numbers. -/
theorem viewB_of {W : World} {v : Value} {zs : List Int} (h : View .u8 W v zs) (hw : ∀ n ∈ zs, (Lit.int .u8 n).wf = true) : ∃ fs : List Nat, fs.length = zs.length ∧ ViewB W v fs := by
  have hb : ∀ n ∈ zs, 0 ≤ n ∧ n < 256 := fun n hn => by
    have := hw n hn
    simp [Lit.wf, IntKind.min, IntKind.max, IntKind.signed, IntKind.bits] at this
    omega
  obtain ⟨ao, cap, rfl, hc⟩ := h
  refine ⟨zs.map Int.toNat, by simp, ⟨fun f hf => ?_, ao, cap, by simp, fun j hj => ?_⟩⟩
  · obtain ⟨n, hn, rfl⟩ := List.mem_map.1 hf
    have := hb n hn; omega
  · rw [List.length_map] at hj
    obtain ⟨b, off, h1, h2, h3⟩ := hc j hj
    refine ⟨b, off, h1, h2, h3.trans ?_⟩
    have hn := hb (zs[j]) (List.getElem_mem hj)
    simp only [List.getD, List.getElem?_map, List.getElem?_eq_getElem hj, Option.map_some, Option.getD_some]
    rw [Int.toNat_of_nonneg hn.1]

end Go.Proofs.Ytojcoambodedbaa
