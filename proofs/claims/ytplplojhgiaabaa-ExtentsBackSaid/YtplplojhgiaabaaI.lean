/- slices.SortFunc laid at this dump; the order by the first block. -/
import Derived.Shelf.SlSortCmp.WholeK
import Derived.Ground.SlsfProg
import Derived.Lib.OwnBridge
import Derived.Test.YtplplojhgiaabaaG
set_option linter.unusedVariables false
set_option linter.unusedSimpArgs false
set_option linter.unnecessarySimpa false
namespace Go.Proofs
open Go.Shelf
def Ytplplojhgiaabaa.sort41_ren : Go.Shelf.Ren := ⟨fun | 6 => 41 | 15 => 48 | 14 => 47 | 28 => 59 | 29 => 60 | 20 => 51 | 21 => 52 | 22 => 53 | 23 => 54 | 24 => 55 | 25 => 56 | 26 => 57 | 27 => 58 | 46 => 61 | 47 => 62 | 48 => 63 | 49 => 64 | 50 => 65 | 57 => 66 | n => n, fun | 22 => 22 | 24 => 32 | 25 => 73 | 3 => 3 | 39 => 80 | 0 => 0 | 53 => 92 | 55 => 67 | 4 => 4 | 46 => 86 | 45 => 85 | 50 => 26 | 5 => 5 | 9 => 9 | 66 => 94 | 70 => 98 | 76 => 100 | 77 => 101 | n => n, fun | n => n⟩
theorem Ytplplojhgiaabaa.sort41 : Go.Proofs.SlLaysF0.n6 Try.prog Ytplplojhgiaabaa.sort41_ren := {
  mixed := by kernel_rfl
  f6 := ⟨Try.f41.name, by decide, Try.func41.trans (congrArg some (by kernel_rfl))⟩
  f14 := ⟨Try.f47.name, by decide, Try.func47.trans (congrArg some (by kernel_rfl))⟩
  f15 := Try.func48.trans (congrArg some (by kernel_rfl))
  f20 := ⟨Try.f51.name, by decide, Try.func51.trans (congrArg some (by kernel_rfl))⟩
  f21 := ⟨Try.f52.name, by decide, Try.func52.trans (congrArg some (by kernel_rfl))⟩
  f22 := ⟨Try.f53.name, by decide, Try.func53.trans (congrArg some (by kernel_rfl))⟩
  f23 := ⟨Try.f54.name, by decide, Try.func54.trans (congrArg some (by kernel_rfl))⟩
  f24 := ⟨Try.f55.name, by decide, Try.func55.trans (congrArg some (by kernel_rfl))⟩
  f25 := ⟨Try.f56.name, by decide, Try.func56.trans (congrArg some (by kernel_rfl))⟩
  f26 := ⟨Try.f57.name, by decide, Try.func57.trans (congrArg some (by kernel_rfl))⟩
  f27 := ⟨Try.f58.name, by decide, Try.func58.trans (congrArg some (by kernel_rfl))⟩
  f28 := Try.func59.trans (congrArg some (by kernel_rfl))
  f29 := Try.func60.trans (congrArg some (by kernel_rfl))
  f46 := ⟨Try.f61.name, by decide, Try.func61.trans (congrArg some (by kernel_rfl))⟩
  f47 := Try.func62.trans (congrArg some (by kernel_rfl))
  f48 := Try.func63.trans (congrArg some (by kernel_rfl))
  f49 := ⟨Try.f64.name, by decide, Try.func64.trans (congrArg some (by kernel_rfl))⟩
  f50 := ⟨Try.f65.name, by decide, Try.func65.trans (congrArg some (by kernel_rfl))⟩
  f57 := ⟨Try.f66.name, by decide, Try.func66.trans (congrArg some (by kernel_rfl))⟩
  t0 := Try.underlying0
  a0 := Try.isAgg0
  z0 := Try.sizeOf0
  v0 := Try.zeroValue0
  t3 := Try.underlying3
  a3 := Try.isAgg3
  z3 := Try.sizeOf3
  v3 := Try.zeroValue3
  t4 := Try.underlying4
  a4 := Try.isAgg4
  z4 := Try.sizeOf4
  v4 := Try.zeroValue4
  t5 := Try.underlying5
  a5 := Try.isAgg5
  z5 := Try.sizeOf5
  v5 := Try.zeroValue5
  t9 := Try.underlying9
  a9 := Try.isAgg9
  z9 := Try.sizeOf9
  v9 := Try.zeroValue9
  t22 := Try.underlying22
  a22 := Try.isAgg22
  z22 := Try.sizeOf22
  v22 := Try.zeroValue22
  t25 := Try.underlying73
  a25 := Try.isAgg73
  z25 := Try.sizeOf73
  v25 := Try.zeroValue73
  t39 := Try.underlying80
  a39 := Try.isAgg80
  z39 := Try.sizeOf80
  v39 := Try.zeroValue80
  t45 := Try.underlying85
  a45 := Try.isAgg85
  z45 := Try.sizeOf85
  v45 := Try.zeroValue85
  t46 := Try.underlying86
  a46 := Try.isAgg86
  z46 := Try.sizeOf86
  v46 := Try.zeroValue86
  t50 := Try.underlying26
  a50 := Try.isAgg26
  z50 := Try.sizeOf26
  v50 := Try.zeroValue26
  t53 := Try.underlying92
  a53 := Try.isAgg92
  z53 := Try.sizeOf92
  v53 := Try.zeroValue92
  t55 := Try.underlying67
  a55 := Try.isAgg67
  z55 := Try.sizeOf67
  v55 := Try.zeroValue67
  t66 := Try.underlying94
  a66 := Try.isAgg94
  z66 := Try.sizeOf94
  v66 := Try.zeroValue94
  t70 := Try.underlying98
  a70 := Try.isAgg98
  z70 := Try.sizeOf98
  v70 := Try.zeroValue98
  t76 := Try.underlying100
  a76 := Try.isAgg100
  z76 := Try.sizeOf100
  v76 := Try.zeroValue100
  t77 := Try.underlying101
  a77 := Try.isAgg101
  z77 := Try.sizeOf101
  v77 := Try.zeroValue101 }
end Go.Proofs
namespace Go.Proofs.Ytplplojhgiaabaa
open Go.RowKit Go.Sort Go.Lib Go.Shelf

/-- An extent whose first block is no wild number. -/
abbrev Gd := {x : X // 0 ≤ x.lba ∧ x.lba ≤ 8192}
instance : Inhabited Gd := ⟨⟨⟨0, 0, 0⟩, by decide⟩⟩
def encG (x : Gd) : List Value := x.1.vs
def cmpG (x y : Gd) : Int := x.1.lba - y.1.lba
theorem ltG (x y : Gd) : ltOf cmpG x y = decide (x.1.lba < y.1.lba) := by
  unfold ltOf cmpG
  rw [decide_eq_decide]
  omega
theorem swoG : SWO (ltOf cmpG) where
  irrefl x := by rw [ltG]; simp
  trans x y z h1 h2 := by rw [ltG] at *; simp at *; omega
  ntrans x y z h1 h2 := by rw [ltG] at *; simp at *; omega

set_option maxHeartbeats 1000000 in
theorem closure_any (x y : Gd) (W : World) : Calls Try.prog 42 #[.agg (encG x).toArray, .agg (encG y).toArray] W fun e w' => e = .returned (.int .i64 (cmpG x y)) ∧ ∃ q os', w' = grow (W.drewN q) os' := by
  obtain ⟨⟨a, m, p⟩, h1, h2⟩ := x
  obtain ⟨⟨a', m', p'⟩, h1', h2'⟩ := y
  dsimp only at h1 h2 h1' h2'
  simp only [encG, X.vs, cmpG]
  go_enter Try.func42, Try.ntmps42
  go_wp2
  go_ret
  exact ⟨rfl, 0, _, by rw [alloc_eq_grow, alloc_eq_grow, grow_grow]; rfl⟩

theorem below_sorted {B : Nat} {w : World} {g n : Nat} {d : Array Gd} {os : Array Obj} (hg : B ≤ g) (hs : B ≤ w.heap.size) : Below B w (sortWorldK encG 3 w g 0 n d os) := by
  have h1 : Below B w (putRow id (Sort.ahead w n) g 0 (flatK encG 3 d)) := Lib.below_putRow (Below.refl B w) hg
  unfold sortWorldK putRowK
  refine ⟨h1.os, h1.tape, h1.output, ?_, fun k hk => ?_⟩
  · have := h1.size
    simp only [grow, Array.size_append]
    omega
  · have h2 := h1.block k hk
    have h3 := h1.size
    rw [← h2]
    simp only [grow]
    rw [Array.getElem?_append_left (by omega)]

theorem grown_sorted {w : World} {g n : Nat} {d : Array Gd} {os : Array Obj} : w.grownBy (sortWorldK encG 3 w g 0 n d os) (some g) := by
  have h0 := below_sorted (B := 0) (w := w) (g := g) (n := n) (d := d) (os := os) (Nat.zero_le _) (Nat.zero_le _)
  refine ⟨h0.os, h0.tape, h0.output, h0.size, fun k hk hne => ?_⟩
  have hne' : g ≠ k := fun e => hne (by rw [e])
  have h1 : (putRow id (Sort.ahead w n) g 0 (flatK encG 3 d)).heap.size = w.heap.size := by simp [putRow, mapBlock, Sort.ahead]
  have h2 : (putRow id (Sort.ahead w n) g 0 (flatK encG 3 d)).heap[k]? = w.heap[k]? := by
    simp [putRow, mapBlock, Sort.ahead, Array.getElem?_modify, hne']
  unfold sortWorldK putRowK
  simp only [grow]
  rw [Array.getElem?_append_left (by omega), h2]

theorem sort_any (blk cap : Nat) (d : Array Gd) (w : World) (hH : HoldsK encG 3 w blk 0 d) (hblk : blk < w.heap.size) (hsz : d.size < 4611686018427387904) :
    Calls Try.prog 41 #[.slice (some ⟨blk, 0, none⟩) d.size cap, .func (.func 42) #[] #[]] w fun e w' => e = .returned (.tuple #[]) ∧ ∃ d' : Array Gd, d'.toList.Perm d.toList ∧ d'.toList.Pairwise (fun x y => x.1.lba ≤ y.1.lba) ∧
      HoldsK encG 3 w' blk 0 d' ∧ blk < w'.heap.size ∧ (∀ B, B ≤ blk → Below B w w') ∧ w.grownBy w' (some blk) := by
  have eg : ∀ args w, (callFunc 42 args).run Try.prog w = .ok (.enter 42 args) w := enters_of Try.func42 (by kernel_rfl) rfl
  have hcon := AnyQ.slices_SortFunc sort41 3 Try.isAgg32 Try.sizeOf32 encG (fun _ => rfl) (fun x v hv => by simp [encG, X.vs] at hv; rcases hv with rfl | rfl | rfl <;> rfl) cmpG swoG 42 #[] blk 0 cap d w eg (fun _ _ _ _ x y => closure_any x y _) hH hblk hsz
  change Calls Try.prog 41 _ _ _ at hcon
  refine hcon.mono ?_
  rintro e w' ⟨rfl, d', n, os, hp, hs, rfl⟩
  refine ⟨rfl, d', ?_, ?_, holdsK_sortWorldK encG 3 w blk 0 n d d' os hblk hH hp.1, lt_sortWorldK encG 3 w blk 0 n d' os hblk, fun B hB => below_sorted hB (by omega), grown_sorted⟩
  · have h3 := hp.2.2
    rw [Array.extract_size] at h3
    rw [show d.size = d'.size from hp.1.symm, Array.extract_size] at h3
    exact h3
  · rw [List.pairwise_iff_getElem]
    intro i j hi hj hij
    have h4 := hs i j (Nat.zero_le _) hij (by rw [← hp.1]; simpa using hj)
    rw [ltG] at h4
    simp only [Array.length_toList] at hi hj
    rw [getElem!_pos d' j hj, getElem!_pos d' i hi] at h4
    simpa using h4

end Go.Proofs.Ytplplojhgiaabaa
