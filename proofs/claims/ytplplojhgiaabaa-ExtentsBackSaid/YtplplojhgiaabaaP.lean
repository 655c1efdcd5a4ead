/- spread: of each block where it stands and 1. -/
import Derived.Laws.MakeOwn
import Derived.Deep.RegionLaw
import Derived.Test.YtplplojhgiaabaaF
set_option linter.unusedVariables false
set_option linter.unusedSimpArgs false
set_option linter.unnecessarySimpa false
namespace Go.Proofs.Ytplplojhgiaabaa
open Go.RowKit

theorem look_append (l : List X) (x : X) (j : Int) : look (l ++ [x]) j = match look l j with | some p => some p | none => if x.lba ≤ j ∧ j < x.lba + x.num then some (x.pos + j - x.lba) else none := by
  induction l with
  | nil => simp [look]
  | cons y l ih =>
    simp only [List.cons_append, look]
    split
    · rfl
    · exact ih
theorem look_none {l : List X} {j : Int} (h : ∀ x ∈ l, ¬ (x.lba ≤ j ∧ j < x.lba + x.num)) : look l j = none := by
  induction l with
  | nil => rfl
  | cons y l ih =>
    rw [look, if_neg (h y (by simp))]
    exact ih fun x hx => h x (by simp [hx])
/-- A good list's extents lie apart, in order. -/
theorem Good.apart {l : List X} (h : Good l) : ∀ (k : Nat) (y : X), l[k]? = some y → ∀ (i : Nat) (x : X), i < k → l[i]? = some x → x.lba + x.num ≤ y.lba := by
  intro k
  induction k with
  | zero => intro y _ i x hi; omega
  | succ k ih =>
    intro y hy i x hi hx
    have hkl : k + 1 < l.length := (List.getElem?_eq_some_iff.1 hy).1
    have hz : l[k]? = some l[k] := List.getElem?_eq_getElem (by omega)
    have hb := (h.2 (k + 1) hkl y hy).2 l[k] (by omega) hz
    have h1 := h.one hz
    have h2 := h.one hx
    unfold Behind at hb
    unfold One at h1 h2
    by_cases e : i = k
    · subst e
      rw [hz] at hx
      cases hx
      exact hb.1
    · have h3 := ih l[k] hz i x (by omega) hx
      omega

def spreadF (l : List X) (j : Nat) : Int := match look l j with | some p => p + 1 | none => 0

theorem spread_succ {l : List X} (hg : Good l) {k : Nat} {x : X} (hx : l[k]? = some x) (j : Nat) :
    spreadF (l.take (k + 1)) j = if x.lba ≤ j ∧ j < x.lba + x.num then x.pos + j - x.lba + 1 else spreadF (l.take k) j := by
  unfold spreadF
  rw [take_succ_of hx, look_append]
  by_cases hin : x.lba ≤ (j : Int) ∧ (j : Int) < x.lba + x.num
  · have h0 : look (l.take k) j = none := look_none fun y hy => by
      obtain ⟨i, hi, rfl⟩ := List.getElem_of_mem hy
      have hik : i < k := by have := hi; rw [List.length_take] at this; omega
      have hy' : l[i]? = some (l.take k)[i] := by rw [← List.getElem?_eq_getElem hi, List.getElem?_take_of_lt hik]
      have := hg.apart k x hx i _ hik hy'
      omega
    rw [h0, if_pos hin, if_pos hin]
  · rw [if_neg hin, if_neg hin]
    cases look (l.take k) j <;> rfl

/-- Block g is a table of 4096 numbers. -/
def Tab (W : World) (g : Nat) (f : Nat → Int) : Prop := ∃ arr : Array Value, W.heap[g]? = some (.cells arr 3 (0, 0)) ∧ arr.size = 4096 ∧ ∀ i, i < 4096 → arr[i]? = some (.int .i64 (f i))
theorem Tab.lt {W : World} {g : Nat} {f : Nat → Int} (h : Tab W g f) : g < W.heap.size := by obtain ⟨arr, h1, _⟩ := h; exact lt_of_block h1
theorem Tab.cell {W : World} {g : Nat} {f : Nat → Int} (h : Tab W g f) {i : Nat} (hi : i < 4096) : W.cell? ⟨g, i, none⟩ = some (.int .i64 (f i)) := by
  obtain ⟨arr, h1, h2, h3⟩ := h
  rw [← h3 i hi]
  simp [World.cell?, h1]
theorem Tab.free {W : World} {g : Nat} {f : Nat → Int} (h : Tab W g f) (i : Nat) : W.frozen? ⟨g, i, none⟩ = false := by
  obtain ⟨arr, h1, h2, h3⟩ := h
  simp [World.frozen?, h1]
theorem Tab.set {W : World} {g : Nat} {f : Nat → Int} (h : Tab W g f) {i : Nat} (hi : i < 4096) (v : Int) : Tab (W.setCell ⟨g, i, none⟩ (.int .i64 v)) g (fun j => if j = i then v else f j) := by
  obtain ⟨arr, h1, h2, h3⟩ := h
  refine ⟨arr.setIfInBounds i (.int .i64 v), by simp [World.setCell, Array.getElem?_modify, h1], by simp [h2], fun j hj => ?_⟩
  rw [Array.getElem?_setIfInBounds]
  by_cases e : i = j
  · subst e
    simp [h2, hi]
  · rw [if_neg e, h3 j hj]
    show _ = some (Value.int .i64 (if j = i then v else f j))
    rw [if_neg (Ne.symm e)]
theorem Tab.congr {W : World} {g : Nat} {f f' : Nat → Int} (h : Tab W g f) (he : ∀ i, i < 4096 → f i = f' i) : Tab W g f' := by
  obtain ⟨arr, h1, h2, h3⟩ := h
  exact ⟨arr, h1, h2, fun i hi => by rw [h3 i hi, he i hi]⟩
theorem Tab.below {n : Nat} {A B : World} {g : Nat} {f : Nat → Int} (h : Tab A g f) (hb : Below n A B) (hn : g < n) : Tab B g f := by
  obtain ⟨arr, h1, h2, h3⟩ := h
  exact ⟨arr, (hb.block g hn).trans h1, h2, h3⟩
theorem Tab.drew {A : World} {g : Nat} {f : Nat → Int} (h : Tab A g f) : Tab A.drew g f := h

theorem info3 : (Try.prog.info? 3).map (fun i => (i.zero, i.size, i.bytes)) = some (some (.int .i64 0), 1, 8) := by kernel_rfl

def irow (n : Nat) : Array Value := Array.replicate n (.int .i64 0)
theorem made_one (z : Value) (n : Nat) : madeCells #[z] n = Array.replicate n z := by
  apply Array.ext
  · simp [madeCells]
  · intro i h1 h2
    simp [madeCells, Nat.mod_one]
theorem make_ints (n : Int) (h0 : 0 ≤ n) (hn : n ≤ 140737488355) (w : World) : (Instr.makeSlice 51 (.int .i64 n) (.int .i64 n)).run Try.prog w =
    .ok (.slice (some ⟨w.heap.size, 0, none⟩) n.toNat n.toNat) (w.alloc (.cells (irow n.toNat) 3)) := by
  obtain ⟨i0, hi, hz0, hz1, hz2⟩ := info_parts info3
  have := run_make (P := Try.prog) w 51 3 i0 (.int .i64 0) Try.underlying51 hi hz0 .i64 .i64 n n h0 (Int.le_refl _) (by rw [hz2]; omega) (by omega)
  rw [this, hz1, Nat.mul_one]
  simp only [Value.cells, made_one, irow]
theorem tab_zero (W : World) : Tab (W.alloc (.cells (irow 4096) 3)) W.heap.size (fun _ => 0) :=
  ⟨irow 4096, heap_alloc_new W _, by simp [irow], fun i hi => by simp [irow, hi]⟩


set_option maxRecDepth 100000 in
set_option maxHeartbeats 4000000 in
theorem spread_any (l : List X) (hg : Good l) (v : Value) (w : World) (h : Lies w v l) :
    Calls Try.prog 27 #[v] w fun e w' => ∃ g, e = .returned (.slice (some ⟨g, 0, none⟩) 4096 4096) ∧ w.heap.size ≤ g ∧ Tab w' g (spreadF l) ∧ Below w.heap.size w w' := by
  have hmk := make_ints 4096 (by omega) (by omega) w
  have hT0 := Lib.hid (tab_zero w)
  have hb0 : Below w.heap.size w (w.alloc (.cells (irow 4096) 3)) := (Below.refl _ w).alloc (Nat.le_refl _) _
  have hgh := Lib.hid hg
  rcases h with ⟨a0, c0, rfl, rfl⟩ | ⟨b, off, cap, rfl, hb, hc⟩
  · go_enter Try.func27, Try.ntmps27
    go_wp2
    refine wp_loop_rounds 1 ?_
    rw [rounds_succ]
    go_wp2
    go_ret
    exact ⟨_, rfl, Nat.le_refl _, hT0, hb0⟩
  · have hc3 := Lib.hid (show ∀ k x, l[k]? = some x → At3 w b (off + k * 3) x from fun k x hk => ⟨(hc k x hk).1, (hc k x hk).2.1, (hc k x hk).2.2⟩)
    have hlen : l.length ≤ 4096 := hg.1
    obtain ⟨n, hnl⟩ : ∃ n, l.length = n := ⟨_, rfl⟩
    rw [hnl] at hlen ⊢
    have hnh := Lib.hid hnl
    clear hc hnl hg
    go_enter Try.func27, Try.ntmps27
    go_wp2
    go_loopw [4] (fun i wr => ∃ k : Nat, k ≤ n ∧ i = .int .i64 k ∧ Tab wr w.heap.size (spreadF (l.take k)) ∧ Below w.heap.size w wr) (fun i _ => n - (intOf i).toNat)
    case atStart => exact ⟨0, Nat.zero_le _, rfl, hT0, hb0⟩
    case round =>
      obtain ⟨k, hk, rfl, hT, hB⟩ := hrel
      by_cases hlt : k < n
      · have hkl : k < l.length := by have h2 : l.length = n := hnh; omega
        obtain ⟨x, hx⟩ : ∃ x, l[k]? = some x := ⟨_, List.getElem?_eq_getElem hkl⟩
        have hcx := (hc3 k x hx).below hB hb
        have hxo := (show Good l from hgh).one hx
        have hss := Lib.hid (spread_succ hgh hx)
        have hx' := Lib.hid hx
        have hTh := Lib.hid hT
        clear hx hT hT0
        have hcx' := Lib.hid hcx
        obtain ⟨a, m, p⟩ := x
        unfold One at hxo
        dsimp only at *
        obtain ⟨o1, o2, o3, o4, o5, o6⟩ := hxo
        obtain ⟨A, rfl⟩ : ∃ A : Nat, a = A := ⟨a.toNat, by omega⟩
        obtain ⟨M, rfl⟩ : ∃ M : Nat, m = M := ⟨m.toNat, by omega⟩
        obtain ⟨wo, hwo⟩ : ∃ wo : World, wo = wr := ⟨_, rfl⟩
        subst hwo
        have hwoz := hB.size
        clear hmk hb0 hcx
        go_wp2
        go_loopw [5] (fun i wr => ∃ q : Nat, q ≤ M ∧ i = .int .i64 q ∧ Tab wr w.heap.size (fun j => if (A : Int) ≤ j ∧ (j : Int) < A + q then p + j - A + 1 else spreadF (l.take k) j) ∧ Below w.heap.size w wr) (fun i _ => M - (intOf i).toNat)
        case atStart => exact ⟨0, Nat.zero_le _, rfl, (show Tab _ _ _ from hTh).congr fun j hj => by rw [if_neg (by omega)], hB⟩
        case round =>
          obtain ⟨q, hq, rfl, hT2, hB2⟩ := hrel
          have hcy := (hc3 k _ hx').below hB2 hb
          have c0 := hcy.c0
          have c1 := hcy.c1
          have c2 := hcy.c2
          dsimp only at c0 c1 c2
          by_cases hlq : q < M
          · have hAq : A + q < 4096 := by omega
            have t1 := hT2.cell hAq
            have t2 := hT2.free (A + q)
            have t3 := hT2.set hAq (p + q + 1)
            have t3' := Lib.hid t3
            have hT2l := hT2.lt
            obtain ⟨tv, htv⟩ : ∃ tv, wr.cell? ⟨w.heap.size, A + q, none⟩ = some tv := ⟨_, t1⟩
            clear hT2 t3 t1
            go_wp2_with fail
            go_region
            have hB3 := hB2.setCell (p := ⟨w.heap.size, A + q, none⟩) (Nat.le_refl _) (.int .i64 (p + q + 1))
            go_wp2
            go_roundw
            case rel =>
              refine ⟨q + 1, by omega, by simp, ?_, ⟨hB3.os, hB3.tape, hB3.output, hB3.size, hB3.block⟩⟩
              refine Tab.congr (f := fun j => if j = A + q then p + q + 1 else if (A : Int) ≤ j ∧ (j : Int) < A + q then p + j - A + 1 else spreadF (l.take k) j) t3' fun j hj => ?_
              by_cases e : j = A + q
              · subst e
                rw [if_pos rfl, if_pos (by omega)]
                omega
              · rw [if_neg e]
                by_cases e2 : (A : Int) ≤ j ∧ (j : Int) < A + q
                · rw [if_pos e2, if_pos (by omega)]
                · rw [if_neg e2, if_neg (by omega)]
            case measure => simp [intOf]; omega
          · obtain rfl : q = M := by omega
            have hT3 : Tab wr w.heap.size (spreadF (l.take (k + 1))) := hT2.congr fun j hj => ((show ∀ j : Nat, spreadF (l.take (k + 1)) j = _ from hss) j).symm
            have hT3' := Lib.hid hT3
            clear hT2 hT3
            go_wp2
            go_roundw
            case rel => exact ⟨k + 1, by omega, by simp, hT3', hB2⟩
            case measure => simp [intOf]; omega
      · obtain rfl : k = n := by omega
        have hfin : l.take k = l := List.take_of_length_le (by have h2 : l.length = k := hnh; omega)
        rw [hfin] at hT
        have hT' := Lib.hid hT
        clear hfin hT
        go_wp2
        go_ret
        exact ⟨_, rfl, Nat.le_refl _, hT', hB⟩

end Go.Proofs.Ytplplojhgiaabaa
