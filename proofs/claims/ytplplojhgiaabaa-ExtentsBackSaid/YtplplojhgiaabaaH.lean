/- What is left of extents: the iterator. -/
import Derived.RangeFuncBox
import Derived.RangeFuncLeaves
import Derived.Shelf.Abstract
import Derived.OwnWalkIn
import Derived.TacticsInMore
import Derived.LoopNIn
import Derived.LoopIn
import Derived.Maps.AppendAt
import Derived.ArgAppend
import Derived.Test.YtplplojhgiaabaaG
set_option linter.unusedVariables false
set_option linter.unusedSimpArgs false
set_option linter.unnecessarySimpa false
namespace Go.Proofs.Ytplplojhgiaabaa
open Go.RowKit Go.Shelf

attribute [local go_sem] Oper.semAt_some

/-- A block that a loop's body leaves alone: an extent's box, an integer's box. -/
def Fix (o : Obj) : Prop := ∃ cs, (o = .cells cs 32 (0, 0) ∧ cs.size = 3) ∨ o = .cells cs 3 (0, 0)
def FixKept (W W' : World) : Prop := ∀ (b : Nat) (o : Obj), W.heap[b]? = some o → Fix o → W'.heap[b]? = some o
def Kp (n₀ : Nat) (W W' : World) : Prop := Below n₀ W W' ∧ FixKept W W'

theorem FixKept.refl (W : World) : FixKept W W := fun _ _ h _ => h
theorem FixKept.trans {A B C : World} (h : FixKept A B) (k : FixKept B C) : FixKept A C := fun b o hb ho => k b o (h b o hb ho) ho
theorem FixKept.alloc {A B : World} (h : FixKept A B) (o : Obj) : FixKept A (B.alloc o) := fun b o' hb ho => (heap_alloc_old B o b (lt_of_block (h b o' hb ho))).trans (h b o' hb ho)
theorem kp_t {n₀ : Nat} {A B C : World} (h : Kp n₀ A B) (k : Kp n₀ B C) : Kp n₀ A C := ⟨h.1.trans k.1, h.2.trans k.2⟩
theorem kp_b {n₀ : Nat} {w : World} (hn : n₀ ≤ w.heap.size) (W : World) (l : Nat) (o o' : Obj) (hl : w.heap.size ≤ l) (h : W.heap[l]? = some o) (hc : o.isCells = false) (hw : o.isWalk = false) : Kp n₀ W (W.putObj l o') := by
  refine ⟨belowK_b hn W l o o' hl h hc hw, fun b q hb hq => ?_⟩
  have hne : b ≠ l := by
    rintro rfl
    rw [h] at hb
    cases hb
    obtain ⟨cs, ⟨rfl, _⟩ | rfl⟩ := hq <;> simp [Obj.isCells] at hc
  have hg := grownBy_putObj' W l o'
  exact (hg.block b (lt_of_block hb) (by simpa using hne)).trans hb

/-- What is left of one extent. -/
def left1 (f t : Int) (x : X) : List X :=
  (if x.lba < f then [⟨x.lba, min (x.lba + x.num) f - x.lba, x.pos⟩] else []) ++
  (if t < x.lba + x.num then [⟨max x.lba t, x.lba + x.num - max x.lba t, x.pos + max x.lba t - x.lba⟩] else [])
def leftF (f t : Int) (l : List X) : List X := l.flatMap (left1 f t)
theorem left1_length (f t : Int) (x : X) : (left1 f t x).length ≤ 2 := by
  unfold left1
  split <;> split <;> simp
theorem leftF_length (f t : Int) (l : List X) : (leftF f t l).length ≤ 2 * l.length := by
  induction l with
  | nil => simp [leftF]
  | cons x l ih =>
    have h1 := left1_length f t x
    simp only [leftF, List.flatMap_cons, List.length_append, List.length_cons] at ih ⊢
    omega
theorem leftF_take {l : List X} {k : Nat} {x : X} (hx : l[k]? = some x) (f t : Int) : leftF f t (l.take (k + 1)) = leftF f t (l.take k) ++ left1 f t x := by
  rw [take_succ_of hx]
  simp [leftF]

set_option maxRecDepth 100000 in
set_option maxHeartbeats 4000000 in
theorem left1_in (F : Fence) (n : Nat) (h40 : F.fn 40) (hro : F.round = none) (hn : 1 ≤ n) (lo Bs Bf Bt n₀ b off cap len : Nat) (l : List X) (hlen : l.length = len) (hsz : len ≤ 4096) (hone : ∀ (k : Nat) (x : X), l[k]? = some x → One x) (f t : Int) (hf : 0 ≤ f ∧ f ≤ 8192) (ht : 0 ≤ t ∧ t ≤ 8192) (hb : b < n₀) (W : World) (hn₀W : n₀ ≤ W.heap.size) (J Jx : List X → World → Prop)
    (hJ : AbidesFrom W.heap.size J)
    (hY : ∀ pre x W, J pre W → pre.length < 2 * len → YieldAt F (n - 1) Try.prog lo #[x.agg] W fun e W' =>
      (e = .returned (.bool true) ∧ J (pre ++ [x]) W' ∧ Kp n₀ W W') ∨ (e = .returned (.bool false) ∧ Jx (pre ++ [x]) W'))
    (hBs : W.cell? ⟨Bs, 0, none⟩ = some (.slice (some ⟨b, off, none⟩) len cap)) (hBf : W.heap[Bf]? = some (.cells #[.int .i64 f] 3 (0, 0))) (hBt : W.heap[Bt]? = some (.cells #[.int .i64 t] 3 (0, 0)))
    (hc : ∀ (k : Nat) (x : X), l[k]? = some x → At3 W b (off + k * 3) x) (h0 : J [] W) :
    CallsIn F n Try.prog 40 #[.func (.yield lo) #[] #[], .pointer (some ⟨Bs, 0, none⟩), .pointer (some ⟨Bf, 0, none⟩), .pointer (some ⟨Bt, 0, none⟩)] W fun e W' => (∃ v, e = .returned v) ∧
      ((∃ ys, ys = leftF f t l ∧ J ys W') ∨ (∃ pre, True ∧ Jx pre W')) := by
  have hYh := Lib.hid hY
  have hJh := Lib.hid hJ
  have hch := Lib.hid hc
  have honeh := Lib.hid hone
  have hlenh := Lib.hid hlen
  have hBf' := Lib.hid hBf
  have hBt' := Lib.hid hBt
  clear hY hJ hc hone hlen hBf hBt
  refine callsIn_of_wp Try.func40 rfl h40 ?_ hro
  simp only [Try.ntmps40, List.size_toArray, List.length_cons, List.length_nil, Nat.reduceAdd, Nat.reduceSub, Array.replicate_succ, Array.replicate_zero, List.push_toArray, List.append_toArray, List.nil_append, List.cons_append]
  gi_wp2
  gi_loopw [11] (fun i wr => ∃ k : Nat, k ≤ len ∧ i = .int .i64 k ∧ J (leftF f t (l.take k)) wr ∧ Below n₀ W wr ∧ FixKept W wr)
    (fun i _ => len - (intOf i).toNat)
  case atStart => exact ⟨0, Nat.zero_le _, rfl, h0, Below.refl _ _, FixKept.refl _⟩
  case round =>
    obtain ⟨k, hk, rfl, hJs, hB, hFx⟩ := hrel
    by_cases hlt : k < len
    · have hkl : k < l.length := by have h2 : l.length = len := hlenh; omega
      obtain ⟨x, hx⟩ : ∃ x, l[k]? = some x := ⟨_, List.getElem?_eq_getElem hkl⟩
      have hcx := (hch k x hx).below hB hb
      have hxo := honeh k x hx
      have hx' := Lib.hid hx
      clear hx
      have c0 := hcx.c0
      have c1 := hcx.c1
      have c2 := hcx.c2
      have hbf : wr.cell? ⟨Bf, 0, none⟩ = some (.int .i64 f) := by
        have h1 := hFx Bf _ hBf' ⟨_, .inr rfl⟩
        simp [World.cell?, h1]
      have hbt : wr.cell? ⟨Bt, 0, none⟩ = some (.int .i64 t) := by
        have h1 := hFx Bt _ hBt' ⟨_, .inr rfl⟩
        simp [World.cell?, h1]
      obtain ⟨a, m, p⟩ := x
      unfold One at hxo
      dsimp only at *
      obtain ⟨o1, o2, o3, o4, o5, o6⟩ := hxo
      have hbfl : Bf < wr.heap.size := lt_of_block (hFx Bf _ hBf' ⟨_, .inr rfl⟩)
      have hbtl : Bt < wr.heap.size := lt_of_block (hFx Bt _ hBt' ⟨_, .inr rfl⟩)
      have hstep' := leftF_take (show l[k]? = some _ from hx') f t
      have hstep := Lib.hid hstep'
      clear hstep'
      have hkn := leftF_length f t (l.take k)
      rw [List.length_take_of_le (by omega)] at hkn
      have hl1 : (leftF f t (l.take k)).length < 2 * len := by omega
      have hB1 := hB.alloc (Nat.le_trans (by have := hn₀W; exact this) hB.size) (.cells #[.int .i64 a, .int .i64 m, .int .i64 p] 32)
      have hFx1 := hFx.alloc (.cells #[.int .i64 a, .int .i64 m, .int .i64 p] 32)
      have hJ1 := hJh _ _ _ none hJs (World.grownBy_alloc wr (.cells #[.int .i64 a, .int .i64 m, .int .i64 p] 32) none) (by simp)
      by_cases e1 : a < f
      · by_cases e2 : a + m ≤ f
        · have hmn : min (a + m) f = a + m := by omega
          obtain ⟨fn1, tmps1, assign1, body1, hy1, hR1⟩ := hYh _ (⟨a, a + m - a, p⟩ : X) _ hJ1 hl1
          dsimp only [X.agg] at hy1
          gi_wp2
          refine hR1.mono ?_
          rintro e w3 (⟨rfl, hJ3, hk3⟩ | ⟨rfl, hJx3⟩)
          · have hbx := hk3.2 wr.heap.size _ (heap_alloc_new wr _) ⟨_, .inl ⟨rfl, rfl⟩⟩
            have hB3 := hB1.trans hk3.1
            have hFx3 := hFx1.trans hk3.2
            have d0 : w3.cell? ⟨wr.heap.size, 0, none⟩ = some (.int .i64 a) := by simp only [World.cell?, hbx]; rfl
            have d1 : w3.cell? ⟨wr.heap.size, 1, none⟩ = some (.int .i64 m) := by simp only [World.cell?, hbx]; rfl
            have d2 : w3.cell? ⟨wr.heap.size, 2, none⟩ = some (.int .i64 p) := by simp only [World.cell?, hbx]; rfl
            have hbf3 : w3.cell? ⟨Bf, 0, none⟩ = some (.int .i64 f) := by
              have h1 := hFx3 Bf _ hBf' ⟨_, .inr rfl⟩
              simp only [World.cell?, h1]; rfl
            have hbt3 : w3.cell? ⟨Bt, 0, none⟩ = some (.int .i64 t) := by
              have h1 := hFx3 Bt _ hBt' ⟨_, .inr rfl⟩
              simp only [World.cell?, h1]; rfl
            have hl3 : (leftF f t (l.take k) ++ [(⟨a, a + m - a, p⟩ : X)]).length < 2 * len := by rw [List.length_append]; simp only [List.length_cons, List.length_nil]; omega
            have hbx' := Lib.hid hbx
            clear hbx
            by_cases e3 : t < a + m
            · by_cases e4 : a < t
              · have hmx : max a t = t := by omega
                obtain ⟨fn2, tmps2, assign2, body2, hy2, hR2⟩ := hYh (leftF f t (l.take k) ++ [(⟨a, a + m - a, p⟩ : X)]) (⟨t, a + m - t, p + t - a⟩ : X) w3 hJ3 hl3
                dsimp only [X.agg] at hy2
                have heq := Lib.hid (show leftF f t (l.take (k + 1)) = (leftF f t (l.take k) ++ [(⟨a, a + m - a, p⟩ : X)]) ++ [(⟨t, a + m - t, p + t - a⟩ : X)] from by
                  rw [hstep]; unfold left1; simp only [if_pos e1, hmn, if_pos e3, hmx, List.append_assoc, List.nil_append, List.singleton_append])
                gi_wp2
                refine hR2.mono ?_
                rintro e w4 (⟨rfl, hJ4, hk4⟩ | ⟨rfl, hJx4⟩)
                · gi_wp2
                  go_roundw
                  case rel => exact ⟨k + 1, by omega, by simp, by rw [show leftF f t (l.take (k + 1)) = _ from heq]; exact hJ4, hB3.trans hk4.1, hFx3.trans hk4.2⟩
                  case measure => simp [intOf]; omega
                · gi_wp2
                  refine bodyPost_ret (results_none rfl _ _ _) rfl ?_
                  exact ⟨⟨_, rfl⟩, .inr ⟨_, trivial, hJx4⟩⟩
              · have hmx : max a t = a := by omega
                obtain ⟨fn2, tmps2, assign2, body2, hy2, hR2⟩ := hYh (leftF f t (l.take k) ++ [(⟨a, a + m - a, p⟩ : X)]) (⟨a, a + m - a, p⟩ : X) w3 hJ3 hl3
                dsimp only [X.agg] at hy2
                have heq := Lib.hid (show leftF f t (l.take (k + 1)) = (leftF f t (l.take k) ++ [(⟨a, a + m - a, p⟩ : X)]) ++ [(⟨a, a + m - a, p⟩ : X)] from by
                  rw [hstep]; unfold left1; simp only [if_pos e1, hmn, if_pos e3, hmx, Int.add_sub_cancel, List.append_assoc, List.nil_append, List.singleton_append])
                gi_wp2
                refine hR2.mono ?_
                rintro e w4 (⟨rfl, hJ4, hk4⟩ | ⟨rfl, hJx4⟩)
                · gi_wp2
                  go_roundw
                  case rel => exact ⟨k + 1, by omega, by simp, by rw [show leftF f t (l.take (k + 1)) = _ from heq]; exact hJ4, hB3.trans hk4.1, hFx3.trans hk4.2⟩
                  case measure => simp [intOf]; omega
                · gi_wp2
                  refine bodyPost_ret (results_none rfl _ _ _) rfl ?_
                  exact ⟨⟨_, rfl⟩, .inr ⟨_, trivial, hJx4⟩⟩
            · have heq := Lib.hid (show leftF f t (l.take (k + 1)) = leftF f t (l.take k) ++ [(⟨a, a + m - a, p⟩ : X)] from by
                rw [hstep]; unfold left1; simp only [if_pos e1, hmn, if_neg e3, List.append_assoc, List.nil_append, List.append_nil, List.singleton_append])
              gi_wp2
              go_roundw
              case rel => exact ⟨k + 1, by omega, by simp, by rw [show leftF f t (l.take (k + 1)) = _ from heq]; exact hJ3, hB3, hFx3⟩
              case measure => simp [intOf]; omega
          · gi_wp2
            refine bodyPost_ret (results_none rfl _ _ _) rfl ?_
            exact ⟨⟨_, rfl⟩, .inr ⟨_, trivial, hJx3⟩⟩
        · have hmn : min (a + m) f = f := by omega
          obtain ⟨fn1, tmps1, assign1, body1, hy1, hR1⟩ := hYh _ (⟨a, f - a, p⟩ : X) _ hJ1 hl1
          dsimp only [X.agg] at hy1
          gi_wp2
          refine hR1.mono ?_
          rintro e w3 (⟨rfl, hJ3, hk3⟩ | ⟨rfl, hJx3⟩)
          · have hbx := hk3.2 wr.heap.size _ (heap_alloc_new wr _) ⟨_, .inl ⟨rfl, rfl⟩⟩
            have hB3 := hB1.trans hk3.1
            have hFx3 := hFx1.trans hk3.2
            have d0 : w3.cell? ⟨wr.heap.size, 0, none⟩ = some (.int .i64 a) := by simp only [World.cell?, hbx]; rfl
            have d1 : w3.cell? ⟨wr.heap.size, 1, none⟩ = some (.int .i64 m) := by simp only [World.cell?, hbx]; rfl
            have d2 : w3.cell? ⟨wr.heap.size, 2, none⟩ = some (.int .i64 p) := by simp only [World.cell?, hbx]; rfl
            have hbf3 : w3.cell? ⟨Bf, 0, none⟩ = some (.int .i64 f) := by
              have h1 := hFx3 Bf _ hBf' ⟨_, .inr rfl⟩
              simp only [World.cell?, h1]; rfl
            have hbt3 : w3.cell? ⟨Bt, 0, none⟩ = some (.int .i64 t) := by
              have h1 := hFx3 Bt _ hBt' ⟨_, .inr rfl⟩
              simp only [World.cell?, h1]; rfl
            have hl3 : (leftF f t (l.take k) ++ [(⟨a, f - a, p⟩ : X)]).length < 2 * len := by rw [List.length_append]; simp only [List.length_cons, List.length_nil]; omega
            have hbx' := Lib.hid hbx
            clear hbx
            by_cases e3 : t < a + m
            · by_cases e4 : a < t
              · have hmx : max a t = t := by omega
                obtain ⟨fn2, tmps2, assign2, body2, hy2, hR2⟩ := hYh (leftF f t (l.take k) ++ [(⟨a, f - a, p⟩ : X)]) (⟨t, a + m - t, p + t - a⟩ : X) w3 hJ3 hl3
                dsimp only [X.agg] at hy2
                have heq := Lib.hid (show leftF f t (l.take (k + 1)) = (leftF f t (l.take k) ++ [(⟨a, f - a, p⟩ : X)]) ++ [(⟨t, a + m - t, p + t - a⟩ : X)] from by
                  rw [hstep]; unfold left1; simp only [if_pos e1, hmn, if_pos e3, hmx, List.append_assoc, List.nil_append, List.singleton_append])
                gi_wp2
                refine hR2.mono ?_
                rintro e w4 (⟨rfl, hJ4, hk4⟩ | ⟨rfl, hJx4⟩)
                · gi_wp2
                  go_roundw
                  case rel => exact ⟨k + 1, by omega, by simp, by rw [show leftF f t (l.take (k + 1)) = _ from heq]; exact hJ4, hB3.trans hk4.1, hFx3.trans hk4.2⟩
                  case measure => simp [intOf]; omega
                · gi_wp2
                  refine bodyPost_ret (results_none rfl _ _ _) rfl ?_
                  exact ⟨⟨_, rfl⟩, .inr ⟨_, trivial, hJx4⟩⟩
              · have hmx : max a t = a := by omega
                obtain ⟨fn2, tmps2, assign2, body2, hy2, hR2⟩ := hYh (leftF f t (l.take k) ++ [(⟨a, f - a, p⟩ : X)]) (⟨a, a + m - a, p⟩ : X) w3 hJ3 hl3
                dsimp only [X.agg] at hy2
                have heq := Lib.hid (show leftF f t (l.take (k + 1)) = (leftF f t (l.take k) ++ [(⟨a, f - a, p⟩ : X)]) ++ [(⟨a, a + m - a, p⟩ : X)] from by
                  rw [hstep]; unfold left1; simp only [if_pos e1, hmn, if_pos e3, hmx, Int.add_sub_cancel, List.append_assoc, List.nil_append, List.singleton_append])
                gi_wp2
                refine hR2.mono ?_
                rintro e w4 (⟨rfl, hJ4, hk4⟩ | ⟨rfl, hJx4⟩)
                · gi_wp2
                  go_roundw
                  case rel => exact ⟨k + 1, by omega, by simp, by rw [show leftF f t (l.take (k + 1)) = _ from heq]; exact hJ4, hB3.trans hk4.1, hFx3.trans hk4.2⟩
                  case measure => simp [intOf]; omega
                · gi_wp2
                  refine bodyPost_ret (results_none rfl _ _ _) rfl ?_
                  exact ⟨⟨_, rfl⟩, .inr ⟨_, trivial, hJx4⟩⟩
            · have heq := Lib.hid (show leftF f t (l.take (k + 1)) = leftF f t (l.take k) ++ [(⟨a, f - a, p⟩ : X)] from by
                rw [hstep]; unfold left1; simp only [if_pos e1, hmn, if_neg e3, List.append_assoc, List.nil_append, List.append_nil, List.singleton_append])
              gi_wp2
              go_roundw
              case rel => exact ⟨k + 1, by omega, by simp, by rw [show leftF f t (l.take (k + 1)) = _ from heq]; exact hJ3, hB3, hFx3⟩
              case measure => simp [intOf]; omega
          · gi_wp2
            refine bodyPost_ret (results_none rfl _ _ _) rfl ?_
            exact ⟨⟨_, rfl⟩, .inr ⟨_, trivial, hJx3⟩⟩
      · have hJ3 := hJ1
        have hl3 := hl1
        have hB3 := hB1
        have hFx3 := hFx1
        by_cases e3 : t < a + m
        · by_cases e4 : a < t
          · have hmx : max a t = t := by omega
            obtain ⟨fn2, tmps2, assign2, body2, hy2, hR2⟩ := hYh _ (⟨t, a + m - t, p + t - a⟩ : X) _ hJ3 hl3
            dsimp only [X.agg] at hy2
            have heq := Lib.hid (show leftF f t (l.take (k + 1)) = (leftF f t (l.take k)) ++ [(⟨t, a + m - t, p + t - a⟩ : X)] from by
              rw [hstep]; unfold left1; simp only [if_neg e1, if_pos e3, hmx, List.append_assoc, List.nil_append, List.singleton_append])
            gi_wp2
            refine ⟨fun _ h => (by cases h), ?_⟩
            gi_wp2
            refine hR2.mono ?_
            rintro e w4 (⟨rfl, hJ4, hk4⟩ | ⟨rfl, hJx4⟩)
            · gi_wp2
              go_roundw
              case rel => exact ⟨k + 1, by omega, by simp, by rw [show leftF f t (l.take (k + 1)) = _ from heq]; exact hJ4, hB3.trans hk4.1, hFx3.trans hk4.2⟩
              case measure => simp [intOf]; omega
            · gi_wp2
              refine bodyPost_ret (results_none rfl _ _ _) rfl ?_
              exact ⟨⟨_, rfl⟩, .inr ⟨_, trivial, hJx4⟩⟩
          · have hmx : max a t = a := by omega
            obtain ⟨fn2, tmps2, assign2, body2, hy2, hR2⟩ := hYh _ (⟨a, a + m - a, p⟩ : X) _ hJ3 hl3
            dsimp only [X.agg] at hy2
            have heq := Lib.hid (show leftF f t (l.take (k + 1)) = (leftF f t (l.take k)) ++ [(⟨a, a + m - a, p⟩ : X)] from by
              rw [hstep]; unfold left1; simp only [if_neg e1, if_pos e3, hmx, Int.add_sub_cancel, List.append_assoc, List.nil_append, List.singleton_append])
            gi_wp2
            refine ⟨fun _ h => (by cases h), ?_⟩
            gi_wp2
            refine hR2.mono ?_
            rintro e w4 (⟨rfl, hJ4, hk4⟩ | ⟨rfl, hJx4⟩)
            · gi_wp2
              go_roundw
              case rel => exact ⟨k + 1, by omega, by simp, by rw [show leftF f t (l.take (k + 1)) = _ from heq]; exact hJ4, hB3.trans hk4.1, hFx3.trans hk4.2⟩
              case measure => simp [intOf]; omega
            · gi_wp2
              refine bodyPost_ret (results_none rfl _ _ _) rfl ?_
              exact ⟨⟨_, rfl⟩, .inr ⟨_, trivial, hJx4⟩⟩
        · have heq := Lib.hid (show leftF f t (l.take (k + 1)) = leftF f t (l.take k) from by
            rw [hstep]; unfold left1; simp only [if_neg e1, if_neg e3, List.append_assoc, List.nil_append, List.append_nil, List.singleton_append])
          gi_wp2
          refine ⟨fun _ h => (by cases h), ?_⟩
          gi_wp2
          go_roundw
          case rel => exact ⟨k + 1, by omega, by simp, by rw [show leftF f t (l.take (k + 1)) = _ from heq]; exact hJ3, hB3, hFx3⟩
          case measure => simp [intOf]; omega
    · obtain rfl : k = len := by omega
      have hfin : l.take k = l := List.take_of_length_le (by have h2 : l.length = k := hlenh; omega)
      rw [hfin] at hJs
      clear hfin
      gi_wp2
      go_end0
      exact ⟨⟨_, rfl⟩, .inl ⟨_, rfl, hJs⟩⟩

end Go.Proofs.Ytplplojhgiaabaa
