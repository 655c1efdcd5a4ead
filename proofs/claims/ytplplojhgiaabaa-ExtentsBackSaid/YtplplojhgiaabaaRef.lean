/- Set and Drop, the page's. -/
import Derived.Test.YtplplojhgiaabaaGather
import Derived.Test.YtplplojhgiaabaaDrop
set_option linter.unusedVariables false
set_option linter.unusedSimpArgs false
set_option linter.unnecessarySimpa false
namespace Go.Proofs.Ytplplojhgiaabaa
open Go.RowKit

/-- The table behind Set, behind Drop. -/
def setT (x : X) (l : List X) (j : Nat) : Int := if x.lba ≤ j ∧ (j : Int) < x.lba + x.num then x.pos + j - x.lba + 1 else spreadF l j
def dropT (a m : Int) (l : List X) (j : Nat) : Int := if a ≤ j ∧ (j : Int) < a + m then 0 else spreadF l j
theorem setT_bound {x : X} {l : List X} (hg : Good l) (ho : One x) (j : Nat) : 0 ≤ setT x l j ∧ setT x l j ≤ 8192 := by
  have := spread_bound hg j
  unfold One at ho
  unfold setT
  split <;> omega
theorem dropT_bound {a m : Int} {l : List X} (hg : Good l) (j : Nat) : 0 ≤ dropT a m l j ∧ dropT a m l j ≤ 8192 := by
  have := spread_bound hg j
  unfold dropT
  split <;> omega

set_option maxRecDepth 100000 in
set_option maxHeartbeats 4000000 in
theorem setRef_no (l : List X) (hl : ∀ x ∈ l, x.Ok) (hn : l.length ≤ 1000000000) (v : Value) (w : World) (h : Lies w v l) (x : X) (hx : x.Ok) (hno : ¬ (Good l ∧ One x)) :
    Calls Try.prog 20 #[v, x.agg] w fun e w' => e = .returned (answer (.slice none 0 0) false) ∧ Below w.heap.size w w' := by
  have hgo' := Lib.hid (fun (w' : World) (h : Lies w' v l) (r : Bool) (hr : r = true ↔ Good l) => goodRef_any l hl hn v w' h r hr)
  have hal := Lib.hid (one_any x hx)
  obtain ⟨va, vl, vc, rfl⟩ := lies_slice h
  have hno' := Lib.hid hno
  have h' := Lib.hid h
  clear hl hno h
  obtain ⟨a, m, p⟩ := x
  simp only [X.agg] at *
  unfold answer
  have hB0 : Below w.heap.size w (w.alloc (.cells #[.int .i64 a, .int .i64 m, .int .i64 p] 32)) := (Below.refl _ w).alloc (Nat.le_refl _) _
  have hL0 := Lib.hid (Lies.below h' hB0 (Nat.le_refl _))
  by_cases hg : Good l
  · have hb : ¬ One ⟨a, m, p⟩ := fun hb => hno' ⟨hg, hb⟩
    have c1 := Lib.hid (hgo' _ hL0 true (by simp [hg]))
    have hdf : decide (One ⟨a, m, p⟩) = false := decide_eq_false hb
    rw [hdf] at hal
    have hal' := Lib.hid hal
    clear hal hgo' hg hb hdf hno'
    go_enter Try.func20, Try.ntmps20
    go_wp2_with fail
    refine c1.mono ?_
    rintro e w1 ⟨rfl, hB1⟩
    obtain ⟨k0, k1, k2⟩ := kept3 hB1
    have hB01 := below_alloc (Below.refl _ w) (Nat.le_refl _) hB1
    go_wp2_with fail
    refine (hal' _).mono ?_
    rintro e w2 ⟨rfl, hB2⟩
    have hB02 := hB01.trans (hB2.mono hB01.size)
    go_wp2
    go_ret2
    exact ⟨rfl, hB02⟩
  · have c1 := Lib.hid (hgo' _ hL0 false (by simp [hg]))
    clear hal hgo' hg hno'
    go_enter Try.func20, Try.ntmps20
    go_wp2_with fail
    refine c1.mono ?_
    rintro e w1 ⟨rfl, hB1⟩
    have hB01 := below_alloc (Below.refl _ w) (Nat.le_refl _) hB1
    go_wp2
    go_ret2
    exact ⟨rfl, hB01⟩

set_option maxRecDepth 100000 in
set_option maxHeartbeats 4000000 in
theorem setRef_yes (l : List X) (hn : l.length ≤ 4096) (v : Value) (w : World) (h : Lies w v l) (x : X) (hg : Good l) (ho : One x) :
    Calls Try.prog 20 #[v, x.agg] w fun e w' => ∃ v', e = .returned (answer v' true) ∧ Lies w' v' (gatherF (setT x l) 4096) ∧ Below w.heap.size w w' := by
  have hl : ∀ x ∈ l, x.Ok := by
    intro y hy
    have := hg.one_mem hy
    unfold One at this
    unfold X.Ok fits
    omega
  have hxo : x.Ok := by unfold One at ho; unfold X.Ok fits; omega
  have hal := one_any x hxo
  have hdt : decide (One x) = true := decide_eq_true ho
  rw [hdt] at hal
  obtain ⟨va, vl, vc, rfl⟩ := lies_slice h
  have cG := Lib.hid (fun (gb : Nat) (W : World) (hT : Tab W gb (setT x l)) => gather_any (setT x l) (setT_bound hg ho) gb W hT)
  have htd : ∀ j, setT x l j = if x.lba ≤ j ∧ (j : Int) < x.lba + x.num then x.pos + j - x.lba + 1 else spreadF l j := fun j => rfl
  generalize gatherF (setT x l) 4096 = G at cG ⊢
  generalize setT x l = T at cG htd
  have htd' := Lib.hid htd
  obtain ⟨a, m, p⟩ := x
  simp only [X.agg] at *
  unfold answer
  have hB0 : Below w.heap.size w (w.alloc (.cells #[.int .i64 a, .int .i64 m, .int .i64 p] 32)) := (Below.refl _ w).alloc (Nat.le_refl _) _
  have hL0 := Lies.below h hB0 (Nat.le_refl _)
  have c1 := Lib.hid (goodRef_any l hl (by omega) _ _ hL0 true (by simp [hg]))
  have cS := Lib.hid (fun (w1 : World) (hL : Lies w1 (.slice va vl vc) l) => spread_any l hg (.slice va vl vc) w1 hL)
  have hal' := Lib.hid hal
  have h' := Lib.hid h
  unfold One at ho
  dsimp only at ho
  obtain ⟨o1, o2, o3, o4, o5, o6⟩ := ho
  clear hal hl hL0 hg h hdt hxo htd
  obtain ⟨A, rfl⟩ : ∃ A : Nat, a = A := ⟨a.toNat, by omega⟩
  obtain ⟨M, rfl⟩ : ∃ M : Nat, m = M := ⟨m.toNat, by omega⟩
  go_enter Try.func20, Try.ntmps20
  go_wp2_with fail
  refine c1.mono ?_
  rintro e w1 ⟨rfl, hB1⟩
  obtain ⟨k0, k1, k2⟩ := kept3 hB1
  have hB01 := below_alloc (Below.refl _ w) (Nat.le_refl _) hB1
  have hlt1 : w.heap.size < w1.heap.size := by have := hB1.size; simp at this; omega
  go_wp2_with fail
  refine (hal' _).mono ?_
  rintro e w2 ⟨rfl, hB2⟩
  have hB02 := hB01.trans (hB2.mono hB01.size)
  have hlt2 : w.heap.size < w2.heap.size := by have := hB2.size; omega
  have hL2 := Lib.hid (Lies.below h' hB02 (Nat.le_refl _))
  go_wp2_with fail
  refine (cS _ hL2).mono ?_
  rintro e w3 ⟨g, rfl, hgw, hT, hB3⟩
  have hB03 := hB02.trans (hB3.mono hB02.size)
  have j0 := (hB3.cell (p := ⟨w.heap.size, 0, none⟩) hlt2).trans ((hB2.cell (p := ⟨w.heap.size, 0, none⟩) hlt1).trans k0)
  have j1 := (hB3.cell (p := ⟨w.heap.size, 1, none⟩) hlt2).trans ((hB2.cell (p := ⟨w.heap.size, 1, none⟩) hlt1).trans k1)
  have j2 := (hB3.cell (p := ⟨w.heap.size, 2, none⟩) hlt2).trans ((hB2.cell (p := ⟨w.heap.size, 2, none⟩) hlt1).trans k2)
  have hTh := Lib.hid hT
  have hgl := hT.lt
  have hgne : w.heap.size ≠ g := by omega
  clear k0 k1 k2 hB1 hB2 c1 hal' hT hL2 hB02 hB01
  go_wp2
  go_loopw [7] (fun i wr => ∃ q : Nat, q ≤ M ∧ i = .int .i64 q ∧ Tab wr g (fun j => if (A : Int) ≤ j ∧ (j : Int) < A + q then p + j - A + 1 else spreadF l j) ∧ Below w.heap.size w wr ∧ Below g w3 wr) (fun i _ => M - (intOf i).toNat)
  case atStart => exact ⟨0, Nat.zero_le _, rfl, (show Tab _ _ _ from hTh).congr fun j hj => by rw [if_neg (by omega)], hB03, Below.refl _ _⟩
  case round =>
    obtain ⟨q, hq, rfl, hT2, hB4, hBg⟩ := hrel
    have i0 := (hBg.cell (p := ⟨w.heap.size, 0, none⟩) (by show w.heap.size < g; omega)).trans j0
    have i1 := (hBg.cell (p := ⟨w.heap.size, 1, none⟩) (by show w.heap.size < g; omega)).trans j1
    have i2 := (hBg.cell (p := ⟨w.heap.size, 2, none⟩) (by show w.heap.size < g; omega)).trans j2
    by_cases hlq : q < M
    · have hAq : A + q < 4096 := by omega
      have t1 := hT2.cell hAq
      have t2 := hT2.free (A + q)
      have t3 := hT2.set hAq (p + q + 1)
      have t3' := Lib.hid t3
      obtain ⟨tv, htv⟩ : ∃ tv, wr.cell? ⟨g, A + q, none⟩ = some tv := ⟨_, t1⟩
      have hB5 := hB4.setCell (p := ⟨g, A + q, none⟩) (by show w.heap.size ≤ g; omega) (.int .i64 (p + q + 1))
      have hB6 := hBg.setCell (p := ⟨g, A + q, none⟩) (Nat.le_refl _) (.int .i64 (p + q + 1))
      clear hT2 t3 t1
      go_wp2
      go_roundw
      case rel =>
        refine ⟨q + 1, by omega, by simp, ?_, hB5, hB6⟩
        refine Tab.congr (f := fun j => if j = A + q then p + q + 1 else if (A : Int) ≤ j ∧ (j : Int) < A + q then p + j - A + 1 else spreadF l j) t3' fun j hj => ?_
        by_cases e : j = A + q
        · subst e
          rw [if_pos rfl, if_pos (by omega)]
          omega
        · rw [if_neg e]
          by_cases e2 : (A : Int) ≤ j ∧ (j : Int) < A + q
          · rw [if_pos e2, if_pos (by omega)]
          · rw [if_neg e2, if_neg (by omega)]
      case measure => simp [intOf]; omega
    · obtain rfl : q = M := by omega
      have hT3 : Tab wr g T := hT2.congr fun j hj => ((show ∀ j : Nat, T j = _ from htd') j).symm
      have cG' := Lib.hid (cG g wr hT3)
      clear hT2 hT3
      go_wp2_with fail
      refine cG'.mono ?_
      rintro e w5 ⟨v', rfl, hli, hB5⟩
      have hB05 := hB4.trans (hB5.mono hB4.size)
      go_wp2
      go_ret2
      exact ⟨v', rfl, hli, hB05⟩

set_option maxRecDepth 100000 in
set_option maxHeartbeats 4000000 in
theorem dropRef_no (l : List X) (hl : ∀ x ∈ l, x.Ok) (hn : l.length ≤ 1000000000) (v : Value) (w : World) (h : Lies w v l) (a m : Int) (ha : fits a) (hm : fits m) (hno : ¬ (Good l ∧ Cut a m)) :
    Calls Try.prog 22 #[v, .int .i64 a, .int .i64 m] w fun e w' => e = .returned (answer (.slice none 0 0) false) ∧ Below w.heap.size w w' := by
  obtain ⟨ha1, ha2⟩ := ha
  obtain ⟨hm1, hm2⟩ := hm
  unfold answer
  by_cases hg : Good l
  · have hc : ¬ Cut a m := fun hc => hno ⟨hg, hc⟩
    unfold Cut at hc
    have c1 := Lib.hid (goodRef_any l hl hn v w h true (by simp [hg]))
    obtain ⟨va, vl, vc, rfl⟩ := lies_slice h
    clear hno hg hl h
    go_enter Try.func22, Try.ntmps22
    go_wp2_with fail
    refine c1.mono ?_
    rintro e w1 ⟨rfl, hB1⟩
    go_wp2
    all_goals first
      | (exfalso; omega)
      | (go_ret2; exact ⟨rfl, hB1⟩)
  · have c1 := Lib.hid (goodRef_any l hl hn v w h false (by simp [hg]))
    obtain ⟨va, vl, vc, rfl⟩ := lies_slice h
    clear hno hg hl h
    go_enter Try.func22, Try.ntmps22
    go_wp2_with fail
    refine c1.mono ?_
    rintro e w1 ⟨rfl, hB1⟩
    go_wp2
    go_ret2
    exact ⟨rfl, hB1⟩

set_option maxRecDepth 100000 in
set_option maxHeartbeats 4000000 in
theorem dropRef_yes (l : List X) (hn : l.length ≤ 4096) (v : Value) (w : World) (h : Lies w v l) (a m : Int) (hg : Good l) (hcut : Cut a m) :
    Calls Try.prog 22 #[v, .int .i64 a, .int .i64 m] w fun e w' => ∃ v', e = .returned (answer v' true) ∧ Lies w' v' (gatherF (dropT a m l) 4096) ∧ Below w.heap.size w w' := by
  have hl : ∀ x ∈ l, x.Ok := by
    intro y hy
    have := hg.one_mem hy
    unfold One at this
    unfold X.Ok fits
    omega
  obtain ⟨va, vl, vc, rfl⟩ := lies_slice h
  have cG := Lib.hid (fun (gb : Nat) (W : World) (hT : Tab W gb (dropT a m l)) => gather_any (dropT a m l) (dropT_bound hg) gb W hT)
  have htd : ∀ j, dropT a m l j = if a ≤ j ∧ (j : Int) < a + m then 0 else spreadF l j := fun j => rfl
  generalize gatherF (dropT a m l) 4096 = G at cG ⊢
  generalize dropT a m l = T at cG htd
  have htd' := Lib.hid htd
  unfold answer
  have c1 := Lib.hid (goodRef_any l hl (by omega) _ _ h true (by simp [hg]))
  have cS := Lib.hid (fun (w1 : World) (hL : Lies w1 (.slice va vl vc) l) => spread_any l hg (.slice va vl vc) w1 hL)
  have h' := Lib.hid h
  unfold Cut at hcut
  obtain ⟨o1, o2, o3, o4⟩ := hcut
  clear hl hg h htd
  obtain ⟨A, rfl⟩ : ∃ A : Nat, a = A := ⟨a.toNat, by omega⟩
  obtain ⟨M, rfl⟩ : ∃ M : Nat, m = M := ⟨m.toNat, by omega⟩
  go_enter Try.func22, Try.ntmps22
  go_wp2_with fail
  refine c1.mono ?_
  rintro e w1 ⟨rfl, hB1⟩
  have hL2 := Lib.hid (Lies.below h' hB1 (Nat.le_refl _))
  go_wp2_with fail
  refine (cS _ hL2).mono ?_
  rintro e w3 ⟨g, rfl, hgw, hT, hB3⟩
  have hB03 := hB1.trans (hB3.mono hB1.size)
  have hB1z := hB1.size
  have hTh := Lib.hid hT
  have hgl := hT.lt
  clear c1 hT hL2 hB1
  go_wp2
  go_loopw [9] (fun i wr => ∃ q : Nat, q ≤ M ∧ i = .int .i64 q ∧ Tab wr g (fun j => if (A : Int) ≤ j ∧ (j : Int) < A + q then (0 : Int) else spreadF l j) ∧ Below w.heap.size w wr ∧ Below g w3 wr) (fun i _ => M - (intOf i).toNat)
  case atStart => exact ⟨0, Nat.zero_le _, rfl, (show Tab _ _ _ from hTh).congr fun j hj => by rw [if_neg (by omega)], hB03, Below.refl _ _⟩
  case round =>
    obtain ⟨q, hq, rfl, hT2, hB4, hBg⟩ := hrel
    by_cases hlq : q < M
    · have hAq : A + q < 4096 := by omega
      have t1 := hT2.cell hAq
      have t2 := hT2.free (A + q)
      have t3 := hT2.set hAq 0
      have t3' := Lib.hid t3
      obtain ⟨tv, htv⟩ : ∃ tv, wr.cell? ⟨g, A + q, none⟩ = some tv := ⟨_, t1⟩
      have hB5 := hB4.setCell (p := ⟨g, A + q, none⟩) (by show w.heap.size ≤ g; omega) (.int .i64 0)
      have hB6 := hBg.setCell (p := ⟨g, A + q, none⟩) (Nat.le_refl _) (.int .i64 0)
      clear hT2 t3 t1
      go_wp2
      go_roundw
      case rel =>
        refine ⟨q + 1, by omega, by simp, ?_, hB5, hB6⟩
        refine Tab.congr (f := fun j => if j = A + q then 0 else if (A : Int) ≤ j ∧ (j : Int) < A + q then (0 : Int) else spreadF l j) t3' fun j hj => ?_
        by_cases e : j = A + q
        · subst e
          rw [if_pos rfl, if_pos (by omega)]
        · rw [if_neg e]
          by_cases e2 : (A : Int) ≤ j ∧ (j : Int) < A + q
          · rw [if_pos e2, if_pos (by omega)]
          · rw [if_neg e2, if_neg (by omega)]
      case measure => simp [intOf]; omega
    · obtain rfl : q = M := by omega
      have hT3 : Tab wr g T := hT2.congr fun j hj => ((show ∀ j : Nat, T j = _ from htd') j).symm
      have cG' := Lib.hid (cG g wr hT3)
      clear hT2 hT3
      go_wp2_with fail
      refine cG'.mono ?_
      rintro e w5 ⟨v', rfl, hli, hB5⟩
      have hB05 := hB4.trans (hB5.mono hB4.size)
      go_wp2
      go_ret2
      exact ⟨v', rfl, hli, hB05⟩

end Go.Proofs.Ytplplojhgiaabaa
