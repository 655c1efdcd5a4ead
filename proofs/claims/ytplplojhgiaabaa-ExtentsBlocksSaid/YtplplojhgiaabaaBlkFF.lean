/- What was set is found block by block: the law walked, one of four ways. -/
import Derived.Test.YtplplojhgiaabaaBlk
set_option linter.unusedVariables false
set_option linter.unusedSimpArgs false
set_option linter.unnecessarySimpa false
namespace Go.Proofs.Ytplplojhgiaabaa
open Go.RowKit

set_option maxRecDepth 100000 in
set_option maxHeartbeats 16000000 in
theorem blocks_ff (l : List X) (hl : ∀ x ∈ l, x.Ok) (hn : l.length ≤ 10000000000000) (v : Value) (w : World) (h : Lies w v l) (x : X) (hx : x.Ok) (ra rm : Int) (hra : fits ra) (hrm : fits rm) :
    big l.length = false → Good l → ¬ One x → ¬ Cut ra rm →
    Calls Try.prog 6 #[v, x.agg, .agg #[.int .i64 ra, .int .i64 rm]] w fun e w' => e = .returned (.bool true) ∧ Below w.heap.size w w' := by
  intro hbg0 hg hox hoy
  obtain ⟨W0, hW0⟩ : ∃ W0, W0 = (w.alloc (.cells #[.int .i64 x.lba, .int .i64 x.num, .int .i64 x.pos] 32)).alloc (.cells #[.int .i64 ra, .int .i64 rm] 38) := ⟨_, rfl⟩
  have hB0 : Below w.heap.size w W0 := by rw [hW0]; exact ((Below.refl _ w).alloc (Nat.le_refl _) _).alloc (by simp) _
  have hz0 : W0.heap.size = w.heap.size + 1 + 1 := by rw [hW0]; simp
  have b0 : W0.heap[w.heap.size]? = some (.cells #[.int .i64 x.lba, .int .i64 x.num, .int .i64 x.pos] 32 (0, 0)) := by
    rw [hW0, heap_alloc_old _ _ (by simp)]; exact heap_alloc_new w _
  have b1 : W0.heap[w.heap.size + 1]? = some (.cells #[.int .i64 ra, .int .i64 rm] 38 (0, 0)) := by
    rw [hW0]
    have := heap_alloc_new (w.alloc (.cells #[.int .i64 x.lba, .int .i64 x.num, .int .i64 x.pos] 32)) (.cells #[.int .i64 ra, .int .i64 rm] 38)
    rw [World.size_alloc] at this
    exact this
  have box : ∀ W, Below W0.heap.size W0 W → Box5 W w.heap.size x ra rm := by
    intro W hB
    have e0 := (hB.block w.heap.size (by omega)).trans b0
    have e1 := (hB.block (w.heap.size + 1) (by omega)).trans b1
    refine ⟨?_, ?_, ?_, ?_, ?_⟩ <;> (first | (simp only [World.cell?, e0]; rfl) | (simp only [World.cell?, e1]; rfl))
  have boxh := Lib.hid box
  have hL0 := Lies.below h hB0 (Nat.le_refl _)
  have cL := Lib.hid (large_any l hn v W0 hL0)
  obtain ⟨va, vl, vc, rfl⟩ := lies_slice h
  rw [hbg0] at cL
  have hW := Lib.hid wakes_any
  obtain ⟨xa, xm, xp⟩ := x
  dsimp only at hW0
  simp only [X.agg]
  have hn5 := big_no hbg0
  have cG := Lib.hid (goodRef_any l hl (by omega) _ W0 hL0 true (by simp [hg]))
  have hL0' := Lib.hid hL0
  have cE := Lib.hid (fun (v : Value) (w : World) (h : Lies w v l) => few_any l (by omega) v w h)
  have cS := fun (v : Value) (w : World) (h : Lies w v l) => set_say l hl (by omega) ⟨xa, xm, xp⟩ hx v w h
  have cT := fun (v : Value) (w : World) (h : Lies w v l) => drop_say l hl (by omega) ra rm hra hrm v w h
  have cR := Lib.hid (fun (q : Int) (hq : fits q) (v : Value) (w : World) (h : Lies w v l) => findRef_any l hl (by omega) v w h true (by simp [hg]) q hq)
  have oks : setOk l ⟨xa, xm, xp⟩ = decide (One ⟨xa, xm, xp⟩) := by unfold setOk; simp [hg]
  have okt : dropOk l ra rm = decide (Cut ra rm) := by unfold dropOk; simp [hg]
  unfold answer at cS cT
  simp only [X.agg] at cS cT
  rw [oks] at cS
  rw [okt] at cT
  have lkA : One ⟨xa, xm, xp⟩ → ∀ j : Int, look (setOut l ⟨xa, xm, xp⟩) j = if xa ≤ j ∧ j < xa + xm then some (xp + j - xa) else look l j := fun ho j => setOut_look hg ho j
  have lkC : Cut ra rm → ∀ j : Int, look (dropOut l ra rm) j = if ra ≤ j ∧ j < ra + rm then none else look l j := fun hc j => dropOut_look hg hc j
  have lkr : ∀ (j p : Int), look l j = some p → 0 ≤ p ∧ p < 8192 := fun j p h => (look_range hg h).2.2
  have gA := setOut_good l ⟨xa, xm, xp⟩
  have gC := dropOut_good l ra rm
  generalize setOut l ⟨xa, xm, xp⟩ = A at cS lkA gA
  generalize dropOut l ra rm = C at cT lkC gC
  have cEA := Lib.hid (fun (v : Value) (w : World) (h : Lies w v A) => few_any A (by have := gA.1; omega) v w h)
  have cEC := Lib.hid (fun (v : Value) (w : World) (h : Lies w v C) => few_any C (by have := gC.1; omega) v w h)
  have cGA := Lib.hid (fun (v : Value) (w : World) (h : Lies w v A) => good_any A gA.oks (by have := gA.1; omega) v w h true (by simp [gA]))
  have cGC := Lib.hid (fun (v : Value) (w : World) (h : Lies w v C) => good_any C gC.oks (by have := gC.1; omega) v w h true (by simp [gC]))
  have cFA := Lib.hid (fun (q : Int) (hq : fits q) (v : Value) (w : World) (h : Lies w v A) => find_any A gA.oks (by have := gA.1; omega) v w h true (by simp [gA]) q hq)
  have cFC := Lib.hid (fun (q : Int) (hq : fits q) (v : Value) (w : World) (h : Lies w v C) => find_any C gC.oks (by have := gC.1; omega) v w h true (by simp [gC]) q hq)
  have lkA' := Lib.hid lkA
  have lkC' := Lib.hid lkC
  have lkr' := Lib.hid lkr
  clear hbg0 hl h b0 b1 box hL0 oks okt lkA lkC lkr gA gC hg
  have dx : decide (One ⟨xa, xm, xp⟩) = false := by simp [hox]
  rw [dx] at cS
  have dy : decide (Cut ra rm) = false := by simp [hoy]
  rw [dy] at cT
  clear dx dy
  have cS' := Lib.hid cS
  have cT' := Lib.hid cT
  clear cS cT
  simp only [if_true, Bool.false_eq_true, if_false] at cS' cT'
  go_enter Try.func6, Try.ntmps6
  go_wp2_with fail
  rw [← hW0]
  clear hW0
  refine cL.mono ?_
  rintro e w1 ⟨rfl, rfl⟩
  go_wp2_with fail
  refine cG.mono ?_
  rintro e w2 ⟨rfl, hB2⟩
  have hL := Lib.hid (Lies.below hL0' hB2 (Nat.le_refl _))
  have hBd1 := below_drew hB2
  have hLd1 := Lib.hid (lies_drew hL)
  have hq1 := boxh _ hBd1
  have q0 := hq1.x0
  have q1 := hq1.x1
  have q2 := hq1.x2
  dsimp only at q0 q1 q2
  clear hq1
  go_wp2_with fail
  go_region_held3 (fun w' => w'.cell? ⟨w.heap.size, 0, none⟩ = some (.int .i64 xa) ∧ w'.cell? ⟨w.heap.size, 1, none⟩ = some (.int .i64 xm) ∧ w'.cell? ⟨w.heap.size, 2, none⟩ = some (.int .i64 xp))
    (first
      | exact ⟨q0, q1, q2⟩
      | (have hq := boxh _ (hBd1.trans (hBf1.mono hBd1.size)); exact ⟨hq.x0, hq.x1, hq.x2⟩)
      | (have hq := boxh _ ((hBd1.trans (hBf1.mono hBd1.size)).trans (hBg1.mono (hBd1.trans (hBf1.mono hBd1.size)).size)); exact ⟨hq.x0, hq.x1, hq.x2⟩))
    (first
      | (go_at_call 11; refine (cE _ _ hLd1).mono ?_; rintro e wf1 ⟨vf1, rfl, hE1, hBf1⟩)
      | (go_at_call 19; refine (cS' _ _ hE1).mono ?_; rintro e wg1 ⟨vg1, rfl, hS1, hBg1⟩))
  clear q0 q1 q2
  have hB_1 := (hBd1.trans (hBf1.mono hBd1.size)).trans (hBg1.mono (hBd1.trans (hBf1.mono hBd1.size)).size)
  have hL_1 := Lib.hid (Lies.below (Lies.below hLd1 hBf1 (Nat.le_refl _)) hBg1 (Nat.le_refl _))
  obtain ⟨ga1, gl1, gc1, rfl⟩ := lies_slice hS1
  have hS_1 := Lib.hid hS1
  clear hS1
  have hBd2 := below_drew hB_1
  have hL_1d2 := Lib.hid (lies_drew hL_1)
  have hS_1d2 := Lib.hid (lies_drew hS_1)
  have hq2 := boxh _ hBd2
  have q0 := hq2.y0
  have q1 := hq2.y1
  clear hq2
  go_wp2_with fail
  go_region_held3 (fun w' => w'.cell? ⟨w.heap.size + 1, 0, none⟩ = some (.int .i64 ra) ∧ w'.cell? ⟨w.heap.size + 1, 1, none⟩ = some (.int .i64 rm))
    (first
      | exact ⟨q0, q1⟩
      | (have hq := boxh _ (hBd2.trans (hBf2.mono hBd2.size)); exact ⟨hq.y0, hq.y1⟩)
      | (have hq := boxh _ ((hBd2.trans (hBf2.mono hBd2.size)).trans (hBg2.mono (hBd2.trans (hBf2.mono hBd2.size)).size)); exact ⟨hq.y0, hq.y1⟩))
    (first
      | (go_at_call 11; refine (cE _ _ hL_1d2).mono ?_; rintro e wf2 ⟨vf2, rfl, hE2, hBf2⟩)
      | (go_at_call 21; refine (cT' _ _ hE2).mono ?_; rintro e wg2 ⟨vg2, rfl, hS2, hBg2⟩))
  clear q0 q1
  have hB_2 := (hBd2.trans (hBf2.mono hBd2.size)).trans (hBg2.mono (hBd2.trans (hBf2.mono hBd2.size)).size)
  have hL_1_2 := Lib.hid (Lies.below (Lies.below hL_1d2 hBf2 (Nat.le_refl _)) hBg2 (Nat.le_refl _))
  have hS_1_2 := Lib.hid (Lies.below (Lies.below hS_1d2 hBf2 (Nat.le_refl _)) hBg2 (Nat.le_refl _))
  obtain ⟨ga2, gl2, gc2, rfl⟩ := lies_slice hS2
  have hS_2 := Lib.hid hS2
  clear hS2
  go_wp2
  go_loopw [11] (fun i wr => ∃ q : Nat, q ≤ 5000 ∧ i = .int .i64 q ∧ Lies wr (.slice va vl vc) l ∧ Lies wr (.slice ga1 gl1 gc1) A ∧ Lies wr (.slice ga2 gl2 gc2) C ∧ Below w1.heap.size w1 wr) (fun i _ => 4096 - (intOf i).toNat)
  case atStart => exact ⟨0, by omega, rfl, hL_1_2, hS_1_2, hS_2, hB_2⟩
  case round =>
    obtain ⟨q, hq, rfl, iL, iA, iC, iB⟩ := hrel
    have iL' := Lib.hid iL
    have iA' := Lib.hid iA
    have iC' := Lib.hid iC
    clear iL iA iC
    by_cases hlt : q < 4096
    · have hqf : fits (q : Int) := by unfold fits; omega
      obtain ⟨pv, pb, hpo⟩ : ∃ pv pb, found (look l q) = .tuple #[.int .i64 pv, .bool pb] := ⟨_, _, rfl⟩
      have kR := Lib.hid (cR q hqf _ wr iL')
      simp only [if_true] at kR
      rw [hpo] at kR
      have kR' := Lib.hid kR
      clear kR
      have hpo' := Lib.hid hpo
      clear hpo
      have bq := boxh _ iB
      have z0 := bq.x0
      have z1 := bq.x1
      have z2 := bq.x2
      have z3 := bq.y0
      have z4 := bq.y1
      dsimp only at z0 z1 z2
      clear bq z0 z1 z2 z3 z4
      go_wp2_with fail
      refine kR'.mono ?_
      rintro e u1 ⟨rfl, g1⟩
      have iB1 := iB.trans (g1.mono iB.size)
      have iL1 := Lib.hid (Lies.below iL' g1 (Nat.le_refl _))
      have iA1 := Lib.hid (Lies.below iA' g1 (Nat.le_refl _))
      have iC1 := Lib.hid (Lies.below iC' g1 (Nat.le_refl _))
      go_wp2
      all_goals first
        | (exfalso; omega)
        | exact ⟨⟨q + (1 + q / 64), by omega, by first | (simp; done) | (simp; omega), iL1, iA1, iC1, iB1⟩, by simp [intOf]; omega⟩
    · go_wp2_with fail
      refine (hW _).mono ?_
      rintro e w9 ⟨rfl, hB9⟩
      have hBB := hB0.trans ((iB.trans (hB9.mono iB.size)).mono hB0.size)
      go_wp2
      go_ret
      exact ⟨rfl, hBB⟩

end Go.Proofs.Ytplplojhgiaabaa
