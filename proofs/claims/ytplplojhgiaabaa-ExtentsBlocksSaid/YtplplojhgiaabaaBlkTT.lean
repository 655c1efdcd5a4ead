/- What was set is found block by block: the law walked, one of four ways. -/
import Derived.Test.YtplplojhgiaabaaBlk
set_option linter.unusedVariables false
set_option linter.unusedSimpArgs false
set_option linter.unnecessarySimpa false
namespace Go.Proofs.Ytplplojhgiaabaa
open Go.RowKit

set_option maxRecDepth 100000 in
set_option maxHeartbeats 16000000 in
theorem blocks_tt (l : List X) (hl : ∀ x ∈ l, x.Ok) (hn : l.length ≤ 10000000000000) (v : Value) (w : World) (h : Lies w v l) (x : X) (hx : x.Ok) (ra rm : Int) (hra : fits ra) (hrm : fits rm) :
    big l.length = false → Good l → One x → Cut ra rm →
    Calls Try.prog 6 #[v, x.agg, .agg #[.int .i64 ra, .int .i64 rm]] w fun e w' => e = .returned (.bool true) ∧ Below w.heap.size w w' := by
  intro hbg0 hg hox hoy
  obtain ⟨W0, hW0⟩ : ∃ W0, W0 = (w.alloc (.cells #[.int .i64 x.lba, .int .i64 x.num, .int .i64 x.pos] 32)).alloc (.cells #[.int .i64 ra, .int .i64 rm] 38) := ⟨_, rfl⟩
  have hB0 : Below w.heap.size w W0 := by rw [hW0]; exact ((Below.refl _ w).alloc (Nat.le_refl _) _).alloc (by simp) _
  have hz0 : W0.heap.size = w.heap.size + 1 + 1 := by rw [hW0]; simp
  have b0 : W0.heap[w.heap.size]? = some (.cells #[.int .i64 x.lba, .int .i64 x.num, .int .i64 x.pos] 32 (0, 0)) := by
    rw [hW0, heap_alloc_old _ _ (by simp)]; exact heap_alloc_new w _
  have b1 : W0.heap[w.heap.size + 1]? = some (.cells #[.int .i64 ra, .int .i64 rm] 38 (0, 0)) := by
    rw [hW0]
    have := heap_alloc_new (w.alloc (.cells #[.int .i64 x.lba, .int .i64 x.num, .int .i64 x.pos] 32)) (.cells #[.int .i64 ra, .int .i64 rm] 38)
    rw [World.size_alloc] at this
    exact this
  have box : ∀ W, Below W0.heap.size W0 W → Box5 W w.heap.size x ra rm := by
    intro W hB
    have e0 := (hB.block w.heap.size (by omega)).trans b0
    have e1 := (hB.block (w.heap.size + 1) (by omega)).trans b1
    refine ⟨?_, ?_, ?_, ?_, ?_⟩ <;> (first | (simp only [World.cell?, e0]; rfl) | (simp only [World.cell?, e1]; rfl))
  have boxh := Lib.hid box
  have hL0 := Lies.below h hB0 (Nat.le_refl _)
  have cL := Lib.hid (large_any l hn v W0 hL0)
  obtain ⟨va, vl, vc, rfl⟩ := lies_slice h
  rw [hbg0] at cL
  have hW := Lib.hid wakes_any
  obtain ⟨xa, xm, xp⟩ := x
  dsimp only at hW0
  simp only [X.agg]
  have hn5 := big_no hbg0
  have cG := Lib.hid (goodRef_any l hl (by omega) _ W0 hL0 true (by simp [hg]))
  have hL0' := Lib.hid hL0
  have cE := Lib.hid (fun (v : Value) (w : World) (h : Lies w v l) => few_any l (by omega) v w h)
  have cS := fun (v : Value) (w : World) (h : Lies w v l) => set_say l hl (by omega) ⟨xa, xm, xp⟩ hx v w h
  have cT := fun (v : Value) (w : World) (h : Lies w v l) => drop_say l hl (by omega) ra rm hra hrm v w h
  have cR := Lib.hid (fun (q : Int) (hq : fits q) (v : Value) (w : World) (h : Lies w v l) => findRef_any l hl (by omega) v w h true (by simp [hg]) q hq)
  have oks : setOk l ⟨xa, xm, xp⟩ = decide (One ⟨xa, xm, xp⟩) := by unfold setOk; simp [hg]
  have okt : dropOk l ra rm = decide (Cut ra rm) := by unfold dropOk; simp [hg]
  unfold answer at cS cT
  simp only [X.agg] at cS cT
  rw [oks] at cS
  rw [okt] at cT
  have lkA : One ⟨xa, xm, xp⟩ → ∀ j : Int, look (setOut l ⟨xa, xm, xp⟩) j = if xa ≤ j ∧ j < xa + xm then some (xp + j - xa) else look l j := fun ho j => setOut_look hg ho j
  have lkC : Cut ra rm → ∀ j : Int, look (dropOut l ra rm) j = if ra ≤ j ∧ j < ra + rm then none else look l j := fun hc j => dropOut_look hg hc j
  have lkr : ∀ (j p : Int), look l j = some p → 0 ≤ p ∧ p < 8192 := fun j p h => (look_range hg h).2.2
  have gA := setOut_good l ⟨xa, xm, xp⟩
  have gC := dropOut_good l ra rm
  generalize setOut l ⟨xa, xm, xp⟩ = A at cS lkA gA
  generalize dropOut l ra rm = C at cT lkC gC
  have cEA := Lib.hid (fun (v : Value) (w : World) (h : Lies w v A) => few_any A (by have := gA.1; omega) v w h)
  have cEC := Lib.hid (fun (v : Value) (w : World) (h : Lies w v C) => few_any C (by have := gC.1; omega) v w h)
  have cGA := Lib.hid (fun (v : Value) (w : World) (h : Lies w v A) => good_any A gA.oks (by have := gA.1; omega) v w h true (by simp [gA]))
  have cGC := Lib.hid (fun (v : Value) (w : World) (h : Lies w v C) => good_any C gC.oks (by have := gC.1; omega) v w h true (by simp [gC]))
  have cFA := Lib.hid (fun (q : Int) (hq : fits q) (v : Value) (w : World) (h : Lies w v A) => find_any A gA.oks (by have := gA.1; omega) v w h true (by simp [gA]) q hq)
  have cFC := Lib.hid (fun (q : Int) (hq : fits q) (v : Value) (w : World) (h : Lies w v C) => find_any C gC.oks (by have := gC.1; omega) v w h true (by simp [gC]) q hq)
  have lkA' := Lib.hid lkA
  have lkC' := Lib.hid lkC
  have lkr' := Lib.hid lkr
  clear hbg0 hl h b0 b1 box hL0 oks okt lkA lkC lkr gA gC hg
  have dx : decide (One ⟨xa, xm, xp⟩) = true := by simp [hox]
  rw [dx] at cS
  have dy : decide (Cut ra rm) = true := by simp [hoy]
  rw [dy] at cT
  clear dx dy
  have cS' := Lib.hid cS
  have cT' := Lib.hid cT
  clear cS cT
  simp only [if_true, Bool.false_eq_true, if_false] at cS' cT'
  have lA := Lib.hid (lkA' hox)
  unfold One at hox
  dsimp only at hox
  obtain ⟨p1, p2, p3, p4, p5, p6⟩ := hox
  have lC := Lib.hid (lkC' hoy)
  unfold Cut at hoy
  obtain ⟨p7, p8, p9, p10⟩ := hoy
  go_enter Try.func6, Try.ntmps6
  go_wp2_with fail
  rw [← hW0]
  clear hW0
  refine cL.mono ?_
  rintro e w1 ⟨rfl, rfl⟩
  go_wp2_with fail
  refine cG.mono ?_
  rintro e w2 ⟨rfl, hB2⟩
  have hL := Lib.hid (Lies.below hL0' hB2 (Nat.le_refl _))
  have hBd1 := below_drew hB2
  have hLd1 := Lib.hid (lies_drew hL)
  have hq1 := boxh _ hBd1
  have q0 := hq1.x0
  have q1 := hq1.x1
  have q2 := hq1.x2
  dsimp only at q0 q1 q2
  clear hq1
  go_wp2_with fail
  go_region_held3 (fun w' => w'.cell? ⟨w.heap.size, 0, none⟩ = some (.int .i64 xa) ∧ w'.cell? ⟨w.heap.size, 1, none⟩ = some (.int .i64 xm) ∧ w'.cell? ⟨w.heap.size, 2, none⟩ = some (.int .i64 xp))
    (first
      | exact ⟨q0, q1, q2⟩
      | (have hq := boxh _ (hBd1.trans (hBf1.mono hBd1.size)); exact ⟨hq.x0, hq.x1, hq.x2⟩)
      | (have hq := boxh _ ((hBd1.trans (hBf1.mono hBd1.size)).trans (hBg1.mono (hBd1.trans (hBf1.mono hBd1.size)).size)); exact ⟨hq.x0, hq.x1, hq.x2⟩))
    (first
      | (go_at_call 11; refine (cE _ _ hLd1).mono ?_; rintro e wf1 ⟨vf1, rfl, hE1, hBf1⟩)
      | (go_at_call 19; refine (cS' _ _ hE1).mono ?_; rintro e wg1 ⟨vg1, rfl, hS1, hBg1⟩))
  clear q0 q1 q2
  have hB_1 := (hBd1.trans (hBf1.mono hBd1.size)).trans (hBg1.mono (hBd1.trans (hBf1.mono hBd1.size)).size)
  have hL_1 := Lib.hid (Lies.below (Lies.below hLd1 hBf1 (Nat.le_refl _)) hBg1 (Nat.le_refl _))
  obtain ⟨ga1, gl1, gc1, rfl⟩ := lies_slice hS1
  have hS_1 := Lib.hid hS1
  clear hS1
  have hBd2 := below_drew hB_1
  have hL_1d2 := Lib.hid (lies_drew hL_1)
  have hS_1d2 := Lib.hid (lies_drew hS_1)
  have hq2 := boxh _ hBd2
  have q0 := hq2.y0
  have q1 := hq2.y1
  clear hq2
  go_wp2_with fail
  go_region_held3 (fun w' => w'.cell? ⟨w.heap.size + 1, 0, none⟩ = some (.int .i64 ra) ∧ w'.cell? ⟨w.heap.size + 1, 1, none⟩ = some (.int .i64 rm))
    (first
      | exact ⟨q0, q1⟩
      | (have hq := boxh _ (hBd2.trans (hBf2.mono hBd2.size)); exact ⟨hq.y0, hq.y1⟩)
      | (have hq := boxh _ ((hBd2.trans (hBf2.mono hBd2.size)).trans (hBg2.mono (hBd2.trans (hBf2.mono hBd2.size)).size)); exact ⟨hq.y0, hq.y1⟩))
    (first
      | (go_at_call 11; refine (cE _ _ hL_1d2).mono ?_; rintro e wf2 ⟨vf2, rfl, hE2, hBf2⟩)
      | (go_at_call 21; refine (cT' _ _ hE2).mono ?_; rintro e wg2 ⟨vg2, rfl, hS2, hBg2⟩))
  clear q0 q1
  have hB_2 := (hBd2.trans (hBf2.mono hBd2.size)).trans (hBg2.mono (hBd2.trans (hBf2.mono hBd2.size)).size)
  have hL_1_2 := Lib.hid (Lies.below (Lies.below hL_1d2 hBf2 (Nat.le_refl _)) hBg2 (Nat.le_refl _))
  have hS_1_2 := Lib.hid (Lies.below (Lies.below hS_1d2 hBf2 (Nat.le_refl _)) hBg2 (Nat.le_refl _))
  obtain ⟨ga2, gl2, gc2, rfl⟩ := lies_slice hS2
  have hS_2 := Lib.hid hS2
  clear hS2
  go_wp2_with fail
  refine (cEA _ _ hS_1_2).mono ?_
  rintro e wm3 ⟨vm3, rfl, hm3, hBm3⟩
  obtain ⟨ma3, ml3, mc3, rfl⟩ := lies_slice hm3
  have hm3' := Lib.hid hm3
  clear hm3
  go_wp2_with fail
  refine (cGA _ _ hm3').mono ?_
  rintro e wn3 ⟨rfl, hBn3⟩
  have hB_3 := (hB_2.trans (hBm3.mono hB_2.size)).trans (hBn3.mono (hB_2.trans (hBm3.mono hB_2.size)).size)
  have hL_1_2_3 := Lib.hid (Lies.below (Lies.below hL_1_2 hBm3 (Nat.le_refl _)) hBn3 (Nat.le_refl _))
  have hS_1_2_3 := Lib.hid (Lies.below (Lies.below hS_1_2 hBm3 (Nat.le_refl _)) hBn3 (Nat.le_refl _))
  have hS_2_3 := Lib.hid (Lies.below (Lies.below hS_2 hBm3 (Nat.le_refl _)) hBn3 (Nat.le_refl _))
  go_wp2_with fail
  refine (cEC _ _ hS_2_3).mono ?_
  rintro e wm4 ⟨vm4, rfl, hm4, hBm4⟩
  obtain ⟨ma4, ml4, mc4, rfl⟩ := lies_slice hm4
  have hm4' := Lib.hid hm4
  clear hm4
  go_wp2_with fail
  refine (cGC _ _ hm4').mono ?_
  rintro e wn4 ⟨rfl, hBn4⟩
  have hB_4 := (hB_3.trans (hBm4.mono hB_3.size)).trans (hBn4.mono (hB_3.trans (hBm4.mono hB_3.size)).size)
  have hL_1_2_3_4 := Lib.hid (Lies.below (Lies.below hL_1_2_3 hBm4 (Nat.le_refl _)) hBn4 (Nat.le_refl _))
  have hS_1_2_3_4 := Lib.hid (Lies.below (Lies.below hS_1_2_3 hBm4 (Nat.le_refl _)) hBn4 (Nat.le_refl _))
  have hS_2_3_4 := Lib.hid (Lies.below (Lies.below hS_2_3 hBm4 (Nat.le_refl _)) hBn4 (Nat.le_refl _))
  go_wp2
  go_loopw [11] (fun i wr => ∃ q : Nat, q ≤ 5000 ∧ i = .int .i64 q ∧ Lies wr (.slice va vl vc) l ∧ Lies wr (.slice ga1 gl1 gc1) A ∧ Lies wr (.slice ga2 gl2 gc2) C ∧ Below w1.heap.size w1 wr) (fun i _ => 4096 - (intOf i).toNat)
  case atStart => exact ⟨0, by omega, rfl, hL_1_2_3_4, hS_1_2_3_4, hS_2_3_4, hB_4⟩
  case round =>
    obtain ⟨q, hq, rfl, iL, iA, iC, iB⟩ := hrel
    have iL' := Lib.hid iL
    have iA' := Lib.hid iA
    have iC' := Lib.hid iC
    clear iL iA iC
    by_cases hlt : q < 4096
    · have hqf : fits (q : Int) := by unfold fits; omega
      obtain ⟨pv, pb, hpo⟩ : ∃ pv pb, found (look l q) = .tuple #[.int .i64 pv, .bool pb] := ⟨_, _, rfl⟩
      rcases (show (xa ≤ (q : Int) ∧ (q : Int) - xa < xm) ∨ (q : Int) < xa ∨ (xa ≤ (q : Int) ∧ xm ≤ (q : Int) - xa) by omega) with ⟨ix1, ix2⟩ | ix1 | ⟨ix1, ix2⟩
      · have hix : xa ≤ (q : Int) ∧ (q : Int) < xa + xm := by omega
        rcases (show (ra ≤ (q : Int) ∧ (q : Int) - ra < rm) ∨ (q : Int) < ra ∨ (ra ≤ (q : Int) ∧ rm ≤ (q : Int) - ra) by omega) with ⟨ir1, ir2⟩ | ir1 | ⟨ir1, ir2⟩
        · have hir : ra ≤ (q : Int) ∧ (q : Int) < ra + rm := by omega
          have kR := Lib.hid (cR q hqf _ wr iL')
          simp only [if_true] at kR
          rw [hpo] at kR
          have kR' := Lib.hid kR
          clear kR
          have kA := fun (w : World) (h : Lies w (.slice ga1 gl1 gc1) A) => cFA q hqf _ w h
          simp only [if_true] at kA
          rw [show look A q = _ from (lA q).trans (if_pos hix)] at kA
          simp only [found, Option.getD, Option.isSome] at kA
          have kA' := Lib.hid kA
          clear kA hix
          have kC := fun (w : World) (h : Lies w (.slice ga2 gl2 gc2) C) => cFC q hqf _ w h
          simp only [if_true] at kC
          rw [show look C q = _ from (lC q).trans (if_pos hir)] at kC
          simp only [found, Option.getD, Option.isSome] at kC
          have kC' := Lib.hid kC
          clear kC hir
          have hpo' := Lib.hid hpo
          clear hpo
          have bq := boxh _ iB
          have z0 := bq.x0
          have z1 := bq.x1
          have z2 := bq.x2
          have z3 := bq.y0
          have z4 := bq.y1
          dsimp only at z0 z1 z2
          clear bq z0 z1 z2 z3 z4
          go_wp2_with fail
          refine kR'.mono ?_
          rintro e u1 ⟨rfl, g1⟩
          have iB1 := iB.trans (g1.mono iB.size)
          have iL1 := Lib.hid (Lies.below iL' g1 (Nat.le_refl _))
          have iA1 := Lib.hid (Lies.below iA' g1 (Nat.le_refl _))
          have iC1 := Lib.hid (Lies.below iC' g1 (Nat.le_refl _))
          go_wp2_with fail
          all_goals
            refine (kA' _ iA1).mono ?_
            rintro e u2 ⟨rfl, g2⟩
            have iB2 := iB1.trans (g2.mono iB1.size)
            have iL2 := Lib.hid (Lies.below iL1 g2 (Nat.le_refl _))
            have iA2 := Lib.hid (Lies.below iA1 g2 (Nat.le_refl _))
            have iC2 := Lib.hid (Lies.below iC1 g2 (Nat.le_refl _))
            have bq2 := boxh _ iB2
            have z0 := bq2.x0
            have z1 := bq2.x1
            have z2 := bq2.x2
            have z3 := bq2.y0
            have z4 := bq2.y1
            dsimp only at z0 z1 z2
            clear bq2
            go_wp2_with fail
            all_goals
              refine (kC' _ iC2).mono ?_
              rintro e u3 ⟨rfl, g3⟩
              have iB3 := iB2.trans (g3.mono iB2.size)
              have iL3 := Lib.hid (Lies.below iL2 g3 (Nat.le_refl _))
              have iA3 := Lib.hid (Lies.below iA2 g3 (Nat.le_refl _))
              have iC3 := Lib.hid (Lies.below iC2 g3 (Nat.le_refl _))
              clear z0 z1 z2 z3 z4
              have bq3 := boxh _ iB3
              have z0 := bq3.x0
              have z1 := bq3.x1
              have z2 := bq3.x2
              have z3 := bq3.y0
              have z4 := bq3.y1
              dsimp only at z0 z1 z2
              clear bq3
              go_wp2
              all_goals first
                | (exfalso; omega)
                | exact ⟨⟨q + (1 + q / 64), by omega, by first | (simp; done) | (simp; omega), iL3, iA3, iC3, iB3⟩, by simp [intOf]; omega⟩
        · have hir : ¬ (ra ≤ (q : Int) ∧ (q : Int) < ra + rm) := by omega
          have kR := Lib.hid (cR q hqf _ wr iL')
          simp only [if_true] at kR
          rw [hpo] at kR
          have kR' := Lib.hid kR
          clear kR
          have kA := fun (w : World) (h : Lies w (.slice ga1 gl1 gc1) A) => cFA q hqf _ w h
          simp only [if_true] at kA
          rw [show look A q = _ from (lA q).trans (if_pos hix)] at kA
          simp only [found, Option.getD, Option.isSome] at kA
          have kA' := Lib.hid kA
          clear kA hix
          have kC := fun (w : World) (h : Lies w (.slice ga2 gl2 gc2) C) => cFC q hqf _ w h
          simp only [if_true] at kC
          rw [show look C q = _ from (lC q).trans (if_neg hir)] at kC
          rw [hpo] at kC
          have kC' := Lib.hid kC
          clear kC hir
          have hpo' := Lib.hid hpo
          clear hpo
          have bq := boxh _ iB
          have z0 := bq.x0
          have z1 := bq.x1
          have z2 := bq.x2
          have z3 := bq.y0
          have z4 := bq.y1
          dsimp only at z0 z1 z2
          clear bq z0 z1 z2 z3 z4
          go_wp2_with fail
          refine kR'.mono ?_
          rintro e u1 ⟨rfl, g1⟩
          have iB1 := iB.trans (g1.mono iB.size)
          have iL1 := Lib.hid (Lies.below iL' g1 (Nat.le_refl _))
          have iA1 := Lib.hid (Lies.below iA' g1 (Nat.le_refl _))
          have iC1 := Lib.hid (Lies.below iC' g1 (Nat.le_refl _))
          go_wp2_with fail
          all_goals
            refine (kA' _ iA1).mono ?_
            rintro e u2 ⟨rfl, g2⟩
            have iB2 := iB1.trans (g2.mono iB1.size)
            have iL2 := Lib.hid (Lies.below iL1 g2 (Nat.le_refl _))
            have iA2 := Lib.hid (Lies.below iA1 g2 (Nat.le_refl _))
            have iC2 := Lib.hid (Lies.below iC1 g2 (Nat.le_refl _))
            have bq2 := boxh _ iB2
            have z0 := bq2.x0
            have z1 := bq2.x1
            have z2 := bq2.x2
            have z3 := bq2.y0
            have z4 := bq2.y1
            dsimp only at z0 z1 z2
            clear bq2
            go_wp2_with fail
            all_goals
              refine (kC' _ iC2).mono ?_
              rintro e u3 ⟨rfl, g3⟩
              have iB3 := iB2.trans (g3.mono iB2.size)
              have iL3 := Lib.hid (Lies.below iL2 g3 (Nat.le_refl _))
              have iA3 := Lib.hid (Lies.below iA2 g3 (Nat.le_refl _))
              have iC3 := Lib.hid (Lies.below iC2 g3 (Nat.le_refl _))
              clear z0 z1 z2 z3 z4
              have bq3 := boxh _ iB3
              have z0 := bq3.x0
              have z1 := bq3.x1
              have z2 := bq3.x2
              have z3 := bq3.y0
              have z4 := bq3.y1
              dsimp only at z0 z1 z2
              clear bq3
              go_wp2
              all_goals first
                | (exfalso; omega)
                | exact ⟨⟨q + (1 + q / 64), by omega, by first | (simp; done) | (simp; omega), iL3, iA3, iC3, iB3⟩, by simp [intOf]; omega⟩
        · have hir : ¬ (ra ≤ (q : Int) ∧ (q : Int) < ra + rm) := by omega
          have kR := Lib.hid (cR q hqf _ wr iL')
          simp only [if_true] at kR
          rw [hpo] at kR
          have kR' := Lib.hid kR
          clear kR
          have kA := fun (w : World) (h : Lies w (.slice ga1 gl1 gc1) A) => cFA q hqf _ w h
          simp only [if_true] at kA
          rw [show look A q = _ from (lA q).trans (if_pos hix)] at kA
          simp only [found, Option.getD, Option.isSome] at kA
          have kA' := Lib.hid kA
          clear kA hix
          have kC := fun (w : World) (h : Lies w (.slice ga2 gl2 gc2) C) => cFC q hqf _ w h
          simp only [if_true] at kC
          rw [show look C q = _ from (lC q).trans (if_neg hir)] at kC
          rw [hpo] at kC
          have kC' := Lib.hid kC
          clear kC hir
          have hpo' := Lib.hid hpo
          clear hpo
          have bq := boxh _ iB
          have z0 := bq.x0
          have z1 := bq.x1
          have z2 := bq.x2
          have z3 := bq.y0
          have z4 := bq.y1
          dsimp only at z0 z1 z2
          clear bq z0 z1 z2 z3 z4
          go_wp2_with fail
          refine kR'.mono ?_
          rintro e u1 ⟨rfl, g1⟩
          have iB1 := iB.trans (g1.mono iB.size)
          have iL1 := Lib.hid (Lies.below iL' g1 (Nat.le_refl _))
          have iA1 := Lib.hid (Lies.below iA' g1 (Nat.le_refl _))
          have iC1 := Lib.hid (Lies.below iC' g1 (Nat.le_refl _))
          go_wp2_with fail
          all_goals
            refine (kA' _ iA1).mono ?_
            rintro e u2 ⟨rfl, g2⟩
            have iB2 := iB1.trans (g2.mono iB1.size)
            have iL2 := Lib.hid (Lies.below iL1 g2 (Nat.le_refl _))
            have iA2 := Lib.hid (Lies.below iA1 g2 (Nat.le_refl _))
            have iC2 := Lib.hid (Lies.below iC1 g2 (Nat.le_refl _))
            have bq2 := boxh _ iB2
            have z0 := bq2.x0
            have z1 := bq2.x1
            have z2 := bq2.x2
            have z3 := bq2.y0
            have z4 := bq2.y1
            dsimp only at z0 z1 z2
            clear bq2
            go_wp2_with fail
            all_goals
              refine (kC' _ iC2).mono ?_
              rintro e u3 ⟨rfl, g3⟩
              have iB3 := iB2.trans (g3.mono iB2.size)
              have iL3 := Lib.hid (Lies.below iL2 g3 (Nat.le_refl _))
              have iA3 := Lib.hid (Lies.below iA2 g3 (Nat.le_refl _))
              have iC3 := Lib.hid (Lies.below iC2 g3 (Nat.le_refl _))
              clear z0 z1 z2 z3 z4
              have bq3 := boxh _ iB3
              have z0 := bq3.x0
              have z1 := bq3.x1
              have z2 := bq3.x2
              have z3 := bq3.y0
              have z4 := bq3.y1
              dsimp only at z0 z1 z2
              clear bq3
              go_wp2
              all_goals first
                | (exfalso; omega)
                | exact ⟨⟨q + (1 + q / 64), by omega, by first | (simp; done) | (simp; omega), iL3, iA3, iC3, iB3⟩, by simp [intOf]; omega⟩
      · have hix : ¬ (xa ≤ (q : Int) ∧ (q : Int) < xa + xm) := by omega
        rcases (show (ra ≤ (q : Int) ∧ (q : Int) - ra < rm) ∨ (q : Int) < ra ∨ (ra ≤ (q : Int) ∧ rm ≤ (q : Int) - ra) by omega) with ⟨ir1, ir2⟩ | ir1 | ⟨ir1, ir2⟩
        · have hir : ra ≤ (q : Int) ∧ (q : Int) < ra + rm := by omega
          have kR := Lib.hid (cR q hqf _ wr iL')
          simp only [if_true] at kR
          rw [hpo] at kR
          have kR' := Lib.hid kR
          clear kR
          have kA := fun (w : World) (h : Lies w (.slice ga1 gl1 gc1) A) => cFA q hqf _ w h
          simp only [if_true] at kA
          rw [show look A q = _ from (lA q).trans (if_neg hix)] at kA
          rw [hpo] at kA
          have kA' := Lib.hid kA
          clear kA hix
          have kC := fun (w : World) (h : Lies w (.slice ga2 gl2 gc2) C) => cFC q hqf _ w h
          simp only [if_true] at kC
          rw [show look C q = _ from (lC q).trans (if_pos hir)] at kC
          simp only [found, Option.getD, Option.isSome] at kC
          have kC' := Lib.hid kC
          clear kC hir
          have hpo' := Lib.hid hpo
          clear hpo
          have bq := boxh _ iB
          have z0 := bq.x0
          have z1 := bq.x1
          have z2 := bq.x2
          have z3 := bq.y0
          have z4 := bq.y1
          dsimp only at z0 z1 z2
          clear bq z0 z1 z2 z3 z4
          go_wp2_with fail
          refine kR'.mono ?_
          rintro e u1 ⟨rfl, g1⟩
          have iB1 := iB.trans (g1.mono iB.size)
          have iL1 := Lib.hid (Lies.below iL' g1 (Nat.le_refl _))
          have iA1 := Lib.hid (Lies.below iA' g1 (Nat.le_refl _))
          have iC1 := Lib.hid (Lies.below iC' g1 (Nat.le_refl _))
          go_wp2_with fail
          all_goals
            refine (kA' _ iA1).mono ?_
            rintro e u2 ⟨rfl, g2⟩
            have iB2 := iB1.trans (g2.mono iB1.size)
            have iL2 := Lib.hid (Lies.below iL1 g2 (Nat.le_refl _))
            have iA2 := Lib.hid (Lies.below iA1 g2 (Nat.le_refl _))
            have iC2 := Lib.hid (Lies.below iC1 g2 (Nat.le_refl _))
            have bq2 := boxh _ iB2
            have z0 := bq2.x0
            have z1 := bq2.x1
            have z2 := bq2.x2
            have z3 := bq2.y0
            have z4 := bq2.y1
            dsimp only at z0 z1 z2
            clear bq2
            go_wp2_with fail
            all_goals
              refine (kC' _ iC2).mono ?_
              rintro e u3 ⟨rfl, g3⟩
              have iB3 := iB2.trans (g3.mono iB2.size)
              have iL3 := Lib.hid (Lies.below iL2 g3 (Nat.le_refl _))
              have iA3 := Lib.hid (Lies.below iA2 g3 (Nat.le_refl _))
              have iC3 := Lib.hid (Lies.below iC2 g3 (Nat.le_refl _))
              clear z0 z1 z2 z3 z4
              have bq3 := boxh _ iB3
              have z0 := bq3.x0
              have z1 := bq3.x1
              have z2 := bq3.x2
              have z3 := bq3.y0
              have z4 := bq3.y1
              dsimp only at z0 z1 z2
              clear bq3
              go_wp2
              all_goals first
                | (exfalso; omega)
                | exact ⟨⟨q + (1 + q / 64), by omega, by first | (simp; done) | (simp; omega), iL3, iA3, iC3, iB3⟩, by simp [intOf]; omega⟩
        · have hir : ¬ (ra ≤ (q : Int) ∧ (q : Int) < ra + rm) := by omega
          have kR := Lib.hid (cR q hqf _ wr iL')
          simp only [if_true] at kR
          rw [hpo] at kR
          have kR' := Lib.hid kR
          clear kR
          have kA := fun (w : World) (h : Lies w (.slice ga1 gl1 gc1) A) => cFA q hqf _ w h
          simp only [if_true] at kA
          rw [show look A q = _ from (lA q).trans (if_neg hix)] at kA
          rw [hpo] at kA
          have kA' := Lib.hid kA
          clear kA hix
          have kC := fun (w : World) (h : Lies w (.slice ga2 gl2 gc2) C) => cFC q hqf _ w h
          simp only [if_true] at kC
          rw [show look C q = _ from (lC q).trans (if_neg hir)] at kC
          rw [hpo] at kC
          have kC' := Lib.hid kC
          clear kC hir
          have hpo' := Lib.hid hpo
          clear hpo
          have bq := boxh _ iB
          have z0 := bq.x0
          have z1 := bq.x1
          have z2 := bq.x2
          have z3 := bq.y0
          have z4 := bq.y1
          dsimp only at z0 z1 z2
          clear bq z0 z1 z2 z3 z4
          go_wp2_with fail
          refine kR'.mono ?_
          rintro e u1 ⟨rfl, g1⟩
          have iB1 := iB.trans (g1.mono iB.size)
          have iL1 := Lib.hid (Lies.below iL' g1 (Nat.le_refl _))
          have iA1 := Lib.hid (Lies.below iA' g1 (Nat.le_refl _))
          have iC1 := Lib.hid (Lies.below iC' g1 (Nat.le_refl _))
          go_wp2_with fail
          all_goals
            refine (kA' _ iA1).mono ?_
            rintro e u2 ⟨rfl, g2⟩
            have iB2 := iB1.trans (g2.mono iB1.size)
            have iL2 := Lib.hid (Lies.below iL1 g2 (Nat.le_refl _))
            have iA2 := Lib.hid (Lies.below iA1 g2 (Nat.le_refl _))
            have iC2 := Lib.hid (Lies.below iC1 g2 (Nat.le_refl _))
            have bq2 := boxh _ iB2
            have z0 := bq2.x0
            have z1 := bq2.x1
            have z2 := bq2.x2
            have z3 := bq2.y0
            have z4 := bq2.y1
            dsimp only at z0 z1 z2
            clear bq2
            go_wp2_with fail
            all_goals
              refine (kC' _ iC2).mono ?_
              rintro e u3 ⟨rfl, g3⟩
              have iB3 := iB2.trans (g3.mono iB2.size)
              have iL3 := Lib.hid (Lies.below iL2 g3 (Nat.le_refl _))
              have iA3 := Lib.hid (Lies.below iA2 g3 (Nat.le_refl _))
              have iC3 := Lib.hid (Lies.below iC2 g3 (Nat.le_refl _))
              clear z0 z1 z2 z3 z4
              have bq3 := boxh _ iB3
              have z0 := bq3.x0
              have z1 := bq3.x1
              have z2 := bq3.x2
              have z3 := bq3.y0
              have z4 := bq3.y1
              dsimp only at z0 z1 z2
              clear bq3
              go_wp2
              all_goals first
                | (exfalso; omega)
                | exact ⟨⟨q + (1 + q / 64), by omega, by first | (simp; done) | (simp; omega), iL3, iA3, iC3, iB3⟩, by simp [intOf]; omega⟩
        · have hir : ¬ (ra ≤ (q : Int) ∧ (q : Int) < ra + rm) := by omega
          have kR := Lib.hid (cR q hqf _ wr iL')
          simp only [if_true] at kR
          rw [hpo] at kR
          have kR' := Lib.hid kR
          clear kR
          have kA := fun (w : World) (h : Lies w (.slice ga1 gl1 gc1) A) => cFA q hqf _ w h
          simp only [if_true] at kA
          rw [show look A q = _ from (lA q).trans (if_neg hix)] at kA
          rw [hpo] at kA
          have kA' := Lib.hid kA
          clear kA hix
          have kC := fun (w : World) (h : Lies w (.slice ga2 gl2 gc2) C) => cFC q hqf _ w h
          simp only [if_true] at kC
          rw [show look C q = _ from (lC q).trans (if_neg hir)] at kC
          rw [hpo] at kC
          have kC' := Lib.hid kC
          clear kC hir
          have hpo' := Lib.hid hpo
          clear hpo
          have bq := boxh _ iB
          have z0 := bq.x0
          have z1 := bq.x1
          have z2 := bq.x2
          have z3 := bq.y0
          have z4 := bq.y1
          dsimp only at z0 z1 z2
          clear bq z0 z1 z2 z3 z4
          go_wp2_with fail
          refine kR'.mono ?_
          rintro e u1 ⟨rfl, g1⟩
          have iB1 := iB.trans (g1.mono iB.size)
          have iL1 := Lib.hid (Lies.below iL' g1 (Nat.le_refl _))
          have iA1 := Lib.hid (Lies.below iA' g1 (Nat.le_refl _))
          have iC1 := Lib.hid (Lies.below iC' g1 (Nat.le_refl _))
          go_wp2_with fail
          all_goals
            refine (kA' _ iA1).mono ?_
            rintro e u2 ⟨rfl, g2⟩
            have iB2 := iB1.trans (g2.mono iB1.size)
            have iL2 := Lib.hid (Lies.below iL1 g2 (Nat.le_refl _))
            have iA2 := Lib.hid (Lies.below iA1 g2 (Nat.le_refl _))
            have iC2 := Lib.hid (Lies.below iC1 g2 (Nat.le_refl _))
            have bq2 := boxh _ iB2
            have z0 := bq2.x0
            have z1 := bq2.x1
            have z2 := bq2.x2
            have z3 := bq2.y0
            have z4 := bq2.y1
            dsimp only at z0 z1 z2
            clear bq2
            go_wp2_with fail
            all_goals
              refine (kC' _ iC2).mono ?_
              rintro e u3 ⟨rfl, g3⟩
              have iB3 := iB2.trans (g3.mono iB2.size)
              have iL3 := Lib.hid (Lies.below iL2 g3 (Nat.le_refl _))
              have iA3 := Lib.hid (Lies.below iA2 g3 (Nat.le_refl _))
              have iC3 := Lib.hid (Lies.below iC2 g3 (Nat.le_refl _))
              clear z0 z1 z2 z3 z4
              have bq3 := boxh _ iB3
              have z0 := bq3.x0
              have z1 := bq3.x1
              have z2 := bq3.x2
              have z3 := bq3.y0
              have z4 := bq3.y1
              dsimp only at z0 z1 z2
              clear bq3
              go_wp2
              all_goals first
                | (exfalso; omega)
                | exact ⟨⟨q + (1 + q / 64), by omega, by first | (simp; done) | (simp; omega), iL3, iA3, iC3, iB3⟩, by simp [intOf]; omega⟩
      · have hix : ¬ (xa ≤ (q : Int) ∧ (q : Int) < xa + xm) := by omega
        rcases (show (ra ≤ (q : Int) ∧ (q : Int) - ra < rm) ∨ (q : Int) < ra ∨ (ra ≤ (q : Int) ∧ rm ≤ (q : Int) - ra) by omega) with ⟨ir1, ir2⟩ | ir1 | ⟨ir1, ir2⟩
        · have hir : ra ≤ (q : Int) ∧ (q : Int) < ra + rm := by omega
          have kR := Lib.hid (cR q hqf _ wr iL')
          simp only [if_true] at kR
          rw [hpo] at kR
          have kR' := Lib.hid kR
          clear kR
          have kA := fun (w : World) (h : Lies w (.slice ga1 gl1 gc1) A) => cFA q hqf _ w h
          simp only [if_true] at kA
          rw [show look A q = _ from (lA q).trans (if_neg hix)] at kA
          rw [hpo] at kA
          have kA' := Lib.hid kA
          clear kA hix
          have kC := fun (w : World) (h : Lies w (.slice ga2 gl2 gc2) C) => cFC q hqf _ w h
          simp only [if_true] at kC
          rw [show look C q = _ from (lC q).trans (if_pos hir)] at kC
          simp only [found, Option.getD, Option.isSome] at kC
          have kC' := Lib.hid kC
          clear kC hir
          have hpo' := Lib.hid hpo
          clear hpo
          have bq := boxh _ iB
          have z0 := bq.x0
          have z1 := bq.x1
          have z2 := bq.x2
          have z3 := bq.y0
          have z4 := bq.y1
          dsimp only at z0 z1 z2
          clear bq z0 z1 z2 z3 z4
          go_wp2_with fail
          refine kR'.mono ?_
          rintro e u1 ⟨rfl, g1⟩
          have iB1 := iB.trans (g1.mono iB.size)
          have iL1 := Lib.hid (Lies.below iL' g1 (Nat.le_refl _))
          have iA1 := Lib.hid (Lies.below iA' g1 (Nat.le_refl _))
          have iC1 := Lib.hid (Lies.below iC' g1 (Nat.le_refl _))
          go_wp2_with fail
          all_goals
            refine (kA' _ iA1).mono ?_
            rintro e u2 ⟨rfl, g2⟩
            have iB2 := iB1.trans (g2.mono iB1.size)
            have iL2 := Lib.hid (Lies.below iL1 g2 (Nat.le_refl _))
            have iA2 := Lib.hid (Lies.below iA1 g2 (Nat.le_refl _))
            have iC2 := Lib.hid (Lies.below iC1 g2 (Nat.le_refl _))
            have bq2 := boxh _ iB2
            have z0 := bq2.x0
            have z1 := bq2.x1
            have z2 := bq2.x2
            have z3 := bq2.y0
            have z4 := bq2.y1
            dsimp only at z0 z1 z2
            clear bq2
            go_wp2_with fail
            all_goals
              refine (kC' _ iC2).mono ?_
              rintro e u3 ⟨rfl, g3⟩
              have iB3 := iB2.trans (g3.mono iB2.size)
              have iL3 := Lib.hid (Lies.below iL2 g3 (Nat.le_refl _))
              have iA3 := Lib.hid (Lies.below iA2 g3 (Nat.le_refl _))
              have iC3 := Lib.hid (Lies.below iC2 g3 (Nat.le_refl _))
              clear z0 z1 z2 z3 z4
              have bq3 := boxh _ iB3
              have z0 := bq3.x0
              have z1 := bq3.x1
              have z2 := bq3.x2
              have z3 := bq3.y0
              have z4 := bq3.y1
              dsimp only at z0 z1 z2
              clear bq3
              go_wp2
              all_goals first
                | (exfalso; omega)
                | exact ⟨⟨q + (1 + q / 64), by omega, by first | (simp; done) | (simp; omega), iL3, iA3, iC3, iB3⟩, by simp [intOf]; omega⟩
        · have hir : ¬ (ra ≤ (q : Int) ∧ (q : Int) < ra + rm) := by omega
          have kR := Lib.hid (cR q hqf _ wr iL')
          simp only [if_true] at kR
          rw [hpo] at kR
          have kR' := Lib.hid kR
          clear kR
          have kA := fun (w : World) (h : Lies w (.slice ga1 gl1 gc1) A) => cFA q hqf _ w h
          simp only [if_true] at kA
          rw [show look A q = _ from (lA q).trans (if_neg hix)] at kA
          rw [hpo] at kA
          have kA' := Lib.hid kA
          clear kA hix
          have kC := fun (w : World) (h : Lies w (.slice ga2 gl2 gc2) C) => cFC q hqf _ w h
          simp only [if_true] at kC
          rw [show look C q = _ from (lC q).trans (if_neg hir)] at kC
          rw [hpo] at kC
          have kC' := Lib.hid kC
          clear kC hir
          have hpo' := Lib.hid hpo
          clear hpo
          have bq := boxh _ iB
          have z0 := bq.x0
          have z1 := bq.x1
          have z2 := bq.x2
          have z3 := bq.y0
          have z4 := bq.y1
          dsimp only at z0 z1 z2
          clear bq z0 z1 z2 z3 z4
          go_wp2_with fail
          refine kR'.mono ?_
          rintro e u1 ⟨rfl, g1⟩
          have iB1 := iB.trans (g1.mono iB.size)
          have iL1 := Lib.hid (Lies.below iL' g1 (Nat.le_refl _))
          have iA1 := Lib.hid (Lies.below iA' g1 (Nat.le_refl _))
          have iC1 := Lib.hid (Lies.below iC' g1 (Nat.le_refl _))
          go_wp2_with fail
          all_goals
            refine (kA' _ iA1).mono ?_
            rintro e u2 ⟨rfl, g2⟩
            have iB2 := iB1.trans (g2.mono iB1.size)
            have iL2 := Lib.hid (Lies.below iL1 g2 (Nat.le_refl _))
            have iA2 := Lib.hid (Lies.below iA1 g2 (Nat.le_refl _))
            have iC2 := Lib.hid (Lies.below iC1 g2 (Nat.le_refl _))
            have bq2 := boxh _ iB2
            have z0 := bq2.x0
            have z1 := bq2.x1
            have z2 := bq2.x2
            have z3 := bq2.y0
            have z4 := bq2.y1
            dsimp only at z0 z1 z2
            clear bq2
            go_wp2_with fail
            all_goals
              refine (kC' _ iC2).mono ?_
              rintro e u3 ⟨rfl, g3⟩
              have iB3 := iB2.trans (g3.mono iB2.size)
              have iL3 := Lib.hid (Lies.below iL2 g3 (Nat.le_refl _))
              have iA3 := Lib.hid (Lies.below iA2 g3 (Nat.le_refl _))
              have iC3 := Lib.hid (Lies.below iC2 g3 (Nat.le_refl _))
              clear z0 z1 z2 z3 z4
              have bq3 := boxh _ iB3
              have z0 := bq3.x0
              have z1 := bq3.x1
              have z2 := bq3.x2
              have z3 := bq3.y0
              have z4 := bq3.y1
              dsimp only at z0 z1 z2
              clear bq3
              go_wp2
              all_goals first
                | (exfalso; omega)
                | exact ⟨⟨q + (1 + q / 64), by omega, by first | (simp; done) | (simp; omega), iL3, iA3, iC3, iB3⟩, by simp [intOf]; omega⟩
        · have hir : ¬ (ra ≤ (q : Int) ∧ (q : Int) < ra + rm) := by omega
          have kR := Lib.hid (cR q hqf _ wr iL')
          simp only [if_true] at kR
          rw [hpo] at kR
          have kR' := Lib.hid kR
          clear kR
          have kA := fun (w : World) (h : Lies w (.slice ga1 gl1 gc1) A) => cFA q hqf _ w h
          simp only [if_true] at kA
          rw [show look A q = _ from (lA q).trans (if_neg hix)] at kA
          rw [hpo] at kA
          have kA' := Lib.hid kA
          clear kA hix
          have kC := fun (w : World) (h : Lies w (.slice ga2 gl2 gc2) C) => cFC q hqf _ w h
          simp only [if_true] at kC
          rw [show look C q = _ from (lC q).trans (if_neg hir)] at kC
          rw [hpo] at kC
          have kC' := Lib.hid kC
          clear kC hir
          have hpo' := Lib.hid hpo
          clear hpo
          have bq := boxh _ iB
          have z0 := bq.x0
          have z1 := bq.x1
          have z2 := bq.x2
          have z3 := bq.y0
          have z4 := bq.y1
          dsimp only at z0 z1 z2
          clear bq z0 z1 z2 z3 z4
          go_wp2_with fail
          refine kR'.mono ?_
          rintro e u1 ⟨rfl, g1⟩
          have iB1 := iB.trans (g1.mono iB.size)
          have iL1 := Lib.hid (Lies.below iL' g1 (Nat.le_refl _))
          have iA1 := Lib.hid (Lies.below iA' g1 (Nat.le_refl _))
          have iC1 := Lib.hid (Lies.below iC' g1 (Nat.le_refl _))
          go_wp2_with fail
          all_goals
            refine (kA' _ iA1).mono ?_
            rintro e u2 ⟨rfl, g2⟩
            have iB2 := iB1.trans (g2.mono iB1.size)
            have iL2 := Lib.hid (Lies.below iL1 g2 (Nat.le_refl _))
            have iA2 := Lib.hid (Lies.below iA1 g2 (Nat.le_refl _))
            have iC2 := Lib.hid (Lies.below iC1 g2 (Nat.le_refl _))
            have bq2 := boxh _ iB2
            have z0 := bq2.x0
            have z1 := bq2.x1
            have z2 := bq2.x2
            have z3 := bq2.y0
            have z4 := bq2.y1
            dsimp only at z0 z1 z2
            clear bq2
            go_wp2_with fail
            all_goals
              refine (kC' _ iC2).mono ?_
              rintro e u3 ⟨rfl, g3⟩
              have iB3 := iB2.trans (g3.mono iB2.size)
              have iL3 := Lib.hid (Lies.below iL2 g3 (Nat.le_refl _))
              have iA3 := Lib.hid (Lies.below iA2 g3 (Nat.le_refl _))
              have iC3 := Lib.hid (Lies.below iC2 g3 (Nat.le_refl _))
              clear z0 z1 z2 z3 z4
              have bq3 := boxh _ iB3
              have z0 := bq3.x0
              have z1 := bq3.x1
              have z2 := bq3.x2
              have z3 := bq3.y0
              have z4 := bq3.y1
              dsimp only at z0 z1 z2
              clear bq3
              go_wp2
              all_goals first
                | (exfalso; omega)
                | exact ⟨⟨q + (1 + q / 64), by omega, by first | (simp; done) | (simp; omega), iL3, iA3, iC3, iB3⟩, by simp [intOf]; omega⟩
    · go_wp2_with fail
      refine (hW _).mono ?_
      rintro e w9 ⟨rfl, hB9⟩
      have hBB := hB0.trans ((iB.trans (hB9.mono iB.size)).mono hB0.size)
      go_wp2
      go_ret
      exact ⟨rfl, hBB⟩

end Go.Proofs.Ytplplojhgiaabaa
