/- Blocks that are set apart from one another, in either order: the law walked. -/
import Derived.Deep.RegionHeld3
import Derived.Test.YtplplojhgiaabaaSay
import Derived.Test.YtplplojhgiaabaaW
set_option linter.unusedVariables false
set_option linter.unusedSimpArgs false
set_option linter.unnecessarySimpa false
namespace Go.Proofs.Ytplplojhgiaabaa
open Go.RowKit

theorem setOut_look {l : List X} {x : X} (hg : Good l) (ho : One x) (j : Int) : look (setOut l x) j = if x.lba ≤ j ∧ j < x.lba + x.num then some (x.pos + j - x.lba) else look l j := by
  have h2 : setOut l x = gatherF (setT x l) 4096 := by unfold setOut; rw [if_pos ⟨hg, ho⟩]
  obtain ⟨k1, k2⟩ := gather_law (setT x l) (setT_bound hg ho)
  rw [h2]
  by_cases hj : 0 ≤ j ∧ j < 4096
  · obtain ⟨J, rfl⟩ : ∃ J : Nat, j = J := ⟨j.toNat, by omega⟩
    rw [k2]
    unfold One at ho
    simp only [Int.toNat_natCast]
    by_cases e : x.lba ≤ (J : Int) ∧ (J : Int) < x.lba + x.num
    · have h1 : setT x l J = x.pos + J - x.lba + 1 := by unfold setT; rw [if_pos e]
      rw [if_pos e, if_pos ⟨by omega, by omega, by rw [h1]; omega⟩, h1]
      congr 1
      omega
    · have h1 : setT x l J = spreadF l J := by unfold setT; rw [if_neg e]
      rw [if_neg e, h1]
      unfold spreadF
      cases h : look l J with
      | none => simp
      | some p =>
        have := look_range hg h
        dsimp only
        rw [if_pos ⟨by omega, by omega, by omega⟩]
        congr 1
        omega
  · unfold One at ho
    rw [look_out k1 hj, if_neg (by omega), look_out hg hj]
theorem set_again {l : List X} {x : X} (hg : Good l) (ho : One x) : setOut (setOut l x) x = setOut l x := by
  have hs := setOut_good l x
  refine ch_unique _ _ (good_iff.1 (setOut_good _ x)) (good_iff.1 hs) fun j => ?_
  rw [setOut_look hs ho, setOut_look hg ho]
  split <;> rfl
theorem set_apart {l : List X} {x y : X} (hg : Good l) (hx : One x) (hy : One y) (hd : ¬ (x.lba < y.lba + y.num ∧ y.lba < x.lba + x.num)) : setOut (setOut l x) y = setOut (setOut l y) x := by
  have h1 := setOut_good l x
  have h2 := setOut_good l y
  refine ch_unique _ _ (good_iff.1 (setOut_good _ y)) (good_iff.1 (setOut_good _ x)) fun j => ?_
  rw [setOut_look h1 hy, setOut_look hg hx, setOut_look h2 hx, setOut_look hg hy]
  by_cases a : y.lba ≤ j ∧ j < y.lba + y.num
  · rw [if_pos a, if_neg (by omega), if_pos a]
  · rw [if_neg a]
    by_cases b : x.lba ≤ j ∧ j < x.lba + x.num
    · rw [if_pos b, if_pos b]
    · rw [if_neg b, if_neg b, if_neg a]

theorem lies_drew {W : World} {v : Value} {l : List X} (h : Lies W v l) : Lies W.drew v l := h
theorem len_nil {W : World} {a : Option Addr} {n c : Nat} (h : Lies W (.slice a n c) []) : n = 0 := by
  rcases h with ⟨a0, c0, h, _⟩ | ⟨b, off, cap, h, _⟩ <;> (injection h)

/-- The two boxes of x and of y. -/
structure Boxes (W : World) (b : Nat) (x y : X) : Prop where
  x0 : W.cell? ⟨b, 0, none⟩ = some (.int .i64 x.lba)
  x1 : W.cell? ⟨b, 1, none⟩ = some (.int .i64 x.num)
  x2 : W.cell? ⟨b, 2, none⟩ = some (.int .i64 x.pos)
  y0 : W.cell? ⟨b + 1, 0, none⟩ = some (.int .i64 y.lba)
  y1 : W.cell? ⟨b + 1, 1, none⟩ = some (.int .i64 y.num)
  y2 : W.cell? ⟨b + 1, 2, none⟩ = some (.int .i64 y.pos)

set_option maxRecDepth 100000 in
set_option maxHeartbeats 8000000 in
theorem order_walk (l : List X) (hl : ∀ x ∈ l, x.Ok) (hn : l.length ≤ 10000000000000) (v : Value) (w : World) (h : Lies w v l) (x y : X) (hx : x.Ok) (hy : y.Ok) :
    Calls Try.prog 4 #[v, x.agg, y.agg] w fun e w' => e = .returned (.bool true) ∧ Below w.heap.size w w' := by
  obtain ⟨W0, hW0⟩ : ∃ W0, W0 = (w.alloc (.cells #[.int .i64 x.lba, .int .i64 x.num, .int .i64 x.pos] 32)).alloc (.cells #[.int .i64 y.lba, .int .i64 y.num, .int .i64 y.pos] 32) := ⟨_, rfl⟩
  have hB0 : Below w.heap.size w W0 := by rw [hW0]; exact ((Below.refl _ w).alloc (Nat.le_refl _) _).alloc (by simp) _
  have hz0 : W0.heap.size = w.heap.size + 1 + 1 := by rw [hW0]; simp
  have b0 : W0.heap[w.heap.size]? = some (.cells #[.int .i64 x.lba, .int .i64 x.num, .int .i64 x.pos] 32 (0, 0)) := by
    rw [hW0, heap_alloc_old _ _ (by simp)]; exact heap_alloc_new w _
  have b1 : W0.heap[w.heap.size + 1]? = some (.cells #[.int .i64 y.lba, .int .i64 y.num, .int .i64 y.pos] 32 (0, 0)) := by
    rw [hW0]
    have := heap_alloc_new (w.alloc (.cells #[.int .i64 x.lba, .int .i64 x.num, .int .i64 x.pos] 32)) (.cells #[.int .i64 y.lba, .int .i64 y.num, .int .i64 y.pos] 32)
    rw [World.size_alloc] at this
    exact this
  have box : ∀ W, Below W0.heap.size W0 W → Boxes W w.heap.size x y := by
    intro W hB
    have e0 := (hB.block w.heap.size (by omega)).trans b0
    have e1 := (hB.block (w.heap.size + 1) (by omega)).trans b1
    refine ⟨?_, ?_, ?_, ?_, ?_, ?_⟩ <;> (first | (simp only [World.cell?, e0]; rfl) | (simp only [World.cell?, e1]; rfl))
  have boxh := Lib.hid box
  have hL0 := Lies.below h hB0 (Nat.le_refl _)
  have cL := Lib.hid (large_any l hn v W0 hL0)
  obtain ⟨va, vl, vc, rfl⟩ := lies_slice h
  obtain ⟨bg, hbg⟩ : ∃ bg, big l.length = bg := ⟨_, rfl⟩
  rw [hbg] at cL
  have hW := Lib.hid wakes_any
  obtain ⟨xa, xm, xp⟩ := x
  obtain ⟨ya, ym, yp⟩ := y
  dsimp only at hW0
  simp only [X.agg]
  cases bg with
  | true =>
    clear hbg hl h b0 b1 box hL0
    go_enter Try.func4, Try.ntmps4
    go_wp2_with fail
    rw [← hW0]
    clear hW0
    refine cL.mono ?_
    rintro e w1 ⟨rfl, rfl⟩
    go_wp2_with fail
    refine (hW _).mono ?_
    rintro e w2 ⟨rfl, hB⟩
    have hBB := hB0.trans (hB.mono hB0.size)
    go_wp2
    go_ret
    exact ⟨rfl, hBB⟩
  | false =>
    have hn5 := big_no hbg
    obtain ⟨r, hr⟩ := good_bool l
    have cG := Lib.hid (goodRef_any l hl (by omega) _ W0 hL0 r hr)
    have hL0' := Lib.hid hL0
    cases r with
    | false =>
      clear hbg hl h b0 b1 box hL0 hr
      go_enter Try.func4, Try.ntmps4
      go_wp2_with fail
      rw [← hW0]
      clear hW0
      refine cL.mono ?_
      rintro e w1 ⟨rfl, rfl⟩
      go_wp2_with fail
      refine cG.mono ?_
      rintro e w2 ⟨rfl, hB2⟩
      go_wp2_with fail
      refine (hW _).mono ?_
      rintro e w3 ⟨rfl, hB3⟩
      have hBB := hB0.trans (((hB2.trans (hB3.mono hB2.size))).mono hB0.size)
      go_wp2
      go_ret
      exact ⟨rfl, hBB⟩
    | true =>
      have hg : Good l := hr.1 rfl
      have hgh := Lib.hid hg
      have cE := Lib.hid (fun (v : Value) (w : World) (h : Lies w v l) => few_any l (by omega) v w h)
      have cS := Lib.hid (fun (v : Value) (w : World) (h : Lies w v l) => set_say l hl (by omega) ⟨xa, xm, xp⟩ hx v w h)
      have cT := Lib.hid (fun (v : Value) (w : World) (h : Lies w v l) => set_say l hl (by omega) ⟨ya, ym, yp⟩ hy v w h)
      clear hbg hl h b0 b1 box hL0 hr
      have oks : setOk l ⟨xa, xm, xp⟩ = decide (One ⟨xa, xm, xp⟩) := by unfold setOk; simp [hg]
      have okt : setOk l ⟨ya, ym, yp⟩ = decide (One ⟨ya, ym, yp⟩) := by unfold setOk; simp [hg]
      unfold answer at cS cT
      simp only [X.agg] at cS cT
      rw [oks] at cS
      rw [okt] at cT
      clear oks okt hg
      by_cases hox : One ⟨xa, xm, xp⟩
      · by_cases hoy : One ⟨ya, ym, yp⟩
        · have dx : decide (One ⟨xa, xm, xp⟩) = true := by simp [hox]
          have dy : decide (One ⟨ya, ym, yp⟩) = true := by simp [hoy]
          rw [dx] at cS
          rw [dy] at cT
          clear dx dy
          obtain ⟨A, hA⟩ : ∃ A, setOut l ⟨xa, xm, xp⟩ = A := ⟨_, rfl⟩
          obtain ⟨B, hBl⟩ : ∃ B, setOut l ⟨ya, ym, yp⟩ = B := ⟨_, rfl⟩
          have gA : Good A := by rw [← hA]; exact setOut_good _ _
          have gB : Good B := by rw [← hBl]; exact setOut_good _ _
          have aA : setOut A ⟨xa, xm, xp⟩ = A := by rw [← hA]; exact set_again hgh hox
          obtain ⟨C, hC⟩ : ∃ C, setOut A ⟨ya, ym, yp⟩ = C := ⟨_, rfl⟩
          have gC : Good C := by rw [← hC]; exact setOut_good _ _
          have hap : ¬ (xa < ya + ym ∧ ya < xa + xm) → setOut B ⟨xa, xm, xp⟩ = C := fun h => by rw [← hC, ← hA, ← hBl]; exact (set_apart hgh hox hoy h).symm
          have cA := fun (v : Value) (w : World) (h : Lies w v A) => set_say A gA.oks (by have := gA.1; omega) ⟨xa, xm, xp⟩ hx v w h
          have cC := fun (v : Value) (w : World) (h : Lies w v A) => set_say A gA.oks (by have := gA.1; omega) ⟨ya, ym, yp⟩ hy v w h
          have cD := fun (v : Value) (w : World) (h : Lies w v B) => set_say B gB.oks (by have := gB.1; omega) ⟨xa, xm, xp⟩ hx v w h
          have cEA := Lib.hid (fun (v : Value) (w : World) (h : Lies w v A) => few_any A (by have := gA.1; omega) v w h)
          have cEB := Lib.hid (fun (v : Value) (w : World) (h : Lies w v B) => few_any B (by have := gB.1; omega) v w h)
          have cQA := Lib.hid (same_self A gA.oks (by have := gA.1; omega))
          have cQC := Lib.hid (same_self C gC.oks (by have := gC.1; omega))
          have kA : setOk A ⟨xa, xm, xp⟩ = true := by unfold setOk; simp [gA, hox]
          have kC : setOk A ⟨ya, ym, yp⟩ = true := by unfold setOk; simp [gA, hoy]
          have kD : setOk B ⟨xa, xm, xp⟩ = true := by unfold setOk; simp [gB, hox]
          rw [hA] at cS
          rw [hBl] at cT
          rw [aA, kA] at cA
          rw [hC, kC] at cC
          rw [kD] at cD
          unfold answer at cA cC cD
          simp only [X.agg] at cA cC cD
          have cS' := Lib.hid cS
          have cT' := Lib.hid cT
          have cA' := Lib.hid cA
          have cC' := Lib.hid cC
          clear cS cT cA cC
          simp only [if_true] at cS' cT' cA' cC' cD
          have hap' := Lib.hid hap
          unfold One at hox hoy
          dsimp only at hox hoy
          obtain ⟨p1, p2, p3, p4, p5, p6⟩ := hox
          obtain ⟨p7, p8, p9, p10, p11, p12⟩ := hoy
          clear hA hBl hC aA kA kC kD gA gB gC hap
          go_enter Try.func4, Try.ntmps4
          go_wp2_with fail
          rw [← hW0]
          clear hW0
          refine cL.mono ?_
          rintro e w1 ⟨rfl, rfl⟩
          go_wp2_with fail
          refine cG.mono ?_
          rintro e w2 ⟨rfl, hB2⟩
          have hL := Lib.hid (Lies.below hL0' hB2 (Nat.le_refl _))
          have hBd1 := below_drew hB2
          have hLd1 := Lib.hid (lies_drew hL)
          have hq1 := boxh _ hBd1
          have q0 := hq1.x0
          have q1 := hq1.x1
          have q2 := hq1.x2
          dsimp only at q0 q1 q2
          clear hq1
          go_wp2_with fail
          go_region_held3 (fun w' => w'.cell? ⟨w.heap.size, 0, none⟩ = some (.int .i64 xa) ∧ w'.cell? ⟨w.heap.size, 1, none⟩ = some (.int .i64 xm) ∧ w'.cell? ⟨w.heap.size, 2, none⟩ = some (.int .i64 xp))
            (first
              | exact ⟨q0, q1, q2⟩
              | (have hq := boxh _ (hBd1.trans (hBf1.mono hBd1.size)); exact ⟨hq.x0, hq.x1, hq.x2⟩)
              | (have hq := boxh _ ((hBd1.trans (hBf1.mono hBd1.size)).trans (hBg1.mono (hBd1.trans (hBf1.mono hBd1.size)).size)); exact ⟨hq.x0, hq.x1, hq.x2⟩))
            (first
              | (go_at_call 11; refine (cE _ _ hLd1).mono ?_; rintro e wf1 ⟨vf1, rfl, hE1, hBf1⟩)
              | (go_at_call 19; refine (cS' _ _ hE1).mono ?_; rintro e wg1 ⟨vg1, rfl, hS1, hBg1⟩))
          clear q0 q1 q2
          have hB_1 := (hBd1.trans (hBf1.mono hBd1.size)).trans (hBg1.mono (hBd1.trans (hBf1.mono hBd1.size)).size)
          have hL_1 := Lib.hid (Lies.below (Lies.below hLd1 hBf1 (Nat.le_refl _)) hBg1 (Nat.le_refl _))
          obtain ⟨ga1, gl1, gc1, rfl⟩ := lies_slice hS1
          have hS_1 := Lib.hid hS1
          clear hS1
          have hBd2 := below_drew hB_1
          have hL_1d2 := Lib.hid (lies_drew hL_1)
          have hS_1d2 := Lib.hid (lies_drew hS_1)
          have hq2 := boxh _ hBd2
          have q0 := hq2.y0
          have q1 := hq2.y1
          have q2 := hq2.y2
          dsimp only at q0 q1 q2
          clear hq2
          go_wp2_with fail
          go_region_held3 (fun w' => w'.cell? ⟨w.heap.size + 1, 0, none⟩ = some (.int .i64 ya) ∧ w'.cell? ⟨w.heap.size + 1, 1, none⟩ = some (.int .i64 ym) ∧ w'.cell? ⟨w.heap.size + 1, 2, none⟩ = some (.int .i64 yp))
            (first
              | exact ⟨q0, q1, q2⟩
              | (have hq := boxh _ (hBd2.trans (hBf2.mono hBd2.size)); exact ⟨hq.y0, hq.y1, hq.y2⟩)
              | (have hq := boxh _ ((hBd2.trans (hBf2.mono hBd2.size)).trans (hBg2.mono (hBd2.trans (hBf2.mono hBd2.size)).size)); exact ⟨hq.y0, hq.y1, hq.y2⟩))
            (first
              | (go_at_call 11; refine (cE _ _ hL_1d2).mono ?_; rintro e wf2 ⟨vf2, rfl, hE2, hBf2⟩)
              | (go_at_call 19; refine (cT' _ _ hE2).mono ?_; rintro e wg2 ⟨vg2, rfl, hS2, hBg2⟩))
          clear q0 q1 q2
          have hB_2 := (hBd2.trans (hBf2.mono hBd2.size)).trans (hBg2.mono (hBd2.trans (hBf2.mono hBd2.size)).size)
          have hS_1_2 := Lib.hid (Lies.below (Lies.below hS_1d2 hBf2 (Nat.le_refl _)) hBg2 (Nat.le_refl _))
          obtain ⟨ga2, gl2, gc2, rfl⟩ := lies_slice hS2
          have hS_2 := Lib.hid hS2
          clear hS2
          have hBd3 := below_drew hB_2
          have hS_1_2d3 := Lib.hid (lies_drew hS_1_2)
          have hS_2d3 := Lib.hid (lies_drew hS_2)
          have hq3 := boxh _ hBd3
          have q0 := hq3.x0
          have q1 := hq3.x1
          have q2 := hq3.x2
          dsimp only at q0 q1 q2
          clear hq3
          go_wp2_with fail
          go_region_held3 (fun w' => w'.cell? ⟨w.heap.size, 0, none⟩ = some (.int .i64 xa) ∧ w'.cell? ⟨w.heap.size, 1, none⟩ = some (.int .i64 xm) ∧ w'.cell? ⟨w.heap.size, 2, none⟩ = some (.int .i64 xp))
            (first
              | exact ⟨q0, q1, q2⟩
              | (have hq := boxh _ (hBd3.trans (hBf3.mono hBd3.size)); exact ⟨hq.x0, hq.x1, hq.x2⟩)
              | (have hq := boxh _ ((hBd3.trans (hBf3.mono hBd3.size)).trans (hBg3.mono (hBd3.trans (hBf3.mono hBd3.size)).size)); exact ⟨hq.x0, hq.x1, hq.x2⟩))
            (first
              | (go_at_call 11; refine (cEA _ _ hS_1_2d3).mono ?_; rintro e wf3 ⟨vf3, rfl, hE3, hBf3⟩)
              | (go_at_call 19; refine (cA' _ _ hE3).mono ?_; rintro e wg3 ⟨vg3, rfl, hS3, hBg3⟩))
          clear q0 q1 q2
          have hB_3 := (hBd3.trans (hBf3.mono hBd3.size)).trans (hBg3.mono (hBd3.trans (hBf3.mono hBd3.size)).size)
          have hS_1_2_3 := Lib.hid (Lies.below (Lies.below hS_1_2d3 hBf3 (Nat.le_refl _)) hBg3 (Nat.le_refl _))
          have hS_2_3 := Lib.hid (Lies.below (Lies.below hS_2d3 hBf3 (Nat.le_refl _)) hBg3 (Nat.le_refl _))
          obtain ⟨ga3, gl3, gc3, rfl⟩ := lies_slice hS3
          have hS_3 := Lib.hid hS3
          clear hS3
          go_wp2_with fail
          refine (cQA _ _ _ hS_3 hS_1_2_3).mono ?_
          rintro e w5 ⟨rfl, hB5⟩
          have hA5 := Lib.hid (Lies.below hS_1_2_3 hB5 (Nat.le_refl _))
          have hBn5 := Lib.hid (Lies.below hS_2_3 hB5 (Nat.le_refl _))
          have hB05 := hB_3.trans (hB5.mono hB_3.size)
          have hq5 := boxh _ hB05
          have q0 := hq5.x0
          have q1 := hq5.x1
          have q3 := hq5.y0
          have q4 := hq5.y1
          dsimp only at q0 q1 q3 q4
          clear hq5
          by_cases ov : xa < ya + ym ∧ ya < xa + xm
          · obtain ⟨ov1, ov2⟩ := ov
            go_wp2_with fail
            refine (hW _).mono ?_
            rintro e w9 ⟨rfl, hB9⟩
            have hBB := hB0.trans ((hB05.trans (hB9.mono hB05.size)).mono hB0.size)
            go_wp2
            go_ret
            exact ⟨rfl, hBB⟩
          · rw [hap' ov] at cD
            have cD' := Lib.hid cD
            clear cD
            by_cases ov1 : xa < ya + ym
            · have ov2 : ¬ ya < xa + xm := fun h => ov ⟨ov1, h⟩
              have hBd6 := below_drew hB05
              have hA5d6 := Lib.hid (lies_drew hA5)
              have hBn5d6 := Lib.hid (lies_drew hBn5)
              have hq6 := boxh _ hBd6
              have q0 := hq6.y0
              have q1 := hq6.y1
              have q2 := hq6.y2
              dsimp only at q0 q1 q2
              clear hq6
              go_wp2_with fail
              go_region_held3 (fun w' => w'.cell? ⟨w.heap.size + 1, 0, none⟩ = some (.int .i64 ya) ∧ w'.cell? ⟨w.heap.size + 1, 1, none⟩ = some (.int .i64 ym) ∧ w'.cell? ⟨w.heap.size + 1, 2, none⟩ = some (.int .i64 yp))
                (first
                  | exact ⟨q0, q1, q2⟩
                  | (have hq := boxh _ (hBd6.trans (hBf6.mono hBd6.size)); exact ⟨hq.y0, hq.y1, hq.y2⟩)
                  | (have hq := boxh _ ((hBd6.trans (hBf6.mono hBd6.size)).trans (hBg6.mono (hBd6.trans (hBf6.mono hBd6.size)).size)); exact ⟨hq.y0, hq.y1, hq.y2⟩))
                (first
                  | (go_at_call 11; refine (cEA _ _ hA5d6).mono ?_; rintro e wf6 ⟨vf6, rfl, hE6, hBf6⟩)
                  | (go_at_call 19; refine (cC' _ _ hE6).mono ?_; rintro e wg6 ⟨vg6, rfl, hS6, hBg6⟩))
              clear q0 q1 q2
              have hB_6 := (hBd6.trans (hBf6.mono hBd6.size)).trans (hBg6.mono (hBd6.trans (hBf6.mono hBd6.size)).size)
              have hBn5_6 := Lib.hid (Lies.below (Lies.below hBn5d6 hBf6 (Nat.le_refl _)) hBg6 (Nat.le_refl _))
              obtain ⟨ga6, gl6, gc6, rfl⟩ := lies_slice hS6
              have hS_6 := Lib.hid hS6
              clear hS6
              have hBd7 := below_drew hB_6
              have hBn5_6d7 := Lib.hid (lies_drew hBn5_6)
              have hS_6d7 := Lib.hid (lies_drew hS_6)
              have hq7 := boxh _ hBd7
              have q0 := hq7.x0
              have q1 := hq7.x1
              have q2 := hq7.x2
              dsimp only at q0 q1 q2
              clear hq7
              go_wp2_with fail
              go_region_held3 (fun w' => w'.cell? ⟨w.heap.size, 0, none⟩ = some (.int .i64 xa) ∧ w'.cell? ⟨w.heap.size, 1, none⟩ = some (.int .i64 xm) ∧ w'.cell? ⟨w.heap.size, 2, none⟩ = some (.int .i64 xp))
                (first
                  | exact ⟨q0, q1, q2⟩
                  | (have hq := boxh _ (hBd7.trans (hBf7.mono hBd7.size)); exact ⟨hq.x0, hq.x1, hq.x2⟩)
                  | (have hq := boxh _ ((hBd7.trans (hBf7.mono hBd7.size)).trans (hBg7.mono (hBd7.trans (hBf7.mono hBd7.size)).size)); exact ⟨hq.x0, hq.x1, hq.x2⟩))
                (first
                  | (go_at_call 11; refine (cEB _ _ hBn5_6d7).mono ?_; rintro e wf7 ⟨vf7, rfl, hE7, hBf7⟩)
                  | (go_at_call 19; refine (cD' _ _ hE7).mono ?_; rintro e wg7 ⟨vg7, rfl, hS7, hBg7⟩))
              clear q0 q1 q2
              have hB_7 := (hBd7.trans (hBf7.mono hBd7.size)).trans (hBg7.mono (hBd7.trans (hBf7.mono hBd7.size)).size)
              have hS_6_7 := Lib.hid (Lies.below (Lies.below hS_6d7 hBf7 (Nat.le_refl _)) hBg7 (Nat.le_refl _))
              obtain ⟨ga7, gl7, gc7, rfl⟩ := lies_slice hS7
              have hS_7 := Lib.hid hS7
              clear hS7
              go_wp2_with fail
              refine (cQC _ _ _ hS_6_7 hS_7).mono ?_
              rintro e w8 ⟨rfl, hB8⟩
              have hB08 := hB_7.trans (hB8.mono hB_7.size)
              go_wp2_with fail
              refine (hW _).mono ?_
              rintro e w9 ⟨rfl, hB9⟩
              have hBB := hB0.trans ((hB08.trans (hB9.mono hB08.size)).mono hB0.size)
              go_wp2
              go_ret
              exact ⟨rfl, hBB⟩
            · have hBd6 := below_drew hB05
              have hA5d6 := Lib.hid (lies_drew hA5)
              have hBn5d6 := Lib.hid (lies_drew hBn5)
              have hq6 := boxh _ hBd6
              have q0 := hq6.y0
              have q1 := hq6.y1
              have q2 := hq6.y2
              dsimp only at q0 q1 q2
              clear hq6
              go_wp2_with fail
              go_region_held3 (fun w' => w'.cell? ⟨w.heap.size + 1, 0, none⟩ = some (.int .i64 ya) ∧ w'.cell? ⟨w.heap.size + 1, 1, none⟩ = some (.int .i64 ym) ∧ w'.cell? ⟨w.heap.size + 1, 2, none⟩ = some (.int .i64 yp))
                (first
                  | exact ⟨q0, q1, q2⟩
                  | (have hq := boxh _ (hBd6.trans (hBf6.mono hBd6.size)); exact ⟨hq.y0, hq.y1, hq.y2⟩)
                  | (have hq := boxh _ ((hBd6.trans (hBf6.mono hBd6.size)).trans (hBg6.mono (hBd6.trans (hBf6.mono hBd6.size)).size)); exact ⟨hq.y0, hq.y1, hq.y2⟩))
                (first
                  | (go_at_call 11; refine (cEA _ _ hA5d6).mono ?_; rintro e wf6 ⟨vf6, rfl, hE6, hBf6⟩)
                  | (go_at_call 19; refine (cC' _ _ hE6).mono ?_; rintro e wg6 ⟨vg6, rfl, hS6, hBg6⟩))
              clear q0 q1 q2
              have hB_6 := (hBd6.trans (hBf6.mono hBd6.size)).trans (hBg6.mono (hBd6.trans (hBf6.mono hBd6.size)).size)
              have hBn5_6 := Lib.hid (Lies.below (Lies.below hBn5d6 hBf6 (Nat.le_refl _)) hBg6 (Nat.le_refl _))
              obtain ⟨ga6, gl6, gc6, rfl⟩ := lies_slice hS6
              have hS_6 := Lib.hid hS6
              clear hS6
              have hBd7 := below_drew hB_6
              have hBn5_6d7 := Lib.hid (lies_drew hBn5_6)
              have hS_6d7 := Lib.hid (lies_drew hS_6)
              have hq7 := boxh _ hBd7
              have q0 := hq7.x0
              have q1 := hq7.x1
              have q2 := hq7.x2
              dsimp only at q0 q1 q2
              clear hq7
              go_wp2_with fail
              go_region_held3 (fun w' => w'.cell? ⟨w.heap.size, 0, none⟩ = some (.int .i64 xa) ∧ w'.cell? ⟨w.heap.size, 1, none⟩ = some (.int .i64 xm) ∧ w'.cell? ⟨w.heap.size, 2, none⟩ = some (.int .i64 xp))
                (first
                  | exact ⟨q0, q1, q2⟩
                  | (have hq := boxh _ (hBd7.trans (hBf7.mono hBd7.size)); exact ⟨hq.x0, hq.x1, hq.x2⟩)
                  | (have hq := boxh _ ((hBd7.trans (hBf7.mono hBd7.size)).trans (hBg7.mono (hBd7.trans (hBf7.mono hBd7.size)).size)); exact ⟨hq.x0, hq.x1, hq.x2⟩))
                (first
                  | (go_at_call 11; refine (cEB _ _ hBn5_6d7).mono ?_; rintro e wf7 ⟨vf7, rfl, hE7, hBf7⟩)
                  | (go_at_call 19; refine (cD' _ _ hE7).mono ?_; rintro e wg7 ⟨vg7, rfl, hS7, hBg7⟩))
              clear q0 q1 q2
              have hB_7 := (hBd7.trans (hBf7.mono hBd7.size)).trans (hBg7.mono (hBd7.trans (hBf7.mono hBd7.size)).size)
              have hS_6_7 := Lib.hid (Lies.below (Lies.below hS_6d7 hBf7 (Nat.le_refl _)) hBg7 (Nat.le_refl _))
              obtain ⟨ga7, gl7, gc7, rfl⟩ := lies_slice hS7
              have hS_7 := Lib.hid hS7
              clear hS7
              go_wp2_with fail
              refine (cQC _ _ _ hS_6_7 hS_7).mono ?_
              rintro e w8 ⟨rfl, hB8⟩
              have hB08 := hB_7.trans (hB8.mono hB_7.size)
              go_wp2_with fail
              refine (hW _).mono ?_
              rintro e w9 ⟨rfl, hB9⟩
              have hBB := hB0.trans ((hB08.trans (hB9.mono hB08.size)).mono hB0.size)
              go_wp2
              go_ret
              exact ⟨rfl, hBB⟩
        · have dx : decide (One ⟨xa, xm, xp⟩) = true := by simp [hox]
          have dy : decide (One ⟨ya, ym, yp⟩) = false := by simp [hoy]
          rw [dx] at cS
          rw [dy] at cT
          clear dx dy
          have sy : setOut l ⟨ya, ym, yp⟩ = [] := by unfold setOut; rw [if_neg (fun h => hoy h.2)]
          rw [sy] at cT
          clear sy
          have cS' := Lib.hid cS
          have cT' := Lib.hid cT
          clear cS cT
          simp only [if_true, Bool.false_eq_true, if_false] at cS' cT'
          go_enter Try.func4, Try.ntmps4
          go_wp2_with fail
          rw [← hW0]
          clear hW0
          refine cL.mono ?_
          rintro e w1 ⟨rfl, rfl⟩
          go_wp2_with fail
          refine cG.mono ?_
          rintro e w2 ⟨rfl, hB2⟩
          have hL := Lib.hid (Lies.below hL0' hB2 (Nat.le_refl _))
          have hBd1 := below_drew hB2
          have hLd1 := Lib.hid (lies_drew hL)
          have hq1 := boxh _ hBd1
          have q0 := hq1.x0
          have q1 := hq1.x1
          have q2 := hq1.x2
          dsimp only at q0 q1 q2
          have hqq1 := Lib.hid hq1
          clear hq1
          go_wp2_with fail
          go_region_held3 (fun w' => w'.cell? ⟨w.heap.size, 0, none⟩ = some (.int .i64 xa) ∧ w'.cell? ⟨w.heap.size, 1, none⟩ = some (.int .i64 xm) ∧ w'.cell? ⟨w.heap.size, 2, none⟩ = some (.int .i64 xp))
            (first
              | exact ⟨q0, q1, q2⟩
              | (have hq := boxh _ (hBd1.trans (hBf1.mono hBd1.size)); exact ⟨hq.x0, hq.x1, hq.x2⟩)
              | (have hq := boxh _ ((hBd1.trans (hBf1.mono hBd1.size)).trans (hBg1.mono (hBd1.trans (hBf1.mono hBd1.size)).size)); exact ⟨hq.x0, hq.x1, hq.x2⟩))
            (first
              | (go_at_call 11; refine (cE _ _ hLd1).mono ?_; rintro e wf1 ⟨vf1, rfl, hE1, hBf1⟩)
              | (go_at_call 19; refine (cS' _ _ hE1).mono ?_; rintro e wg1 ⟨vg1, rfl, hS1, hBg1⟩))
          clear q0 q1 q2
          have hB_1 := (hBd1.trans (hBf1.mono hBd1.size)).trans (hBg1.mono (hBd1.trans (hBf1.mono hBd1.size)).size)
          have hL_1 := Lib.hid (Lies.below (Lies.below hLd1 hBf1 (Nat.le_refl _)) hBg1 (Nat.le_refl _))
          obtain ⟨ga1, gl1, gc1, rfl⟩ := lies_slice hS1
          have hS_1 := Lib.hid hS1
          clear hS1
          have hBd2 := below_drew hB_1
          have hL_1d2 := Lib.hid (lies_drew hL_1)
          have hS_1d2 := Lib.hid (lies_drew hS_1)
          have hq2 := boxh _ hBd2
          have q0 := hq2.y0
          have q1 := hq2.y1
          have q2 := hq2.y2
          dsimp only at q0 q1 q2
          have hqq2 := Lib.hid hq2
          clear hq2
          go_wp2_with fail
          go_region_held3 (fun w' => w'.cell? ⟨w.heap.size + 1, 0, none⟩ = some (.int .i64 ya) ∧ w'.cell? ⟨w.heap.size + 1, 1, none⟩ = some (.int .i64 ym) ∧ w'.cell? ⟨w.heap.size + 1, 2, none⟩ = some (.int .i64 yp))
            (first
              | exact ⟨q0, q1, q2⟩
              | (have hq := boxh _ (hBd2.trans (hBf2.mono hBd2.size)); exact ⟨hq.y0, hq.y1, hq.y2⟩)
              | (have hq := boxh _ ((hBd2.trans (hBf2.mono hBd2.size)).trans (hBg2.mono (hBd2.trans (hBf2.mono hBd2.size)).size)); exact ⟨hq.y0, hq.y1, hq.y2⟩))
            (first
              | (go_at_call 11; refine (cE _ _ hL_1d2).mono ?_; rintro e wf2 ⟨vf2, rfl, hE2, hBf2⟩)
              | (go_at_call 19; refine (cT' _ _ hE2).mono ?_; rintro e wg2 ⟨vg2, rfl, hS2, hBg2⟩))
          clear q0 q1 q2
          have hB_2 := (hBd2.trans (hBf2.mono hBd2.size)).trans (hBg2.mono (hBd2.trans (hBf2.mono hBd2.size)).size)
          have hS_1_2 := Lib.hid (Lies.below (Lies.below hS_1d2 hBf2 (Nat.le_refl _)) hBg2 (Nat.le_refl _))
          obtain ⟨ga2, gl2, gc2, rfl⟩ := lies_slice hS2
          have hS_2 := Lib.hid hS2
          clear hS2
          obtain rfl := len_nil hS_2
          go_wp2_with fail
          refine (hW _).mono ?_
          rintro e w9 ⟨rfl, hB9⟩
          have hhB_2 := hB0.trans ((hB_2.trans (hB9.mono hB_2.size)).mono hB0.size)
          go_wp2
          go_ret
          exact ⟨rfl, hhB_2⟩
      · by_cases hoy : One ⟨ya, ym, yp⟩
        · have dx : decide (One ⟨xa, xm, xp⟩) = false := by simp [hox]
          have dy : decide (One ⟨ya, ym, yp⟩) = true := by simp [hoy]
          rw [dx] at cS
          rw [dy] at cT
          clear dx dy
          have sx : setOut l ⟨xa, xm, xp⟩ = [] := by unfold setOut; rw [if_neg (fun h => hox h.2)]
          rw [sx] at cS
          clear sx
          have cS' := Lib.hid cS
          have cT' := Lib.hid cT
          clear cS cT
          simp only [if_true, Bool.false_eq_true, if_false] at cS' cT'
          go_enter Try.func4, Try.ntmps4
          go_wp2_with fail
          rw [← hW0]
          clear hW0
          refine cL.mono ?_
          rintro e w1 ⟨rfl, rfl⟩
          go_wp2_with fail
          refine cG.mono ?_
          rintro e w2 ⟨rfl, hB2⟩
          have hL := Lib.hid (Lies.below hL0' hB2 (Nat.le_refl _))
          have hBd1 := below_drew hB2
          have hLd1 := Lib.hid (lies_drew hL)
          have hq1 := boxh _ hBd1
          have q0 := hq1.x0
          have q1 := hq1.x1
          have q2 := hq1.x2
          dsimp only at q0 q1 q2
          have hqq1 := Lib.hid hq1
          clear hq1
          go_wp2_with fail
          go_region_held3 (fun w' => w'.cell? ⟨w.heap.size, 0, none⟩ = some (.int .i64 xa) ∧ w'.cell? ⟨w.heap.size, 1, none⟩ = some (.int .i64 xm) ∧ w'.cell? ⟨w.heap.size, 2, none⟩ = some (.int .i64 xp))
            (first
              | exact ⟨q0, q1, q2⟩
              | (have hq := boxh _ (hBd1.trans (hBf1.mono hBd1.size)); exact ⟨hq.x0, hq.x1, hq.x2⟩)
              | (have hq := boxh _ ((hBd1.trans (hBf1.mono hBd1.size)).trans (hBg1.mono (hBd1.trans (hBf1.mono hBd1.size)).size)); exact ⟨hq.x0, hq.x1, hq.x2⟩))
            (first
              | (go_at_call 11; refine (cE _ _ hLd1).mono ?_; rintro e wf1 ⟨vf1, rfl, hE1, hBf1⟩)
              | (go_at_call 19; refine (cS' _ _ hE1).mono ?_; rintro e wg1 ⟨vg1, rfl, hS1, hBg1⟩))
          clear q0 q1 q2
          have hB_1 := (hBd1.trans (hBf1.mono hBd1.size)).trans (hBg1.mono (hBd1.trans (hBf1.mono hBd1.size)).size)
          have hL_1 := Lib.hid (Lies.below (Lies.below hLd1 hBf1 (Nat.le_refl _)) hBg1 (Nat.le_refl _))
          obtain ⟨ga1, gl1, gc1, rfl⟩ := lies_slice hS1
          have hS_1 := Lib.hid hS1
          clear hS1
          have hBd2 := below_drew hB_1
          have hL_1d2 := Lib.hid (lies_drew hL_1)
          have hS_1d2 := Lib.hid (lies_drew hS_1)
          have hq2 := boxh _ hBd2
          have q0 := hq2.y0
          have q1 := hq2.y1
          have q2 := hq2.y2
          dsimp only at q0 q1 q2
          have hqq2 := Lib.hid hq2
          clear hq2
          go_wp2_with fail
          go_region_held3 (fun w' => w'.cell? ⟨w.heap.size + 1, 0, none⟩ = some (.int .i64 ya) ∧ w'.cell? ⟨w.heap.size + 1, 1, none⟩ = some (.int .i64 ym) ∧ w'.cell? ⟨w.heap.size + 1, 2, none⟩ = some (.int .i64 yp))
            (first
              | exact ⟨q0, q1, q2⟩
              | (have hq := boxh _ (hBd2.trans (hBf2.mono hBd2.size)); exact ⟨hq.y0, hq.y1, hq.y2⟩)
              | (have hq := boxh _ ((hBd2.trans (hBf2.mono hBd2.size)).trans (hBg2.mono (hBd2.trans (hBf2.mono hBd2.size)).size)); exact ⟨hq.y0, hq.y1, hq.y2⟩))
            (first
              | (go_at_call 11; refine (cE _ _ hL_1d2).mono ?_; rintro e wf2 ⟨vf2, rfl, hE2, hBf2⟩)
              | (go_at_call 19; refine (cT' _ _ hE2).mono ?_; rintro e wg2 ⟨vg2, rfl, hS2, hBg2⟩))
          clear q0 q1 q2
          have hB_2 := (hBd2.trans (hBf2.mono hBd2.size)).trans (hBg2.mono (hBd2.trans (hBf2.mono hBd2.size)).size)
          have hS_1_2 := Lib.hid (Lies.below (Lies.below hS_1d2 hBf2 (Nat.le_refl _)) hBg2 (Nat.le_refl _))
          obtain ⟨ga2, gl2, gc2, rfl⟩ := lies_slice hS2
          have hS_2 := Lib.hid hS2
          clear hS2
          obtain rfl := len_nil hS_1_2
          go_wp2_with fail
          refine (hW _).mono ?_
          rintro e w9 ⟨rfl, hB9⟩
          have hhB_2 := hB0.trans ((hB_2.trans (hB9.mono hB_2.size)).mono hB0.size)
          go_wp2
          go_ret
          exact ⟨rfl, hhB_2⟩
        · have dx : decide (One ⟨xa, xm, xp⟩) = false := by simp [hox]
          have dy : decide (One ⟨ya, ym, yp⟩) = false := by simp [hoy]
          rw [dx] at cS
          rw [dy] at cT
          clear dx dy
          have sx : setOut l ⟨xa, xm, xp⟩ = [] := by unfold setOut; rw [if_neg (fun h => hox h.2)]
          rw [sx] at cS
          clear sx
          have sy : setOut l ⟨ya, ym, yp⟩ = [] := by unfold setOut; rw [if_neg (fun h => hoy h.2)]
          rw [sy] at cT
          clear sy
          have cS' := Lib.hid cS
          have cT' := Lib.hid cT
          clear cS cT
          simp only [if_true, Bool.false_eq_true, if_false] at cS' cT'
          go_enter Try.func4, Try.ntmps4
          go_wp2_with fail
          rw [← hW0]
          clear hW0
          refine cL.mono ?_
          rintro e w1 ⟨rfl, rfl⟩
          go_wp2_with fail
          refine cG.mono ?_
          rintro e w2 ⟨rfl, hB2⟩
          have hL := Lib.hid (Lies.below hL0' hB2 (Nat.le_refl _))
          have hBd1 := below_drew hB2
          have hLd1 := Lib.hid (lies_drew hL)
          have hq1 := boxh _ hBd1
          have q0 := hq1.x0
          have q1 := hq1.x1
          have q2 := hq1.x2
          dsimp only at q0 q1 q2
          have hqq1 := Lib.hid hq1
          clear hq1
          go_wp2_with fail
          go_region_held3 (fun w' => w'.cell? ⟨w.heap.size, 0, none⟩ = some (.int .i64 xa) ∧ w'.cell? ⟨w.heap.size, 1, none⟩ = some (.int .i64 xm) ∧ w'.cell? ⟨w.heap.size, 2, none⟩ = some (.int .i64 xp))
            (first
              | exact ⟨q0, q1, q2⟩
              | (have hq := boxh _ (hBd1.trans (hBf1.mono hBd1.size)); exact ⟨hq.x0, hq.x1, hq.x2⟩)
              | (have hq := boxh _ ((hBd1.trans (hBf1.mono hBd1.size)).trans (hBg1.mono (hBd1.trans (hBf1.mono hBd1.size)).size)); exact ⟨hq.x0, hq.x1, hq.x2⟩))
            (first
              | (go_at_call 11; refine (cE _ _ hLd1).mono ?_; rintro e wf1 ⟨vf1, rfl, hE1, hBf1⟩)
              | (go_at_call 19; refine (cS' _ _ hE1).mono ?_; rintro e wg1 ⟨vg1, rfl, hS1, hBg1⟩))
          clear q0 q1 q2
          have hB_1 := (hBd1.trans (hBf1.mono hBd1.size)).trans (hBg1.mono (hBd1.trans (hBf1.mono hBd1.size)).size)
          have hL_1 := Lib.hid (Lies.below (Lies.below hLd1 hBf1 (Nat.le_refl _)) hBg1 (Nat.le_refl _))
          obtain ⟨ga1, gl1, gc1, rfl⟩ := lies_slice hS1
          have hS_1 := Lib.hid hS1
          clear hS1
          have hBd2 := below_drew hB_1
          have hL_1d2 := Lib.hid (lies_drew hL_1)
          have hS_1d2 := Lib.hid (lies_drew hS_1)
          have hq2 := boxh _ hBd2
          have q0 := hq2.y0
          have q1 := hq2.y1
          have q2 := hq2.y2
          dsimp only at q0 q1 q2
          have hqq2 := Lib.hid hq2
          clear hq2
          go_wp2_with fail
          go_region_held3 (fun w' => w'.cell? ⟨w.heap.size + 1, 0, none⟩ = some (.int .i64 ya) ∧ w'.cell? ⟨w.heap.size + 1, 1, none⟩ = some (.int .i64 ym) ∧ w'.cell? ⟨w.heap.size + 1, 2, none⟩ = some (.int .i64 yp))
            (first
              | exact ⟨q0, q1, q2⟩
              | (have hq := boxh _ (hBd2.trans (hBf2.mono hBd2.size)); exact ⟨hq.y0, hq.y1, hq.y2⟩)
              | (have hq := boxh _ ((hBd2.trans (hBf2.mono hBd2.size)).trans (hBg2.mono (hBd2.trans (hBf2.mono hBd2.size)).size)); exact ⟨hq.y0, hq.y1, hq.y2⟩))
            (first
              | (go_at_call 11; refine (cE _ _ hL_1d2).mono ?_; rintro e wf2 ⟨vf2, rfl, hE2, hBf2⟩)
              | (go_at_call 19; refine (cT' _ _ hE2).mono ?_; rintro e wg2 ⟨vg2, rfl, hS2, hBg2⟩))
          clear q0 q1 q2
          have hB_2 := (hBd2.trans (hBf2.mono hBd2.size)).trans (hBg2.mono (hBd2.trans (hBf2.mono hBd2.size)).size)
          have hS_1_2 := Lib.hid (Lies.below (Lies.below hS_1d2 hBf2 (Nat.le_refl _)) hBg2 (Nat.le_refl _))
          obtain ⟨ga2, gl2, gc2, rfl⟩ := lies_slice hS2
          have hS_2 := Lib.hid hS2
          clear hS2
          obtain rfl := len_nil hS_1_2
          obtain rfl := len_nil hS_2
          go_wp2_with fail
          refine (hW _).mono ?_
          rintro e w9 ⟨rfl, hB9⟩
          have hhB_2 := hB0.trans ((hB_2.trans (hB9.mono hB_2.size)).mono hB0.size)
          go_wp2
          go_ret
          exact ⟨rfl, hhB_2⟩

end Go.Proofs.Ytplplojhgiaabaa
