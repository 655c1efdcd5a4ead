/- Drop, the program's. -/
import Derived.Shelf.SlSortCmp.NoneTotal
import Derived.Test.YtplplojhgiaabaaO
import Derived.Test.YtplplojhgiaabaaTells
set_option linter.unusedVariables false
set_option linter.unusedSimpArgs false
set_option linter.unnecessarySimpa false
namespace Go.Proofs.Ytplplojhgiaabaa
open Go.RowKit Go.Shelf

attribute [local go_sem] Oper.semAt_some

/-- What Drop is let do. -/
def Cut (a m : Int) : Prop := 0 ≤ a ∧ 0 ≤ m ∧ m ≤ 4096 ∧ a + m ≤ 4096
instance (a m : Int) : Decidable (Cut a m) := by unfold Cut; infer_instance

theorem merged_none (w : World) : Calls Try.prog 31 #[.slice none 0 0] w fun e w' => e = .returned (.slice none 0 0) ∧ w' = w := by
  have hS := AnyF.slices_SortFunc_none (P := Try.prog) (ρ := sort41_ren) { sort41 with } none 0 (.func (.func 42) #[] #[]) w
  change Calls Try.prog 41 _ _ _ at hS
  have hS' := Lib.hid hS
  clear hS
  go_enter Try.func31, Try.ntmps31
  go_wp2_with fail
  refine hS'.mono ?_
  rintro e w1 ⟨rfl, rfl⟩
  go_wp2
  refine wp_loop_rounds 1 ?_
  rw [rounds_succ]
  go_wp2
  go_ret
  exact ⟨rfl, rfl⟩

set_option maxRecDepth 100000 in
set_option maxHeartbeats 4000000 in
theorem drop_no (l : List X) (hl : ∀ x ∈ l, x.Ok) (hn : l.length ≤ 1000000000) (v : Value) (w : World) (h : Lies w v l) (a m : Int) (ha : fits a) (hm : fits m) (hno : ¬ (Good l ∧ Cut a m)) :
    Calls Try.prog 21 #[v, .int .i64 a, .int .i64 m] w fun e w' => e = .returned (answer (.slice none 0 0) false) ∧ Below w.heap.size w w' := by
  obtain ⟨ha1, ha2⟩ := ha
  obtain ⟨hm1, hm2⟩ := hm
  unfold answer
  by_cases hg : Good l
  · have hc : ¬ Cut a m := fun hc => hno ⟨hg, hc⟩
    unfold Cut at hc
    have c1 := Lib.hid (good_any l hl hn v w h true (by simp [hg]))
    obtain ⟨va, vl, vc, rfl⟩ := lies_slice h
    clear hno hg hl h
    go_enter Try.func21, Try.ntmps21
    go_wp2_with fail
    refine c1.mono ?_
    rintro e w1 ⟨rfl, hB1⟩
    go_wp2
    all_goals first
      | (exfalso; omega)
      | (go_ret2; exact ⟨rfl, hB1⟩)
  · have c1 := Lib.hid (good_any l hl hn v w h false (by simp [hg]))
    obtain ⟨va, vl, vc, rfl⟩ := lies_slice h
    clear hno hg hl h
    go_enter Try.func21, Try.ntmps21
    go_wp2_with fail
    refine c1.mono ?_
    rintro e w1 ⟨rfl, hB1⟩
    go_wp2
    go_ret2
    exact ⟨rfl, hB1⟩

set_option maxRecDepth 100000 in
set_option maxHeartbeats 4000000 in
theorem drop_zero (l : List X) (hl : ∀ x ∈ l, x.Ok) (hn : l.length ≤ 100000000) (v : Value) (w : World) (h : Lies w v l) (a : Int) (hg : Good l) (ha : Cut a 0) :
    Calls Try.prog 21 #[v, .int .i64 a, .int .i64 0] w fun e w' => ∃ v', e = .returned (answer v' true) ∧ Lies w' v' l ∧ Below w.heap.size w w' := by
  unfold Cut at ha
  unfold answer
  obtain ⟨h1, h2, h3, h4⟩ := ha
  have c1 := Lib.hid (good_any l hl (by omega) v w h true (by simp [hg]))
  have h' := Lib.hid h
  obtain ⟨va, vl, vc, rfl⟩ := lies_slice h
  clear hg hl h
  go_enter Try.func21, Try.ntmps21
  go_wp2_with fail
  refine c1.mono ?_
  rintro e w1 ⟨rfl, hB1⟩
  have cC := Lib.hid (clone_any l (by omega) _ w1 (Lies.below h' hB1 (Nat.le_refl _)))
  go_wp2_with fail
  refine cC.mono ?_
  rintro e w2 ⟨v', rfl, hl2, hB2⟩
  have hB02 := hB1.trans (hB2.mono hB1.size)
  go_wp2
  go_ret2
  exact ⟨v', rfl, hl2, hB02⟩

set_option maxRecDepth 100000 in
set_option maxHeartbeats 4000000 in
theorem drop_yes (l : List X) (hn : l.length ≤ 4096) (v : Value) (w : World) (h : Lies w v l) (a m : Int) (hg : Good l) (hcut : Cut a m) (hm0 : m ≠ 0) :
    Calls Try.prog 21 #[v, .int .i64 a, .int .i64 m] w fun e w' => ∃ (s : List X) (v' : Value), s.Perm (leftF a (a + m) l) ∧ s.Pairwise (fun y z => y.lba ≤ z.lba) ∧ e = .returned (answer v' true) ∧ Lies w' v' (mergedF s) ∧ Below w.heap.size w w' := by
  have hl : ∀ x ∈ l, x.Ok := by
    intro y hy
    have := hg.one_mem hy
    unfold One at this
    unfold X.Ok fits
    omega
  have hone := Lib.hid (fun (k : Nat) (y : X) (hy : l[k]? = some y) => hg.one hy)
  unfold Cut at hcut
  obtain ⟨o1, o2, o3, o4⟩ := hcut
  have hmb : (m == 0) = false := by simp [hm0]
  obtain ⟨va, vl, vc, rfl⟩ := lies_slice h
  unfold answer
  have c1 := Lib.hid (good_any l hl (by omega) _ _ h true (by simp [hg]))
  have h' := Lib.hid h
  clear hl hg h
  have w14 : Fence.wide.fn 14 := trivial
  have w30 : Fence.wide.fn 30 := trivial
  have w31 : Fence.wide.fn 31 := trivial
  have w40 : Fence.wide.fn 40 := trivial
  refine (callsIn_wide (n := 6)).1 ?_
  refine callsIn_of_wp_marks Try.func21 rfl trivial ?_ rfl
  simp only [Try.ntmps21, List.size_toArray, List.length_cons, List.length_nil, Nat.reduceAdd, Nat.reduceSub, Array.replicate_succ, Array.replicate_zero, List.push_toArray, List.append_toArray, List.nil_append, List.cons_append]
  gi_wp2_with fail
  refine (callsIn_wide.2 c1).mono ?_
  rintro e w2 ⟨rfl, hB02⟩
  have hlt2 : w.heap.size ≤ w2.heap.size := hB02.size
  clear c1
  gi_wp2_with fail
  refine (left_in Fence.wide 5 w30 rfl _ ⟨_, _, _, rfl⟩ _ _ _).mono ?_
  rintro e w3 ⟨rfl, hw3⟩
  obtain ⟨t1, t2, t3, t4, t5⟩ := trio (w2.alloc (.cells #[.slice none 0 0] 22)) (.slice va vl vc) (.int .i64 a) (.int .i64 (a + m))
  rw [← hw3] at t1 t2 t3 t4 t5
  simp only [World.size_alloc] at t1 t2 t3 t4 t5 ⊢
  have hB03 : Below w.heap.size w w3 := (hB02.alloc (by omega) _).trans (t5 _ (by omega))
  have hbox0 : Boxed w3 w2.heap.size 22 (.slice none 0 0) := by
    have h1 := (t5 _ (Nat.le_refl _)).block w2.heap.size (by omega)
    have h2 := heap_alloc_new w2 (.cells #[.slice none 0 0] 22)
    exact h1.trans h2
  have hown0 : w3.ownsRow w.heap.size 32 3 (.slice none 0 0) 0 (flat []) := World.ownsRow_nil _ _ _ _
  clear hw3 t5 hB02
  generalize hN : w2.heap.size = N at t1 t2 t3 t4 hbox0 hlt2 ⊢
  clear hN
  obtain ⟨d, hd, hdT⟩ := gds (leftF a (a + m) l) (leftF_tame hone (by omega) (by omega))
  have hlenL := leftF_length a (a + m) l
  gi_wp2
  refine wpIn_rangeFunc_ownH rfl (by omega) (gf := 40) (lb := #[.pointer (some ⟨N + 1, 0, none⟩), .pointer (some ⟨N + 1 + 1, 0, none⟩), .pointer (some ⟨N + 1 + 1 + 1, 0, none⟩)]) rfl w40 (enters_of Try.func40 (by kernel_rfl) rfl)
    (left_stops Fence.wide (6 - 1) w40 rfl (by omega) (N + 1) w.heap.size (.slice va vl vc) l hn hone a (a + m) (by omega) (by omega) w3 (by omega) t1 (by omega) t2 t3 w rfl h' hB03) kp_t (kp_b (by omega)) (Below.refl _ _) (fun _ => rfl)
    (fun pre W => (∃ v, Boxed W (N) 22 v ∧ W.ownsRow w.heap.size 32 3 v pre.length (flat pre) ∧ (v = .slice none 0 0 ∨ 1 ≤ (pre : List X).length)) ∧ Below w.heap.size w W)
    (fun _ _ _ => False)
    (OwnFrom.and (Own.from (holdsRow_own w.heap.size (N) 22 32 3 (fun pre => (pre : List X).length) (fun pre => flat pre) (fun pre v => v = .slice none 0 0 ∨ 1 ≤ (pre : List X).length)) _) (ownFrom_below (Nat.le_refl _) (by omega)))
    (fun _ _ _ _ _ hs _ _ => hs)
    ⟨⟨_, hbox0, hown0, .inl rfl⟩, hB03⟩
    (fun x a' W => ∃ Bx, N < Bx ∧ W.heap[Bx]? = some (.cells #[.int .i64 x.lba, .int .i64 x.num, .int .i64 x.pos] 32 (0, 0)) ∧ a' = { tmps := #[.slice va vl vc, .int .i64 a, .int .i64 m, undef, undef, undef, .slice none 0 0, .int .i64 0, .pointer (some ⟨N, 0, none⟩), .pointer (some ⟨Bx, 0, none⟩), .slice va vl vc, .bool true, .bool false, .bool false, .int .i64 a, .bool (decide (a < 0)), .bool (decide (a < 0)), .bool (decide (a < 0)), .int .i64 m, .bool (decide (m < 0)), .bool (decide (a < 0) || decide (m < 0)), .bool (decide (a < 0) || decide (m < 0)), .int .i64 m, .bool (decide (4096 < m)), .bool (decide (a < 0) || decide (m < 0) || decide (4096 < m)), .bool (decide (a < 0) || decide (m < 0) || decide (4096 < m)), .int .i64 a, .int .i64 m, .int .i64 (4096 - m), .bool (decide (4096 - m < a)), .bool (decide (a < 0) || decide (m < 0) || decide (4096 < m) || decide (4096 - m < a)), .int .i64 m, .bool false, undef, undef, .slice va vl vc, .int .i64 a, .int .i64 a, .int .i64 m, .int .i64 (a + m), .func (.func 40) #[] #[.pointer (some ⟨N + 1, 0, none⟩), .pointer (some ⟨N + 1 + 1, 0, none⟩), .pointer (some ⟨N + 1 + 1 + 1, 0, none⟩)], .agg #[.int .i64 x.lba, .int .i64 x.num, .int .i64 x.pos], undef, undef, undef, undef, undef, undef], defers := [] })
    (fun x a' _ X Y row hs hg hr => by obtain ⟨Bx, h1, h2, h3⟩ := hs; exact ⟨Bx, h1, box_own h2 hg hr, h3⟩)
    ?assign ?body ?done ?stop
  case assign =>
    rintro lo pre x W K ⟨⟨v, hv, hrow, hG⟩, hB⟩ hK
    simp only [X.agg]
    gi_wp2
    exact hK _ _ ((KeepsOthers.alloc _ _).from _) ⟨(Below.refl _ W).alloc hB.size _, (FixKept.refl W).alloc _⟩ ⟨⟨v, hv.alloc _, hrow.alloc _, hG⟩, hB.alloc hB.size _⟩ ⟨W.heap.size, hv.lt, heap_alloc_new W _, rfl⟩
  case body =>
    rintro lo pre x a' W hlo ⟨rr, hrr⟩ ⟨⟨v, hv, hrow, hG⟩, hB⟩ ⟨Bx, hBx, bX, rfl⟩ hlt
    have hc := hv.cell
    have x0 : W.cell? ⟨Bx, 0, none⟩ = some (.int .i64 x.lba) := by simp only [World.cell?, bX]; rfl
    have x1 : W.cell? ⟨Bx, 1, none⟩ = some (.int .i64 x.num) := by simp only [World.cell?, bX]; rfl
    have x2 : W.cell? ⟨Bx, 2, none⟩ = some (.int .i64 x.pos) := by simp only [World.cell?, bX]; rfl
    have bX' := Lib.hid bX
    have hrow' := Lib.hid hrow
    have hBz := hB.size
    have hlp : (pre : List X).length ≤ 20000 := by omega
    clear bX hrow
    gi_wp2_with (gi_at_builtin; refine wpListIn_append_tiny _ rfl _ _ rfl w.heap.size v _ _ rfl (hrow'.alloc _) hG ⟨W.heap.size, 0, none⟩ 1 [.int .i64 x.lba, .int .i64 x.num, .int .i64 x.pos] rfl rfl (cells_new3 W x.lba x.num x.pos) (by intro u hu; simp at hu; rcases hu with rfl | rfl | rfl <;> rfl) hlp (by simp; omega) ?_; intro v' w1 hown' hgrow hfix; obtain ⟨g', cap', rfl⟩ := ownsRow_succ hown'; obtain ⟨hv1, hv2, hr2, hk2, hb2⟩ := hv.appended (by decide) hrow' hBz (by omega) hown' hgrow; have hc1 := hv1.cell; have hf1 := hv1.frozen)
    refine ⟨hk2.from _, ⟨hb2, (((FixKept.refl W).alloc _).trans hfix).boxed hv1 _⟩, ⟨_, hv2, ?_, .inr (by simp)⟩, hB.trans hb2⟩
    have q1 : (pre ++ [x]).length = pre.length + 1 := by simp
    have q2 : flat (pre ++ [x]) = flat pre ++ [.int .i64 x.lba, .int .i64 x.num, .int .i64 x.pos] := by rw [flat_append _ [x], flat_one]; rfl
    rw [q1, q2]
    exact hr2
  case done =>
    rintro D ys W hD rfl ⟨⟨v, hv, hrow, hG⟩, hB⟩ hK
    have hc := hv.cell
    obtain ⟨L, hL⟩ : ∃ L, (leftF a (a + m) l).length = L := ⟨_, rfl⟩
    rw [hL] at hrow hlenL
    have hDw : w.heap.size ≤ D := by omega
    cases L with
    | zero =>
      have h0 : leftF a (a + m) l = [] := List.length_eq_zero_iff.1 hL
      have h0' := Lib.hid h0
      obtain rfl : v = .slice none 0 0 := by
        rcases hG with hG | hG
        · exact hG
        · rw [hL] at hG; omega
      have cN := Lib.hid (merged_none W)
      have hKh := Lib.hid hK
      clear hrow hK hL h0 hd hlenL hG
      gi_wp2_with fail
      refine (callsIn_wide.2 cN).mono ?_
      rintro e w' ⟨rfl, rfl⟩
      gi_wp2
      refine ⟨by simp, .inl ⟨_, _, rfl, run_takeDeferred hKh, ?_⟩⟩
      rw [show leftF a (a + m) l = [] from h0']
      exact ⟨_, results_tmp2 rfl _ _ _, [], List.Perm.refl _, List.Pairwise.nil, .slice none 0 0, rfl, .inl ⟨none, 0, rfl, rfl⟩, hB.trans (belowK_b (w := w) (Nat.le_refl _) w' D _ _ hDw hKh rfl rfl)⟩
    | succ L =>
      obtain ⟨g, cap, rfl⟩ := ownsRow_succ hrow
      rw [← hd] at hrow
      have hdl : d.size = L + 1 := by
        have h1 := congrArg List.length hd
        rw [List.length_map, hL, Array.length_toList] at h1
        exact h1
      have hgl := (hrow.lt g rfl).2
      have hgD : g ≠ D := by
        rintro rfl
        rcases hrow.2 with ⟨h0, _⟩ | ⟨g1, cap1, cur1, h0, _, h1, _⟩
        · cases h0
        · cases h0
          rw [hK] at h1
          cases h1
      have cM := Lib.hid (merged_any w.heap.size g cap _ d hdl (by omega) (by omega) hdT W hB.size hrow)
      have hD' := Lib.hid hD
      have hKh := Lib.hid hK
      have hdh := Lib.hid hd
      have hc' := hc
      clear hrow hK hd hL hdl hlenL hG
      gi_wp2_with fail
      refine (callsIn_wide.2 cM).mono ?_
      rintro e w' ⟨s, v', hperm, hpw, rfl, hli, hBw, hgw⟩
      have hK2 : w'.heap[D]? = some (.deferred (some [])) := (hgw.block D (lt_of_block hKh) (by simpa using Ne.symm hgD)).trans hKh
      gi_wp2
      refine ⟨by simp, .inl ⟨_, _, rfl, run_takeDeferred hK2, ?_⟩⟩
      have hperm2 : s.Perm (leftF a (a + m) l) := by
        rw [show d.toList.map Subtype.val = _ from hdh] at hperm
        exact hperm
      exact ⟨_, results_tmp2 rfl _ _ _, s, hperm2, hpw, v', rfl, lies_put hli hK2, (hB.trans hBw).trans (belowK_b (w := w) (Nat.le_refl _) w' D _ _ hDw hK2 rfl rfl)⟩
  case stop =>
    rintro D c pre W _ _ h _
    exact h.elim

end Go.Proofs.Ytplplojhgiaabaa
