/- Set and Drop, the program's. -/
import Derived.Test.YtplplojhgiaabaaN
set_option linter.unusedVariables false
set_option linter.unusedSimpArgs false
set_option linter.unnecessarySimpa false
namespace Go.Proofs.Ytplplojhgiaabaa
open Go.RowKit Go.Shelf

attribute [local go_sem] Oper.semAt_some

/-- Set's or Drop's answer. -/
def answer (v : Value) (ok : Bool) : Value := .tuple #[v, .int .i64 (if ok then 0 else 70)]

set_option maxRecDepth 100000 in
set_option maxHeartbeats 4000000 in
theorem set_no (l : List X) (hl : ∀ x ∈ l, x.Ok) (hn : l.length ≤ 1000000000) (v : Value) (w : World) (h : Lies w v l) (x : X) (hx : x.Ok) (hno : ¬ (Good l ∧ One x)) :
    Calls Try.prog 19 #[v, x.agg] w fun e w' => e = .returned (answer (.slice none 0 0) false) ∧ Below w.heap.size w w' := by
  have hgo := fun (w' : World) (h : Lies w' v l) (r : Bool) (hr : r = true ↔ Good l) => good_any l hl hn v w' h r hr
  have hgo' := Lib.hid hgo
  have hal := Lib.hid (alone_any x hx)
  have hv : ∃ a len cap, v = .slice a len cap := by
    rcases h with ⟨_, _, rfl, _⟩ | ⟨b, off, cap, rfl, _⟩
    · exact ⟨_, _, _, rfl⟩
    · exact ⟨_, _, _, rfl⟩
  obtain ⟨va, vl, vc, rfl⟩ := hv
  have hno' := Lib.hid hno
  have h' := Lib.hid h
  clear hgo hl hno h
  obtain ⟨a, m, p⟩ := x
  simp only [X.agg] at *
  unfold answer
  have hB0 : Below w.heap.size w (w.alloc (.cells #[.int .i64 a, .int .i64 m, .int .i64 p] 32)) := (Below.refl _ w).alloc (Nat.le_refl _) _
  have hL0 := Lib.hid (Lies.below h' hB0 (Nat.le_refl _))
  by_cases hg : Good l
  · have hb : ¬ One ⟨a, m, p⟩ := fun hb => hno' ⟨hg, hb⟩
    have c1 := Lib.hid (hgo' _ hL0 true (by simp [hg]))
    have hdf : decide (One ⟨a, m, p⟩) = false := decide_eq_false hb
    rw [hdf] at hal
    have hal' := Lib.hid hal
    clear hal hgo' hg hb hdf hno'
    go_enter Try.func19, Try.ntmps19
    go_wp2_with fail
    refine c1.mono ?_
    rintro e w1 ⟨rfl, hB1⟩
    obtain ⟨k0, k1, k2⟩ := kept3 hB1
    have hB01 := below_alloc (Below.refl _ w) (Nat.le_refl _) hB1
    go_wp2_with fail
    refine (hal' _).mono ?_
    rintro e w2 ⟨rfl, hB2⟩
    have hB02 := hB01.trans (hB2.mono hB01.size)
    go_wp2
    go_ret2
    exact ⟨rfl, hB02⟩
  · have c1 := Lib.hid (hgo' _ hL0 false (by simp [hg]))
    clear hal hgo' hg hno'
    go_enter Try.func19, Try.ntmps19
    go_wp2_with fail
    refine c1.mono ?_
    rintro e w1 ⟨rfl, hB1⟩
    have hB01 := below_alloc (Below.refl _ w) (Nat.le_refl _) hB1
    go_wp2
    go_ret2
    exact ⟨rfl, hB01⟩

theorem gds (L : List X) (h : ∀ y ∈ L, Tame y) : ∃ d : Array Gd, d.toList.map Subtype.val = L ∧ ∀ x ∈ d.toList, Tame x.1 := by
  induction L with
  | nil => exact ⟨#[], rfl, by simp⟩
  | cons y L ih =>
    obtain ⟨d, hd, hT⟩ := ih (fun z hz => h z (by simp [hz]))
    have hy := h y (by simp)
    refine ⟨(⟨y, hy.1, hy.2.1⟩ :: d.toList).toArray, by simp [hd], ?_⟩
    intro x hx
    simp only [List.mem_cons] at hx
    rcases hx with rfl | hx
    · exact hy
    · exact hT x (by simpa using hx)

theorem leftF_tame {l : List X} (hone : ∀ (k : Nat) (y : X), l[k]? = some y → One y) {f t : Int} (hf : 0 ≤ f ∧ f ≤ 8192) (ht : 0 ≤ t ∧ t ≤ 8192) : ∀ y ∈ leftF f t l, Tame y := by
  intro y hy
  unfold leftF at hy
  rw [List.mem_flatMap] at hy
  obtain ⟨x, hx, hy⟩ := hy
  obtain ⟨k, hk, rfl⟩ := List.getElem_of_mem hx
  have ho := hone k _ (List.getElem?_eq_getElem hk)
  generalize l[k] = x at ho hy
  unfold One at ho
  unfold left1 at hy
  rw [List.mem_append] at hy
  rcases hy with hy | hy
  · split at hy
    · rw [List.mem_singleton] at hy
      subst hy
      unfold Tame
      dsimp only
      omega
    · simp at hy
  · split at hy
    · rw [List.mem_singleton] at hy
      subst hy
      unfold Tame
      dsimp only
      omega
    · simp at hy

theorem box_own {A B : World} {row : Option Nat} {b : Nat} {cs : Array Value} {T : TypeId} {k : Nat} (h : A.heap[b]? = some (.cells cs T (0, 0))) (hg : A.grownBy B row) (hr : ∀ r, row = some r → k ≤ r ∧ ∃ o : Obj, A.heap[r]? = some o ∧ o.isCells = false) : B.heap[b]? = some (.cells cs T (0, 0)) := by
  refine (hg.block b (lt_of_block h) ?_).trans h
  intro e
  obtain ⟨_, o, ho, hc⟩ := hr b e.symm
  rw [h] at ho
  cases ho
  cases hc

theorem lies_put {W : World} {v : Value} {l : List X} {D : Nat} {q : Option (List Deferred)} {o : Obj} (h : Lies W v l) (hD : W.heap[D]? = some (.deferred q)) : Lies (W.putObj D o) v l := by
  rcases h with h | ⟨b, off, cap, rfl, hb, hc⟩
  · exact .inl h
  · have hg := grownBy_putObj' W D o
    have hz := hg.size
    refine .inr ⟨b, off, cap, rfl, by omega, fun k x hx => ?_⟩
    obtain ⟨h1, h2, h3⟩ := hc k x hx
    have hne : b ≠ D := by
      rintro rfl
      simp [World.cell?, hD] at h1
    have hbk := hg.block b hb (by simpa using hne)
    exact ⟨(World.cell?_of_block (a := ⟨b, _, none⟩) hbk).trans h1, (World.cell?_of_block (a := ⟨b, _, none⟩) hbk).trans h2, (World.cell?_of_block (a := ⟨b, _, none⟩) hbk).trans h3⟩

/-- The three boxes of 'left', where they lie. -/
theorem trio (W : World) (sv f t : Value) : (((W.alloc (.cells #[sv] 22)).alloc (.cells #[f] 3)).alloc (.cells #[t] 3)).cell? ⟨W.heap.size, 0, none⟩ = some sv ∧
    (((W.alloc (.cells #[sv] 22)).alloc (.cells #[f] 3)).alloc (.cells #[t] 3)).heap[W.heap.size + 1]? = some (.cells #[f] 3 (0, 0)) ∧ (((W.alloc (.cells #[sv] 22)).alloc (.cells #[f] 3)).alloc (.cells #[t] 3)).heap[W.heap.size + 1 + 1]? = some (.cells #[t] 3 (0, 0)) ∧
    (((W.alloc (.cells #[sv] 22)).alloc (.cells #[f] 3)).alloc (.cells #[t] 3)).heap.size = W.heap.size + 1 + 1 + 1 ∧ ∀ n, n ≤ W.heap.size → Below n W (((W.alloc (.cells #[sv] 22)).alloc (.cells #[f] 3)).alloc (.cells #[t] 3)) := by
  have a1 := heap_alloc_new W (.cells #[sv] 22)
  have a2 := heap_alloc_new (W.alloc (.cells #[sv] 22)) (.cells #[f] 3)
  have a3 := heap_alloc_new ((W.alloc (.cells #[sv] 22)).alloc (.cells #[f] 3)) (.cells #[t] 3)
  have b2 := heap_alloc_old ((W.alloc (.cells #[sv] 22)).alloc (.cells #[f] 3)) (.cells #[t] 3)
  have b1 := heap_alloc_old (W.alloc (.cells #[sv] 22)) (.cells #[f] 3)
  simp only [World.size_alloc] at a1 a2 a3 b1 b2 ⊢
  refine ⟨?_, ?_, a3, trivial, fun n hn => ?_⟩
  · have : (((W.alloc (.cells #[sv] 22)).alloc (.cells #[f] 3)).alloc (.cells #[t] 3)).heap[W.heap.size]? = some (.cells #[sv] 22 (0, 0)) := (b2 _ (by omega)).trans ((b1 _ (by omega)).trans a1)
    simp only [World.cell?, this]
    rfl
  · exact (b2 _ (by omega)).trans a2
  · exact (((Below.refl n W).alloc hn _).alloc (by simp; omega) _).alloc (by simp; omega) _

set_option maxRecDepth 100000 in
set_option maxHeartbeats 4000000 in
theorem set_yes (l : List X) (hn : l.length ≤ 4096) (v : Value) (w : World) (h : Lies w v l) (x : X) (hg : Good l) (ho : One x) :
    Calls Try.prog 19 #[v, x.agg] w fun e w' => ∃ (s : List X) (v' : Value), s.Perm (x :: leftF x.lba (x.lba + x.num) l) ∧ s.Pairwise (fun y z => y.lba ≤ z.lba) ∧ e = .returned (answer v' true) ∧ Lies w' v' (mergedF s) ∧ Below w.heap.size w w' := by
  have hl : ∀ x ∈ l, x.Ok := by
    intro y hy
    obtain ⟨k, hk, rfl⟩ := List.getElem_of_mem hy
    have := hg.one (List.getElem?_eq_getElem hk)
    unfold One at this
    unfold X.Ok fits
    omega
  have hxo : x.Ok := by unfold One at ho; unfold X.Ok fits; omega
  have hone := Lib.hid (fun (k : Nat) (y : X) (hy : l[k]? = some y) => hg.one hy)
  have hal := alone_any x hxo
  have hdt : decide (One x) = true := decide_eq_true ho
  rw [hdt] at hal
  have hv : ∃ a len cap, v = .slice a len cap := by
    rcases h with ⟨_, _, rfl, _⟩ | ⟨b, off, cap, rfl, _⟩
    · exact ⟨_, _, _, rfl⟩
    · exact ⟨_, _, _, rfl⟩
  obtain ⟨va, vl, vc, rfl⟩ := hv
  obtain ⟨a, m, p⟩ := x
  simp only [X.agg] at *
  unfold answer
  have hB0 : Below w.heap.size w (w.alloc (.cells #[.int .i64 a, .int .i64 m, .int .i64 p] 32)) := (Below.refl _ w).alloc (Nat.le_refl _) _
  have hL0 := Lies.below h hB0 (Nat.le_refl _)
  have c1 := Lib.hid (good_any l hl (by omega) _ _ hL0 true (by simp [hg]))
  have hal' := Lib.hid hal
  have h' := Lib.hid h
  unfold One at ho
  dsimp only at ho
  obtain ⟨o1, o2, o3, o4, o5, o6⟩ := ho
  clear hal hl hL0 hg h hdt hxo
  have w14 : Fence.wide.fn 14 := trivial
  have w28 : Fence.wide.fn 28 := trivial
  have w30 : Fence.wide.fn 30 := trivial
  have w31 : Fence.wide.fn 31 := trivial
  have w40 : Fence.wide.fn 40 := trivial
  refine (callsIn_wide (n := 6)).1 ?_
  refine callsIn_of_wp_marks Try.func19 rfl trivial ?_ rfl
  simp only [Try.ntmps19, List.size_toArray, List.length_cons, List.length_nil, Nat.reduceAdd, Nat.reduceSub, Array.replicate_succ, Array.replicate_zero, List.push_toArray, List.append_toArray, List.nil_append, List.cons_append]
  gi_wp2_with fail
  refine (callsIn_wide.2 c1).mono ?_
  rintro e w1 ⟨rfl, hB1⟩
  obtain ⟨k0, k1, k2⟩ := kept3 hB1
  have hB01 := below_alloc (Below.refl _ w) (Nat.le_refl _) hB1
  have hlt1 : w.heap.size < w1.heap.size := by have := hB1.size; simp at this; omega
  gi_wp2_with fail
  refine (callsIn_wide.2 (hal' _)).mono ?_
  rintro e w2 ⟨rfl, hB2⟩
  have hB02 := hB01.trans (hB2.mono hB01.size)
  have j0 := (hB2.cell (p := ⟨w.heap.size, 0, none⟩) hlt1).trans k0
  have j1 := (hB2.cell (p := ⟨w.heap.size, 1, none⟩) hlt1).trans k1
  have j2 := (hB2.cell (p := ⟨w.heap.size, 2, none⟩) hlt1).trans k2
  have hlt2 : w.heap.size < w2.heap.size := by have := hB2.size; omega
  clear k0 k1 k2 hB1 hB2 c1 hal'
  gi_wp2_with fail
  refine (left_in Fence.wide 5 w30 rfl _ ⟨_, _, _, rfl⟩ _ _ _).mono ?_
  rintro e w3 ⟨rfl, hw3⟩
  obtain ⟨t1, t2, t3, t4, t5⟩ := trio ((w2.alloc (.cells #[.int .i64 a, .int .i64 m, .int .i64 p] 32)).alloc (.cells #[.slice (some ⟨w2.heap.size, 0, none⟩) 1 1] 22)) (.slice va vl vc) (.int .i64 a) (.int .i64 (a + m))
  rw [← hw3] at t1 t2 t3 t4 t5
  simp only [World.size_alloc] at t1 t2 t3 t4 t5 ⊢
  have hB03 : Below w.heap.size w w3 := ((hB02.alloc (by omega) _).alloc (by simp; omega) _).trans (t5 _ (by omega))
  have hrow0 : w2.heap.size < w3.heap.size ∧ w3.heap[w2.heap.size]? = some (.cells #[.int .i64 a, .int .i64 m, .int .i64 p] 32 (0, 0)) := by
    have h1 := (t5 _ (Nat.le_refl _)).block w2.heap.size (by omega)
    rw [heap_alloc_old _ _ _ (by simp), heap_alloc_new] at h1
    exact ⟨by omega, h1⟩
  have hbox0 : Boxed w3 (w2.heap.size + 1) 22 (.slice (some ⟨w2.heap.size, 0, none⟩) 1 1) := by
    have h1 := (t5 _ (Nat.le_refl _)).block (w2.heap.size + 1) (by omega)
    have h2 := heap_alloc_new (w2.alloc (.cells #[.int .i64 a, .int .i64 m, .int .i64 p] 32)) (.cells #[.slice (some ⟨w2.heap.size, 0, none⟩) 1 1] 22)
    rw [World.size_alloc] at h2
    exact h1.trans h2
  have hown0 : w3.ownsRow w.heap.size 32 3 (.slice (some ⟨w2.heap.size, 0, none⟩) 1 1) 1 (flat [⟨a, m, p⟩]) :=
    ⟨rfl, .inr ⟨w2.heap.size, 1, _, rfl, by omega, hrow0.2, Nat.le_refl _, by decide, rfl, rfl⟩⟩
  clear hw3 t5 hB02 hrow0
  generalize hN : w2.heap.size = N at t1 t2 t3 t4 hbox0 hown0 hlt2 ⊢
  clear hN
  have hT0 : Tame ⟨a, m, p⟩ := by unfold Tame; dsimp only; omega
  obtain ⟨d, hd, hdT⟩ := gds ([(⟨a, m, p⟩ : X)] ++ leftF a (a + m) l) (by
    intro y hy
    rcases List.mem_append.1 hy with hy | hy
    · rw [List.mem_singleton] at hy; rw [hy]; exact hT0
    · exact leftF_tame hone (by omega) (by omega) y hy)
  have hlenL := leftF_length a (a + m) l
  gi_wp2
  refine wpIn_rangeFunc_ownH rfl (by omega) (gf := 40) (lb := #[.pointer (some ⟨N + 1 + 1, 0, none⟩), .pointer (some ⟨N + 1 + 1 + 1, 0, none⟩), .pointer (some ⟨N + 1 + 1 + 1 + 1, 0, none⟩)]) rfl w40 (enters_of Try.func40 (by kernel_rfl) rfl)
    (left_stops Fence.wide (6 - 1) w40 rfl (by omega) (N + 1 + 1) w.heap.size (.slice va vl vc) l hn hone a (a + m) (by omega) (by omega) w3 (by omega) t1 (by omega) t2 t3 w rfl h' hB03) kp_t (kp_b (by omega)) (Below.refl _ _) (fun _ => rfl)
    (fun pre W => (∃ v, Boxed W (N + 1) 22 v ∧ W.ownsRow w.heap.size 32 3 v ([(⟨a, m, p⟩ : X)] ++ pre).length (flat ([(⟨a, m, p⟩ : X)] ++ pre)) ∧ (v = .slice none 0 0 ∨ 1 ≤ ([(⟨a, m, p⟩ : X)] ++ pre : List X).length)) ∧ Below w.heap.size w W)
    (fun _ _ _ => False)
    (OwnFrom.and (Own.from (holdsRow_own w.heap.size (N + 1) 22 32 3 (fun pre => ([(⟨a, m, p⟩ : X)] ++ pre : List X).length) (fun pre => flat ([(⟨a, m, p⟩ : X)] ++ pre)) (fun pre v => v = .slice none 0 0 ∨ 1 ≤ ([(⟨a, m, p⟩ : X)] ++ pre : List X).length)) _) (ownFrom_below (Nat.le_refl _) (by omega)))
    (fun _ _ _ _ _ hs _ _ => hs)
    ⟨⟨_, hbox0, hown0, .inr (Nat.le_refl _)⟩, hB03⟩
    (fun x a' W => ∃ Bx, N + 1 < Bx ∧ W.heap[Bx]? = some (.cells #[.int .i64 x.lba, .int .i64 x.num, .int .i64 x.pos] 32 (0, 0)) ∧ a' = { tmps := #[.slice va vl vc, .agg #[.int .i64 a, .int .i64 m, .int .i64 p], undef, .pointer (some ⟨w.heap.size, 0, none⟩), .slice none 0 0, .int .i64 0, .pointer (some ⟨N + 1, 0, none⟩), .pointer (some ⟨Bx, 0, none⟩), .slice va vl vc, .bool true, .bool false, .bool false, .agg #[.int .i64 a, .int .i64 m, .int .i64 p], .bool true, .bool false, .bool false, .agg #[.int .i64 a, .int .i64 m, .int .i64 p], .slice (some ⟨N, 0, none⟩) 1 1, .slice va vl vc, .pointer (some ⟨w.heap.size, 0, none⟩), .int .i64 a, .pointer (some ⟨w.heap.size, 0, none⟩), .int .i64 a, .pointer (some ⟨w.heap.size, 1, none⟩), .int .i64 m, .int .i64 (a + m), .func (.func 40) #[] #[.pointer (some ⟨N + 1 + 1, 0, none⟩), .pointer (some ⟨N + 1 + 1 + 1, 0, none⟩), .pointer (some ⟨N + 1 + 1 + 1 + 1, 0, none⟩)], .agg #[.int .i64 x.lba, .int .i64 x.num, .int .i64 x.pos], undef, undef, undef, undef, undef, undef], defers := [] })
    (fun x a' _ X Y row hs hg hr => by obtain ⟨Bx, h1, h2, h3⟩ := hs; exact ⟨Bx, h1, box_own h2 hg hr, h3⟩)
    ?assign ?body ?done ?stop
  case assign =>
    rintro lo pre x W K ⟨⟨v, hv, hrow, hG⟩, hB⟩ hK
    simp only [X.agg]
    gi_wp2
    exact hK _ _ ((KeepsOthers.alloc _ _).from _) ⟨(Below.refl _ W).alloc hB.size _, (FixKept.refl W).alloc _⟩ ⟨⟨v, hv.alloc _, hrow.alloc _, hG⟩, hB.alloc hB.size _⟩ ⟨W.heap.size, hv.lt, heap_alloc_new W _, rfl⟩
  case body =>
    rintro lo pre x a' W hlo ⟨rr, hrr⟩ ⟨⟨v, hv, hrow, hG⟩, hB⟩ ⟨Bx, hBx, bX, rfl⟩ hlt
    have hc := hv.cell
    have x0 : W.cell? ⟨Bx, 0, none⟩ = some (.int .i64 x.lba) := by simp only [World.cell?, bX]; rfl
    have x1 : W.cell? ⟨Bx, 1, none⟩ = some (.int .i64 x.num) := by simp only [World.cell?, bX]; rfl
    have x2 : W.cell? ⟨Bx, 2, none⟩ = some (.int .i64 x.pos) := by simp only [World.cell?, bX]; rfl
    have bX' := Lib.hid bX
    have hrow' := Lib.hid hrow
    have hBz := hB.size
    have hlp : ([(⟨a, m, p⟩ : X)] ++ pre : List X).length ≤ 20000 := by simp; omega
    clear bX hrow
    gi_wp2_with (gi_at_builtin; refine wpListIn_append_tiny _ rfl _ _ rfl w.heap.size v _ _ rfl (hrow'.alloc _) hG ⟨W.heap.size, 0, none⟩ 1 [.int .i64 x.lba, .int .i64 x.num, .int .i64 x.pos] rfl rfl (cells_new3 W x.lba x.num x.pos) (by intro u hu; simp at hu; rcases hu with rfl | rfl | rfl <;> rfl) hlp (by simp; omega) ?_; intro v' w1 hown' hgrow hfix; obtain ⟨g', cap', rfl⟩ := ownsRow_succ hown'; obtain ⟨hv1, hv2, hr2, hk2, hb2⟩ := hv.appended (by decide) hrow' hBz (by omega) hown' hgrow; have hc1 := hv1.cell; have hf1 := hv1.frozen)
    refine ⟨hk2.from _, ⟨hb2, (((FixKept.refl W).alloc _).trans hfix).boxed hv1 _⟩, ⟨_, hv2, ?_, .inr (by simp)⟩, hB.trans hb2⟩
    have q1 : ([(⟨a, m, p⟩ : X)] ++ (pre ++ [x])).length = ([(⟨a, m, p⟩ : X)] ++ pre).length + 1 := by simp
    have q2 : flat ([(⟨a, m, p⟩ : X)] ++ (pre ++ [x])) = flat ([(⟨a, m, p⟩ : X)] ++ pre) ++ [.int .i64 x.lba, .int .i64 x.num, .int .i64 x.pos] := by rw [← List.append_assoc, flat_append _ [x], flat_one]; rfl
    rw [q1, q2]
    exact hr2
  case done =>
    rintro D ys W hD rfl ⟨⟨v, hv, hrow, hG⟩, hB⟩ hK
    have hc := hv.cell
    have hln : ([(⟨a, m, p⟩ : X)] ++ leftF a (a + m) l : List X).length = (leftF a (a + m) l).length + 1 := by simp
    rw [hln] at hrow
    obtain ⟨g, cap, rfl⟩ := ownsRow_succ hrow
    rw [← hd] at hrow
    have hdl : d.size = (leftF a (a + m) l).length + 1 := by
      have h1 := congrArg List.length hd
      rw [List.length_map, hln, Array.length_toList] at h1
      exact h1
    have hgl := (hrow.lt g rfl).2
    have hgD : g ≠ D := by
      rintro rfl
      rcases hrow.2 with ⟨h0, _⟩ | ⟨g1, cap1, cur1, h0, _, h1, _⟩
      · cases h0
      · cases h0
        rw [hK] at h1
        cases h1
    have cM := Lib.hid (merged_any w.heap.size g cap _ d hdl (by omega) (by omega) hdT W hB.size hrow)
    have hD' := Lib.hid hD
    have hKh := Lib.hid hK
    have hdh := Lib.hid hd
    obtain ⟨L, hL⟩ : ∃ L, (leftF a (a + m) l).length = L := ⟨_, rfl⟩
    rw [hL] at cM hc hlenL
    have hc' := hc
    clear hrow hK hd hL hdl hln hlenL
    gi_wp2_with fail
    refine (callsIn_wide.2 cM).mono ?_
    rintro e w' ⟨s, v', hperm, hpw, rfl, hli, hBw, hgw⟩
    have hK2 : w'.heap[D]? = some (.deferred (some [])) := (hgw.block D (lt_of_block hKh) (by simpa using Ne.symm hgD)).trans hKh
    gi_wp2
    refine ⟨by simp, .inl ⟨_, _, rfl, run_takeDeferred hK2, ?_⟩⟩
    have hDw : w.heap.size ≤ D := by have h1 : w3.heap.size ≤ D := hD'; omega
    have hperm2 : s.Perm (⟨a, m, p⟩ :: leftF a (a + m) l) := by
      rw [show d.toList.map Subtype.val = _ from hdh] at hperm
      exact hperm
    exact ⟨_, results_tmp2 rfl _ _ _, s, hperm2, hpw, v', rfl, lies_put hli hK2, (hB.trans hBw).trans (belowK_b (w := w) (Nat.le_refl _) w' D _ _ hDw hK2 rfl rfl)⟩
  case stop =>
    rintro D c pre W _ _ h _
    exact h.elim

end Go.Proofs.Ytplplojhgiaabaa
