/- What a loop over 'left' needs: the iterator's value, the append that leaves the fixed blocks alone. -/
import Derived.RangeFuncNested
import Derived.Test.YtplplojhgiaabaaH
import Derived.Test.YtplplojhgiaabaaM
set_option linter.unusedVariables false
set_option linter.unusedSimpArgs false
set_option linter.unnecessarySimpa false
namespace Go.Proofs.Ytplplojhgiaabaa
open Go.RowKit Go.Shelf

attribute [local go_sem] Oper.semAt_some

theorem FixKept.of_grown {W W' : World} (h : W.grownBy W' none) : FixKept W W' := fun b o hb _ => (h.block b (lt_of_block hb) (by simp)).trans hb
theorem FixKept.of_row {W W' : World} {g : Nat} {cs : Array Value} {T : TypeId} (h : W.grownBy W' (some g)) (hg : W.heap[g]? = some (.cells cs T (0, 0))) (hT : T ≠ 3) (hs : T = 32 → cs.size ≠ 3) : FixKept W W' := by
  intro b o hb ho
  refine (h.block b (lt_of_block hb) ?_).trans hb
  intro e
  simp only [Option.some.injEq] at e
  subst e
  rw [hg] at hb
  cases hb
  obtain ⟨cs', ⟨h1, h2⟩ | h1⟩ := ho
  · simp only [Obj.cells.injEq, and_true] at h1
    exact hs h1.2 (by rw [h1.1]; exact h2)
  · simp only [Obj.cells.injEq, and_true] at h1
    exact hT h1.2

theorem owns_base {W : World} {B B' e size k : Nat} {v : Value} {xs : List Value} (h : W.ownsRow B e size v k xs) (hB : B' ≤ B) : W.ownsRow B' e size v k xs := by
  refine ⟨h.1, ?_⟩
  rcases h.2 with h0 | ⟨g, cap, cur, hv, hb, r⟩
  · exact .inl h0
  · exact .inr ⟨g, cap, cur, hv, Nat.le_trans hB hb, r⟩

theorem run_append_tiny (w : World) (B : Nat) (ty : TypeId) (v : Value) (k : Nat) (xs : List Value) (hown : w.ownsRow B 32 3 v k xs) (hv : v = .slice none 0 0 ∨ 1 ≤ k) (ad : Addr) (c : Nat) (news : List Value) (hn : news.length = 3)
    (hc : ∀ (j : Nat) (u : Value), news[j]? = some u → w.cell? (ad.add j) = some u) (h1 : ∀ u ∈ news, u.oneCell' = true) (hk : k ≤ 20000) (hB : B ≤ w.heap.size) :
    ∃ v' w', (Builtin.append_ #[22, 22] ty #[v, .slice (some ad) 1 c]).run Try.prog w = .ok v' w' ∧ w'.ownsRow B 32 3 v' (k + 1) (xs ++ news) ∧ w.grownBy w' v.ownBlock ∧ FixKept w w' := by
  obtain ⟨i0, hi, hz0, hz1, hz2⟩ := info_parts info32
  have big : (k + 1) * 24 ≤ 140737488355328 := by omega
  rcases hown.2 with ⟨rfl, rfl⟩ | ⟨g, cap, cur, rfl, hb, hg, hnc, hm, hs, ht⟩
  · obtain ⟨v', w', h2, h3, h4, _⟩ := run_append_own (P := Try.prog) w B 22 ty 32 i0 _ 3 24 Try.underlying22 hi hz0 hz1 hz2 rfl (by decide) _ _ _ hown ad 1 c news hn hc h1 (by simp only [maxLen]; omega) big hB
    exact ⟨v', w', h2, h3, h4, FixKept.of_grown h4⟩
  · have hk1 : 1 ≤ k := by
      rcases hv with hv | hv
      · cases hv
      · exact hv
    by_cases hroom : k + 1 ≤ cap
    · obtain ⟨v', w', h2, h3, h4, _⟩ := run_append_own (P := Try.prog) w B 22 ty 32 i0 _ 3 24 Try.underlying22 hi hz0 hz1 hz2 rfl (by decide) _ _ _ hown ad 1 c news hn hc h1 (by simp only [maxLen]; omega) big hB
      exact ⟨v', w', h2, h3, h4, FixKept.of_row h4 hg (by decide) (fun _ => by omega)⟩
    · obtain ⟨v', w', h2, h3, h4⟩ := run_append_arg_grows (P := Try.prog) w 22 ty 32 i0 _ 3 24 Try.underlying22 hi hz0 hz1 hz2 rfl (by decide) ⟨g, 0, none⟩ k cap xs hown.1 (hown.cells (g := g) rfl) ad 1 c news hn hc (by omega) (by simp only [maxLen]; omega) big
      exact ⟨v', w', h2, owns_base h3 hB, ⟨h4.os, h4.tape, h4.output, h4.size, fun j hj _ => h4.block j hj (by simp)⟩, FixKept.of_grown h4⟩

theorem wpListIn_append_tiny {F : Fence} {n : Nat} (w : World) {ops : Array Oper} {rest : List Oper} {o : Oper} {a : Act} {Q : Exit → Act → World → Prop}
    (hg : o.guard = none) (s x : Operand) (hop : o.op = Op.call { callee := Callee.builtin Builtin.append, args := #[s, x], argTypes := #[22, 22] })
    (B : Nat) (v : Value) (k : Nat) (xs : List Value) (hs : a.eval s = v) (hown : w.ownsRow B 32 3 v k xs) (hv : v = .slice none 0 0 ∨ 1 ≤ k) (ad : Addr) (c : Nat) (news : List Value) (hx : a.eval x = .slice (some ad) 1 c) (hn : news.length = 3)
    (hc : ∀ (j : Nat) (u : Value), news[j]? = some u → w.cell? (ad.add j) = some u) (h1 : ∀ u ∈ news, u.oneCell' = true) (hk : k ≤ 20000) (hB : B ≤ w.heap.size)
    (hK : ∀ v' w', w'.ownsRow B 32 3 v' (k + 1) (xs ++ news) → w.grownBy w' v.ownBlock → FixKept w w' → wpListIn F n Try.prog ops Q rest (a.put o.dst v') w') :
    wpListIn F n Try.prog ops Q (o :: rest) a w := by
  refine wpListIn_plain hg fun K hK' => ?_
  obtain ⟨v', w', hrun, r1, r2, r3⟩ := run_append_tiny w B o.type v k xs hown hv ad c news hn hc h1 hk hB
  unfold Oper.wpIn
  refine ⟨?_, ?_⟩
  · simp [Oper.about, hop, resolve, Target.leads, Sem.run_pure]
  · rw [Oper.semAt_plain F _ _ (by rw [hop]; intro c hc'; cases hc')]
    simp [execOp, hop, resolve, invoke, builtin, hs, hx, hrun, Result.andThen]
    exact hK' _ _ (hK v' w' r1 r2 r3)

theorem FixKept.boxed {A W : World} {B : Nat} {v : Value} (h : FixKept A W) (hb : Boxed W B 22 v) (u : Value) : FixKept A (W.setCell ⟨B, 0, none⟩ u) := by
  intro b o hb1 ho
  have h1 := h b o hb1 ho
  have hne : b ≠ B := by
    rintro rfl
    rw [show W.heap[b]? = _ from hb] at h1
    cases h1
    obtain ⟨cs', ⟨h2, _⟩ | h2⟩ := ho
    · simp at h2
    · simp at h2
  exact (Below.heap_setCell W ⟨B, 0, none⟩ u b hne).trans h1

/-- left(l, from, to): three boxes; a function value over them. -/
theorem left_in (F : Fence) (n : Nat) (h30 : F.fn 30) (hro : F.round = none) (sv : Value) (hsv : (∃ a len cap, sv = .slice a len cap)) (f t : Int) (w : World) :
    CallsIn F n Try.prog 30 #[sv, .int .i64 f, .int .i64 t] w fun e w' => e = .returned (.func (.func 40) #[] #[.pointer (some ⟨w.heap.size, 0, none⟩), .pointer (some ⟨w.heap.size + 1, 0, none⟩), .pointer (some ⟨w.heap.size + 1 + 1, 0, none⟩)]) ∧
      w' = ((w.alloc (.cells #[sv] 22)).alloc (.cells #[.int .i64 f] 3)).alloc (.cells #[.int .i64 t] 3) := by
  obtain ⟨a, len, cap, rfl⟩ := hsv
  refine callsIn_of_wp Try.func30 rfl h30 ?_ hro
  simp only [Try.ntmps30, List.size_toArray, List.length_cons, List.length_nil, Nat.reduceAdd, Nat.reduceSub, Array.replicate_succ, Array.replicate_zero, List.push_toArray, List.append_toArray, List.nil_append, List.cons_append]
  gi_wp2
  go_ret
  exact ⟨rfl, rfl⟩

set_option maxRecDepth 100000 in
set_option maxHeartbeats 1000000 in
/-- .. at the nil slice: no round. -/
theorem left1_nil_in (F : Fence) (n : Nat) (h40 : F.fn 40) (hro : F.round = none) (lo Bs : Nat) (p2 p3 : Value) (J : List X → World → Prop) (W : World) (a0 : Option Addr) (c0 : Nat) (hBs : W.cell? ⟨Bs, 0, none⟩ = some (.slice a0 0 c0)) (h0 : J [] W) :
    CallsIn F n Try.prog 40 #[.func (.yield lo) #[] #[], .pointer (some ⟨Bs, 0, none⟩), p2, p3] W fun e W' => (∃ v, e = .returned v) ∧ J [] W' := by
  refine callsIn_of_wp Try.func40 rfl h40 ?_ hro
  simp only [Try.ntmps40, List.size_toArray, List.length_cons, List.length_nil, Nat.reduceAdd, Nat.reduceSub, Array.replicate_succ, Array.replicate_zero, List.push_toArray, List.append_toArray, List.nil_append, List.cons_append]
  gi_wp2
  gi_loopw [11] (fun i wr => i = .int .i64 0 ∧ J [] wr) (fun _ _ => 0)
  case atStart => exact ⟨rfl, h0⟩
  case round =>
    obtain ⟨rfl, hJs⟩ := hrel
    gi_wp2
    go_end0
    exact ⟨⟨_, rfl⟩, hJs⟩

/-- left's value is an iterator: what is left of l comes, in order. -/
theorem left_stops (F : Fence) (n : Nat) (h40 : F.fn 40) (hro : F.round = none) (hn : 1 ≤ n) (Bs n₀ : Nat) (sv : Value) (l : List X) (hsz : l.length ≤ 4096) (hone : ∀ (k : Nat) (x : X), l[k]? = some x → One x) (f t : Int) (hf : 0 ≤ f ∧ f ≤ 8192) (ht : 0 ≤ t ∧ t ≤ 8192) (w : World)
    (hn₀ : n₀ ≤ w.heap.size) (hBs : w.cell? ⟨Bs, 0, none⟩ = some sv) (hBl : Bs < w.heap.size) (hBf : w.heap[Bs + 1]? = some (.cells #[.int .i64 f] 3 (0, 0))) (hBt : w.heap[Bs + 1 + 1]? = some (.cells #[.int .i64 t] 3 (0, 0)))
    (wl : World) (hwl : wl.heap.size = n₀) (hl : Lies wl sv l) (hbl : Below n₀ wl w) :
    SeqStopsK F n Try.prog 40 #[.pointer (some ⟨Bs, 0, none⟩), .pointer (some ⟨Bs + 1, 0, none⟩), .pointer (some ⟨Bs + 1 + 1, 0, none⟩)] (fun x : X => #[x.agg]) (Kp n₀) (fun ys => ys = leftF f t l) (fun _ => True) (2 * l.length) w := by
  intro lo J Jx W hW hJ hJx hY h0
  have hc' := (hW.cell (p := ⟨Bs, 0, none⟩) hBl).trans hBs
  have hf' := (hW.block _ (lt_of_block hBf)).trans hBf
  have ht' := (hW.block _ (lt_of_block hBt)).trans hBt
  have hWs := hW.size
  rcases hl with ⟨a0, c0, rfl, rfl⟩ | ⟨b, off, cap, rfl, hb, hc⟩
  · exact (left1_nil_in F n h40 hro lo Bs _ _ J W _ _ hc' h0).mono fun e W' ⟨he, hj⟩ => ⟨he, .inl ⟨_, rfl, hj⟩⟩
  · have hbn : b < n₀ := by omega
    refine (left1_in F n h40 hro hn lo Bs (Bs + 1) (Bs + 1 + 1) n₀ b off cap l.length l rfl hsz hone f t hf ht hbn W (by omega) J Jx hJ hY hc' hf' ht' (fun k x hx => ?_) h0).mono ?_
    · have h3 : At3 wl b (off + k * 3) x := ⟨(hc k x hx).1, (hc k x hx).2.1, (hc k x hx).2.2⟩
      exact (h3.below hbl hbn).below (hW.mono hn₀) hbn
    · rintro e W' ⟨he, ⟨ys, rfl, hj⟩ | ⟨pre, _, hj⟩⟩
      · exact ⟨he, .inl ⟨_, rfl, hj⟩⟩
      · exact ⟨he, .inr ⟨pre, trivial, hj⟩⟩

end Go.Proofs.Ytplplojhgiaabaa
