/- A row of extents of one's own; few; slices.Clone. -/
import Derived.Test.YtplplojhgiaabaaF
import Derived.Laws.AppendOwnNone
import Derived.Lib.SliceRun
set_option linter.unusedVariables false
set_option linter.unusedSimpArgs false
set_option linter.unnecessarySimpa false
namespace Go.Proofs.Ytplplojhgiaabaa
open Go.RowKit

def flat (l : List X) : List Value := l.flatMap X.vs

theorem flat_cons (x : X) (l : List X) : flat (x :: l) = x.vs ++ flat l := by simp [flat]
theorem flat_append (l l' : List X) : flat (l ++ l') = flat l ++ flat l' := by simp [flat]
theorem flat_one (x : X) : flat [x] = x.vs := by simp [flat]
theorem vs_length (x : X) : x.vs.length = 3 := rfl
theorem flat_length (l : List X) : (flat l).length = l.length * 3 := by
  induction l with
  | nil => rfl
  | cons x l ih => rw [flat_cons, List.length_append, ih, vs_length, List.length_cons]; omega
theorem flat_get {l : List X} : ∀ {k : Nat} {x : X}, l[k]? = some x → ∀ i, i < 3 → (flat l)[k * 3 + i]? = x.vs[i]? := by
  induction l with
  | nil => intro k x h; simp at h
  | cons y l ih =>
    intro k x h i hi
    rw [flat_cons]
    cases k with
    | zero =>
      simp only [List.getElem?_cons_zero, Option.some.injEq] at h
      subst h
      rw [List.getElem?_append_left (by rw [vs_length]; omega)]
      simp
    | succ k =>
      simp only [List.getElem?_cons_succ] at h
      rw [List.getElem?_append_right (by rw [vs_length]; omega), vs_length, show (k + 1) * 3 + i - 3 = k * 3 + i by omega]
      exact ih h i hi
theorem flat_at {l : List X} {j : Nat} {u : Value} (h : (flat l)[j]? = some u) : ∃ k x i, l[k]? = some x ∧ i < 3 ∧ j = k * 3 + i ∧ x.vs[i]? = some u := by
  have hj : j < (flat l).length := (List.getElem?_eq_some_iff.1 h).1
  rw [flat_length] at hj
  have hk : j / 3 < l.length := by omega
  have hx : l[j / 3]? = some l[j / 3] := List.getElem?_eq_getElem hk
  refine ⟨j / 3, l[j / 3], j % 3, hx, by omega, by omega, ?_⟩
  rw [← flat_get hx (j % 3) (by omega), show j / 3 * 3 + j % 3 = j by omega]
  exact h
theorem flat_one' {l : List X} : ∀ u ∈ flat l, u.oneCell' = true := by
  intro u hu
  simp only [flat, List.mem_flatMap] at hu
  obtain ⟨x, _, hx⟩ := hu
  simp [X.vs] at hx
  rcases hx with rfl | rfl | rfl <;> rfl

theorem lies_owned {W : World} {base : Nat} {v : Value} {l : List X} (h : W.ownsRow base 32 3 v l.length (flat l)) : Lies W v l := by
  rcases h.2 with ⟨rfl, h0⟩ | ⟨g, cap, cur, rfl, hb, hg, hn, hm, hs, ht⟩
  · exact .inl ⟨none, 0, rfl, List.length_eq_zero_iff.1 h0⟩
  · refine .inr ⟨g, 0, cap, rfl, lt_of_block hg, fun k x hk => ?_⟩
    have hkl : k < l.length := (List.getElem?_eq_some_iff.1 hk).1
    have hc : ∀ i, i < 3 → W.cell? ⟨g, k * 3 + i, none⟩ = x.vs[i]? := by
      intro i hi
      have h1 : W.cell? ⟨g, k * 3 + i, none⟩ = cur[k * 3 + i]? := by simp [World.cell?, hg]
      rw [h1, ← flat_get hk i hi, ← ht, List.getElem?_take_of_lt (by omega), Array.getElem?_toList]
    have h0 := hc 0 (by omega)
    have h1 := hc 1 (by omega)
    have h2 := hc 2 (by omega)
    simp only [Nat.zero_add, Nat.add_zero] at h0 h1 h2 ⊢
    exact ⟨h0, h1, h2⟩

theorem cells_lie {W : World} {b off : Nat} {l : List X} (hc : ∀ k x, l[k]? = some x → At3 W b (off + k * 3) x) (j : Nat) (u : Value) (h : (flat l)[j]? = some u) : W.cell? ((⟨b, off, none⟩ : Addr).add j) = some u := by
  obtain ⟨k, x, i, hx, hi, rfl, hu⟩ := flat_at h
  have h3 := hc k x hx
  have ha : (⟨b, off, none⟩ : Addr).add (k * 3 + i) = ⟨b, off + (k * 3 + i), none⟩ := by simp [Addr.add]
  rw [ha]
  have hi' : i = 0 ∨ i = 1 ∨ i = 2 := by omega
  rcases hi' with rfl | rfl | rfl
  · simp only [X.vs, List.getElem?_cons_zero, Option.some.injEq] at hu
    rw [← hu]; exact h3.c0
  · simp only [X.vs, List.getElem?_cons_zero, List.getElem?_cons_succ, Option.some.injEq] at hu
    rw [← hu, ← Nat.add_assoc]; exact h3.c1
  · simp only [X.vs, List.getElem?_cons_zero, List.getElem?_cons_succ, Option.some.injEq] at hu
    rw [← hu, ← Nat.add_assoc]; exact h3.c2

theorem info32 : (Try.prog.info? 32).map (fun i => (i.zero, i.size, i.bytes)) = some (some (.agg #[.int .i64 0, .int .i64 0, .int .i64 0]), 3, 24) := by kernel_rfl


theorem owns_empty (W : World) : (W.alloc (.cells #[] 32)).ownsRow W.heap.size 32 3 (.slice (some ⟨W.heap.size, 0, none⟩) 0 0) 0 [] :=
  ⟨rfl, .inr ⟨W.heap.size, 0, #[], rfl, Nat.le_refl _, heap_alloc_new W _, Nat.le_refl _, Nat.zero_le _, rfl, rfl⟩⟩

theorem few_row (ad : Addr) (cap n : Nat) (l : List X) (hnl : l.length = n) (hn : l.length ≤ 100000000) (w : World) (hc : ∀ (j : Nat) (u : Value), (flat l)[j]? = some u → (w.alloc (.cells #[] 32)).cell? (ad.add j) = some u)
    {ops : Array Oper} {rest : List Oper} {o : Oper} {a : Act} {Q : Exit → Act → World → Prop} (hgd : o.guard = none) (s x : Operand)
    (ho : o.op = .call { callee := .builtin .append, args := #[s, x], argTypes := #[22, 22] }) (hs : a.eval s = .slice (some ⟨w.heap.size, 0, none⟩) 0 0) (hx : a.eval x = .slice (some ad) n cap)
    (h : ∀ v' w', Lies w' v' l → Below w.heap.size w w' → wpList Try.prog ops Q rest (a.put o.dst v') w') : wpList Try.prog ops Q (o :: rest) a (w.alloc (.cells #[] 32)) := by
  subst hnl
  obtain ⟨i0, hi, hz0, hz1, hz2⟩ := info_parts info32
  have hb0 := (Below.refl w.heap.size w).alloc (Nat.le_refl _) (.cells #[] 32)
  refine wpList_append_own (w.alloc (.cells #[] 32)) hgd s x 22 ho w.heap.size 32 i0 _ 3 24 Try.underlying22 hi hz0 hz1 hz2 rfl (by decide) _ 0 [] hs (owns_empty w) ad l.length cap (flat l) hx (flat_length l)
    hc flat_one' (by simp only [maxLen]; omega) (by omega) (by simp) ?_
  intro v' w' hown hg _
  simp only [Nat.zero_add, List.nil_append] at hown
  refine h v' w' (lies_owned hown) (hb0.grown hg (by simp) ?_)
  intro k hk
  simp [Value.ownBlock] at hk
  omega

set_option maxRecDepth 100000 in
set_option maxHeartbeats 2000000 in
theorem few_any (l : List X) (hn : l.length ≤ 100000000) (v : Value) (w : World) (h : Lies w v l) :
    Calls Try.prog 11 #[v] w fun e w' => ∃ v', e = .returned v' ∧ Lies w' v' l ∧ Below w.heap.size w w' := by
  rcases h with ⟨a0, c0, rfl, rfl⟩ | ⟨b, off, cap, rfl, hb, hc⟩
  · cases a0 with
    | none =>
      go_enter Try.func11, Try.ntmps11
      go_wp2_with fail
      go_ret
      exact ⟨_, rfl, lies_owned (owns_empty w), (Below.refl _ _).alloc (Nat.le_refl _) _⟩
    | some ad =>
      have hc3 := Lib.hid (show ∀ (j : Nat) (u : Value), (flat [])[j]? = some u → (w.alloc (.cells #[] 32)).cell? (ad.add j) = some u from fun j u h => by simp [flat] at h)
      go_enter Try.func11, Try.ntmps11
      go_wp2_with (at_builtin; refine few_row ad c0 0 [] rfl (by decide) w hc3 rfl (.tmp 3) (.tmp 4) rfl rfl rfl ?_; intro v' w' hl hB)
      go_ret
      exact ⟨_, rfl, hl, hB⟩
  · have hb0 := (Below.refl w.heap.size w).alloc (Nat.le_refl _) (.cells #[] 32)
    have hc3 := Lib.hid (cells_lie (l := l) (W := w.alloc (.cells #[] 32)) (b := b) (off := off) fun k x hk => (show At3 w b (off + k * 3) x from ⟨(hc k x hk).1, (hc k x hk).2.1, (hc k x hk).2.2⟩).below hb0 hb)
    clear hb0
    have hn' := hn
    clear hc
    obtain ⟨n, hnl⟩ : ∃ n, l.length = n := ⟨_, rfl⟩
    rw [hnl] at hn ⊢
    have hnh := Lib.hid hnl
    clear hnl
    go_enter Try.func11, Try.ntmps11
    go_wp2_with (at_builtin; refine few_row ⟨b, off, none⟩ cap n l hnh hn' w hc3 rfl (.tmp 3) (.tmp 4) rfl rfl rfl ?_; intro v' w' hl hB)
    go_ret
    exact ⟨_, rfl, hl, hB⟩

set_option maxRecDepth 100000 in
set_option maxHeartbeats 2000000 in
theorem clone_any (l : List X) (hn : l.length ≤ 100000000) (v : Value) (w : World) (h : Lies w v l) :
    Calls Try.prog 33 #[v] w fun e w' => ∃ v', e = .returned v' ∧ Lies w' v' l ∧ Below w.heap.size w w' := by
  have q22 : ∀ (w : World) (a : Option Addr) (n c n' c' : Nat), Sem.run Try.prog (binOp .eql 22 (.slice a n c) (.slice none n' c')) w = .ok (.bool a.isNone) w := fun w a n c n' c' => Lib.run_eql_slice_nil w _ _ a n c n' c' Try.underlying22
  rcases h with ⟨a0, c0, rfl, rfl⟩ | ⟨b, off, cap, rfl, hb, hc⟩
  · cases a0 with
    | none =>
      go_enter Try.func33, Try.ntmps33
      go_wp2_with fail
      go_ret
      exact ⟨_, rfl, .inl ⟨none, 0, rfl, rfl⟩, Below.refl _ _⟩
    | some ad =>
      have hc3 := Lib.hid (show ∀ (j : Nat) (u : Value), (flat [])[j]? = some u → (w.alloc (.cells #[] 32)).cell? (ad.add j) = some u from fun j u h => by simp [flat] at h)
      go_enter Try.func33, Try.ntmps33
      go_wp2_with (at_builtin; refine few_row ad c0 0 [] rfl (by decide) w hc3 rfl (.tmp 5) (.tmp 6) rfl rfl rfl ?_; intro v' w' hl hB)
      go_ret
      exact ⟨_, rfl, hl, hB⟩
  · have hb0 := (Below.refl w.heap.size w).alloc (Nat.le_refl _) (.cells #[] 32)
    have hc3 := Lib.hid (cells_lie (l := l) (W := w.alloc (.cells #[] 32)) (b := b) (off := off) fun k x hk => (show At3 w b (off + k * 3) x from ⟨(hc k x hk).1, (hc k x hk).2.1, (hc k x hk).2.2⟩).below hb0 hb)
    clear hb0
    have hn' := hn
    clear hc
    obtain ⟨n, hnl⟩ : ∃ n, l.length = n := ⟨_, rfl⟩
    rw [hnl] at hn ⊢
    have hnh := Lib.hid hnl
    clear hnl
    go_enter Try.func33, Try.ntmps33
    go_wp2_with (at_builtin; refine few_row ⟨b, off, none⟩ cap n l hnh hn' w hc3 rfl (.tmp 5) (.tmp 6) rfl rfl rfl ?_; intro v' w' hl hB)
    go_ret
    exact ⟨_, rfl, hl, hB⟩

end Go.Proofs.Ytplplojhgiaabaa
