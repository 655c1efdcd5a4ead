/- Same, large, few. -/
import Derived.Test.YtplplojhgiaabaaE
import Derived.Laws.AppendOwn
set_option linter.unusedVariables false
set_option linter.unusedSimpArgs false
set_option linter.unnecessarySimpa false
namespace Go.Proofs.Ytplplojhgiaabaa
open Go.RowKit

/-- large's answer at a length. -/
def big (n : Nat) : Bool := decide ((300 < n ∧ n ≤ 4096) ∨ 5000 < n)

theorem large_any (l : List X) (hn : l.length ≤ 10000000000000) (v : Value) (w : World) (h : Lies w v l) :
    Calls Try.prog 9 #[v] w fun e w' => e = .returned (.bool (big l.length)) ∧ w' = w := by
  rcases h with ⟨a0, c0, rfl, rfl⟩ | ⟨b, off, cap, rfl, hb, hc⟩
  · go_enter Try.func9, Try.ntmps9
    go_wp2
    go_ret
    exact ⟨rfl, rfl⟩
  · clear hc
    obtain ⟨n, hnl⟩ : ∃ n, l.length = n := ⟨_, rfl⟩
    rw [hnl] at hn ⊢
    clear hnl
    obtain ⟨r, hr⟩ : ∃ r, r = big n := ⟨_, rfl⟩
    rw [← hr]
    have hi : r = true ↔ (300 < n ∧ n ≤ 4096) ∨ 5000 < n := by rw [hr]; simp [big]
    have hi' := Lib.hid hi
    clear hi hr
    go_enter Try.func9, Try.ntmps9
    go_wp2
    all_goals
      go_ret
      refine ⟨congrArg Ending.returned (bool_of hi' _ ?_), rfl⟩
      first
        | (simp only [decide_eq_true_eq, Bool.false_eq_true, false_iff, true_iff]; omega)
        | (simp; omega)

set_option maxRecDepth 100000 in
set_option maxHeartbeats 4000000 in
theorem same_any (l l' : List X) (hl : ∀ x ∈ l, x.Ok) (hl' : ∀ x ∈ l', x.Ok) (hn : l.length ≤ 1000000000) (hn' : l'.length ≤ 1000000000) (v v' : Value) (w : World) (h : Lies w v l) (h' : Lies w v' l') :
    Calls Try.prog 18 #[v, v'] w fun e w' => e = .returned (.bool (decide (l = l'))) ∧ Below w.heap.size w w' := by
  rcases h with ⟨a0, c0, rfl, rfl⟩ | ⟨b, off, cap, rfl, hb, hc⟩
  · rcases h' with ⟨a0', c0', rfl, rfl⟩ | ⟨b', off', cap', rfl, hb', hc'⟩
    · go_enter Try.func18, Try.ntmps18
      go_wp2
      refine wp_loop_rounds 1 ?_
      rw [rounds_succ]
      go_wp2
      go_ret
      exact ⟨rfl, Below.refl _ _⟩
    · clear hc' hl hl'
      cases l' with
      | nil =>
        go_enter Try.func18, Try.ntmps18
        go_wp2
        refine wp_loop_rounds 1 ?_
        rw [rounds_succ]
        go_wp2
        go_ret
        exact ⟨rfl, Below.refl _ _⟩
      | cons y l' =>
        obtain ⟨n', hnl'⟩ : ∃ n', l'.length = n' := ⟨_, rfl⟩
        simp only [List.length_cons, hnl'] at hn' ⊢
        clear hnl'
        have h0 : ((0 : Int) == (n' : Int) + 1) = false := by simp; omega
        go_enter Try.func18, Try.ntmps18
        go_wp2
        go_ret
        exact ⟨rfl, Below.refl _ _⟩
  · rcases h' with ⟨a0', c0', rfl, rfl⟩ | ⟨b', off', cap', rfl, hb', hc'⟩
    · clear hc hl hl'
      cases l with
      | nil =>
        go_enter Try.func18, Try.ntmps18
        go_wp2
        refine wp_loop_rounds 1 ?_
        rw [rounds_succ]
        go_wp2
        go_ret
        exact ⟨rfl, Below.refl _ _⟩
      | cons y l =>
        obtain ⟨n', hnl'⟩ : ∃ n', l.length = n' := ⟨_, rfl⟩
        simp only [List.length_cons, hnl'] at hn ⊢
        clear hnl'
        have h0 : ((n' : Int) + 1 == 0) = false := by simp; omega
        go_enter Try.func18, Try.ntmps18
        go_wp2
        go_ret
        exact ⟨rfl, Below.refl _ _⟩
    · have hc3 := Lib.hid (show ∀ k x, l[k]? = some x → At3 w b (off + k * 3) x from fun k x hk => ⟨(hc k x hk).1, (hc k x hk).2.1, (hc k x hk).2.2⟩)
      have hd3 := Lib.hid (show ∀ k x, l'[k]? = some x → At3 w b' (off' + k * 3) x from fun k x hk => ⟨(hc' k x hk).1, (hc' k x hk).2.1, (hc' k x hk).2.2⟩)
      have hlh := Lib.hid hl
      have hlh' := Lib.hid hl'
      clear hc hc' hl hl'
      obtain ⟨n, hnl⟩ : ∃ n, l.length = n := ⟨_, rfl⟩
      obtain ⟨n', hnl'⟩ : ∃ n', l'.length = n' := ⟨_, rfl⟩
      rw [hnl] at hn ⊢
      rw [hnl'] at hn' ⊢
      obtain ⟨r, hr⟩ : ∃ r, r = decide (l = l') := ⟨_, rfl⟩
      rw [← hr]
      have hr' := Lib.hid hr
      clear hr
      by_cases hlen : n = n'
      · subst hlen
        have hnh := Lib.hid hnl
        have hnh' := Lib.hid hnl'
        clear hnl hnl'
        go_enter Try.func18, Try.ntmps18
        go_wp2
        go_loopw [5] (fun i wr => ∃ k : Nat, k ≤ n ∧ i = .int .i64 k ∧ (∀ j, j < k → l[j]? = l'[j]?) ∧ Below w.heap.size w wr) (fun i _ => n - (intOf i).toNat)
        case atStart => exact ⟨0, Nat.zero_le _, rfl, by intro j hj; omega, Below.refl _ _⟩
        case round =>
          obtain ⟨k, hk, rfl, heq, hB⟩ := hrel
          have heq' := Lib.hid heq
          clear heq
          by_cases hlt : k < n
          · have hkl : k < l.length := by have h2 : l.length = n := hnh; omega
            have hkl' : k < l'.length := by have h2 : l'.length = n := hnh'; omega
            obtain ⟨x, hx⟩ : ∃ x, l[k]? = some x := ⟨_, List.getElem?_eq_getElem hkl⟩
            obtain ⟨y, hy⟩ : ∃ y, l'[k]? = some y := ⟨_, List.getElem?_eq_getElem hkl'⟩
            have hcx := (hc3 k x hx).below hB hb
            have hcy := (hd3 k y hy).below hB hb'
            have hx' := Lib.hid hx
            have hy' := Lib.hid hy
            clear hx hy
            have c0 := hcx.c0
            have c1 := hcx.c1
            have c2 := hcx.c2
            have d0 := hcy.c0
            have d1 := hcy.c1
            have d2 := hcy.c2
            obtain ⟨a, m, p⟩ := x
            obtain ⟨a', m', p'⟩ := y
            dsimp only at *
            by_cases e1 : a = a'
            · have f1 : (a == a') = true := by simp [e1]
              have f1' : (a != a') = false := by simp [e1]
              by_cases e2 : m = m'
              · have f2 : (m == m') = true := by simp [e2]
                have f2' : (m != m') = false := by simp [e2]
                by_cases e3 : p = p'
                · have f3 : (p == p') = true := by simp [e3]
                  have f3' : (p != p') = false := by simp [e3]
                  have hstep : ∀ j, j < k + 1 → l[j]? = l'[j]? := by
                    intro j hj
                    by_cases ej : j = k
                    · rw [ej, show l[k]? = _ from hx', show l'[k]? = _ from hy', e1, e2, e3]
                    · exact heq' j (by omega)
                  have hstep' := Lib.hid hstep
                  clear hstep e1 e2 e3
                  go_wp2_with fail
                  go_quiet (fail)
                  go_wp2
                  go_roundw
                  case rel => exact ⟨k + 1, by omega, by simp, hstep', below_drewN hB _⟩
                  case measure => simp [intOf]; omega
                · have f3 : (p == p') = false := by simp [e3]
                  have f3' : (p != p') = true := by simp [e3]
                  have e1' := Lib.hid e1
                  have e2' := Lib.hid e2
                  clear e1 e2
                  go_wp2_with fail
                  go_quiet (fail)
                  have hne : l ≠ l' := by
                    intro e
                    have h1 : l[k]? = some _ := hx'
                    have h2 : l'[k]? = some _ := hy'
                    rw [e, h2] at h1
                    simp only [Option.some.injEq, X.mk.injEq] at h1
                    first | exact absurd h1.1.symm e1 | exact absurd h1.2.1.symm e2 | exact absurd h1.2.2.symm e3
                  obtain rfl : r = false := Eq.trans hr' (decide_eq_false hne)
                  go_wp2
                  go_ret
                  exact ⟨rfl, below_drewN hB _⟩
              · have f2 : (m == m') = false := by simp [e2]
                have f2' : (m != m') = true := by simp [e2]
                have e1' := Lib.hid e1
                clear e1
                go_wp2_with fail
                go_quiet (fail)
                have hne : l ≠ l' := by
                  intro e
                  have h1 : l[k]? = some _ := hx'
                  have h2 : l'[k]? = some _ := hy'
                  rw [e, h2] at h1
                  simp only [Option.some.injEq, X.mk.injEq] at h1
                  first | exact absurd h1.1.symm e1 | exact absurd h1.2.1.symm e2 | exact absurd h1.2.2.symm e3
                obtain rfl : r = false := Eq.trans hr' (decide_eq_false hne)
                go_wp2
                go_ret
                exact ⟨rfl, below_drewN hB _⟩
            · have f1 : (a == a') = false := by simp [e1]
              have f1' : (a != a') = true := by simp [e1]
              go_wp2_with fail
              go_quiet (fail)
              have hne : l ≠ l' := by
                intro e
                have h1 : l[k]? = some _ := hx'
                have h2 : l'[k]? = some _ := hy'
                rw [e, h2] at h1
                simp only [Option.some.injEq, X.mk.injEq] at h1
                first | exact absurd h1.1.symm e1 | exact absurd h1.2.1.symm e2 | exact absurd h1.2.2.symm e3
              obtain rfl : r = false := Eq.trans hr' (decide_eq_false hne)
              go_wp2
              go_ret
              exact ⟨rfl, below_drewN hB _⟩
          · obtain rfl : k = n := by omega
            have hall : l = l' := by
              have h1 : l.length = k := hnh
              have h2 : l'.length = k := hnh'
              apply List.ext_getElem?
              intro j
              by_cases hj : j < k
              · exact heq' j hj
              · rw [List.getElem?_eq_none (by omega), List.getElem?_eq_none (by omega)]
            obtain rfl : r = true := Eq.trans hr' (decide_eq_true hall)
            clear hall
            go_wp2
            go_ret
            exact ⟨rfl, hB⟩
      · have hne : l ≠ l' := by intro e; rw [e] at hnl; omega
        obtain rfl : r = false := Eq.trans hr' (decide_eq_false hne)
        clear hne hnl hnl'
        have h0 : ((n : Int) == (n' : Int)) = false := by simp; omega
        go_enter Try.func18, Try.ntmps18
        go_wp2
        go_ret
        exact ⟨rfl, Below.refl _ _⟩

end Go.Proofs.Ytplplojhgiaabaa
