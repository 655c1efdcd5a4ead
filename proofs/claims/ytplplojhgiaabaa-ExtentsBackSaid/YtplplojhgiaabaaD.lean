/- Good, the page's. -/
import Derived.Test.YtplplojhgiaabaaC
set_option linter.unusedVariables false
set_option linter.unusedSimpArgs false
set_option linter.unnecessarySimpa false
namespace Go.Proofs.Ytplplojhgiaabaa
open Go.RowKit

set_option maxRecDepth 100000 in
set_option maxHeartbeats 4000000 in
theorem goodRef_any (l : List X) (hl : ∀ x ∈ l, x.Ok) (hn : l.length ≤ 1000000000) (v : Value) (w : World) (h : Lies w v l) (r : Bool) (hr : r = true ↔ Good l) :
    Calls Try.prog 15 #[v] w fun e w' => e = .returned (.bool r) ∧ Below w.heap.size w w' := by
  have hr' := Lib.hid hr
  clear hr
  rcases h with ⟨a0, c0, rfl, rfl⟩ | ⟨b, off, cap, rfl, hb, hc⟩
  · have : r = true := hr'.2 good_nil
    subst this
    clear hr'
    go_enter Try.func15, Try.ntmps15
    go_wp2
    refine wp_loop_rounds 1 ?_
    rw [rounds_succ]
    go_wp2
    go_ret
    exact ⟨rfl, Below.refl _ _⟩
  · have hc3 : ∀ k x, l[k]? = some x → At3 w b (off + k * 3) x := fun k x hk => ⟨(hc k x hk).1, (hc k x hk).2.1, (hc k x hk).2.2⟩
    clear hc
    obtain ⟨n, hnl⟩ : ∃ n, l.length = n := ⟨_, rfl⟩
    rw [hnl] at hn ⊢
    have hnl' := Lib.hid hnl
    clear hnl
    by_cases hbig : 4096 < n
    · have : r = false := by
        cases r with
        | false => rfl
        | true => have h1 := (hr'.1 rfl).1; have h2 : l.length = n := hnl'; omega
      subst this
      go_enter Try.func15, Try.ntmps15
      go_wp2
      go_ret
      exact ⟨rfl, Below.refl _ _⟩
    · go_enter Try.func15, Try.ntmps15
      go_wp2
      go_loopw [3] (fun i wr => ∃ k : Nat, k ≤ n ∧ i = .int .i64 k ∧ (∀ j, j < k → OkAt l j) ∧ Below w.heap.size w wr) (fun i _ => n - (intOf i).toNat)
      case atStart => exact ⟨0, Nat.zero_le _, rfl, by intro j hj; omega, Below.refl _ _⟩
      case round =>
        obtain ⟨k, hk, rfl, hok, hB⟩ := hrel
        by_cases hlt : k < n
        · have hkl : k < l.length := by have h2 : l.length = n := hnl'; omega
          obtain ⟨x, hx⟩ : ∃ x, l[k]? = some x := ⟨_, List.getElem?_eq_getElem hkl⟩
          have hcx := (hc3 k x hx).below hB hb
          have hxo := hl x (List.mem_of_getElem? hx)
          have hx' := Lib.hid hx
          have hc3' := Lib.hid hc3
          have hok' := Lib.hid hok
          have hl' := Lib.hid hl
          clear hx hc3 hok hl
          have c0 := hcx.c0
          have c1 := hcx.c1
          have c2 := hcx.c2
          have hal := Lib.hid (one_any x hxo)
          have hbr := hB.size
          obtain ⟨a, m, p⟩ := x
          dsimp only [X.agg] at *
          go_wp2_with fail
          refine (hal _).mono ?_
          rintro e w2 ⟨rfl, hB2⟩
          have hB3 : Below w.heap.size w w2 := hB.trans (hB2.mono hbr)
          have hcx2 := hcx.below hB2 (by omega)
          have d0 := hcx2.c0
          have d1 := hcx2.c1
          have d2 := hcx2.c2
          have hb2 := hB2.size
          dsimp only at d0 d1 d2
          by_cases ho : One ⟨a, m, p⟩
          · rw [decide_eq_true ho]
            have ho' := ho
            unfold One at ho'
            dsimp only at ho'
            obtain ⟨o1, o2, o3, o4, o5, o6⟩ := ho'
            have ho := Lib.hid ho
            cases k with
            | zero =>
              go_wp2
              go_roundw
              case rel => exact ⟨1, by omega, by simp, okTo_succ hok' hx' ho (fun y hy _ => by omega), hB3⟩
              case measure => simp [intOf]; omega
            | succ k =>
              obtain ⟨y, hy⟩ : ∃ y, l[k]? = some y := ⟨_, List.getElem?_eq_getElem (by omega)⟩
              have hcy := (hc3' k y hy).below hB3 hb
              have hyo := (hok' k (by omega) y hy).1
              have hy' := Lib.hid hy
              clear hy
              have e0 := hcy.c0
              have e1 := hcy.c1
              have e2 := hcy.c2
              obtain ⟨a', m', p'⟩ := y
              unfold One at hyo
              dsimp only at *
              obtain ⟨q1, q2, q3, q4, q5, q6⟩ := hyo
              have hB4 := hB3.alloc hB3.size (.cells #[.int .i64 a', .int .i64 m', .int .i64 p'] 32)
              have hcx4 := hcx2.below ((Below.refl _ w2).alloc (Nat.le_refl _) (.cells #[.int .i64 a', .int .i64 m', .int .i64 p'] 32)) (by omega)
              have f0 := hcx4.c0
              have f1 := hcx4.c1
              have f2 := hcx4.c2
              obtain ⟨g0, g1, g2⟩ := new3 w2 a' m' p'
              dsimp only at f0 f1 f2
              by_cases e1 : a < a' + m'
              · have hd : decide (a < a' + m') = true := by simp [e1]
                go_wp2_with fail
                go_quiet (fail)
                have hno : ¬ Behind ⟨a', m', p'⟩ ⟨a, m, p⟩ := by unfold Behind; dsimp only; omega
                have : r = false := by
                  cases r with
                  | false => rfl
                  | true => exact absurd (((hr'.1 rfl).2 (k + 1) hkl _ hx').2 _ (by omega) hy') hno
                subst this
                go_wp2
                go_ret
                exact ⟨rfl, below_drewN hB4 _⟩
              · have hd : decide (a < a' + m') = false := by simp [e1]
                by_cases e2 : a = a' + m'
                · have hd2 : (a == a' + m') = true := by simp [e2]
                  by_cases e3 : p = p' + m'
                  · have hd3 : (p == p' + m') = true := by simp [e3]
                    have e2' := Lib.hid e2
                    have e3' := Lib.hid e3
                    clear e2 e3
                    go_wp2_with fail
                    go_quiet (fail)
                    have e2 : a = a' + m' := e2'
                    have e3 : p = p' + m' := e3'
                    have hno : ¬ Behind ⟨a', m', p'⟩ ⟨a, m, p⟩ := by unfold Behind; dsimp only; omega
                    have : r = false := by
                      cases r with
                      | false => rfl
                      | true => exact absurd (((hr'.1 rfl).2 (k + 1) hkl _ hx').2 _ (by omega) hy') hno
                    subst this
                    go_wp2
                    go_ret
                    exact ⟨rfl, below_drewN hB4 _⟩
                  · have hd3 : (p == p' + m') = false := by simp [e3]
                    have e2' := Lib.hid e2
                    clear e2
                    go_wp2_with fail
                    go_quiet (fail)
                    have hyes : Behind ⟨a', m', p'⟩ ⟨a, m, p⟩ := by unfold Behind; dsimp only; omega
                    go_wp2
                    go_roundw
                    case rel =>
                      refine ⟨k + 2, by omega, by simp; omega, okTo_succ hok' hx' ho (fun y hy _ => ?_), below_drewN hB4 _⟩
                      obtain rfl : _ = y := Option.some.inj (hy'.symm.trans hy)
                      exact hyes
                    case measure => simp [intOf]; omega
                · have hd2 : (a == a' + m') = false := by simp [e2]
                  go_wp2_with fail
                  go_quiet (fail)
                  have hyes : Behind ⟨a', m', p'⟩ ⟨a, m, p⟩ := by unfold Behind; dsimp only; omega
                  go_wp2
                  go_roundw
                  case rel =>
                    refine ⟨k + 2, by omega, by simp; omega, okTo_succ hok' hx' ho (fun y hy _ => ?_), below_drewN hB4 _⟩
                    obtain rfl : _ = y := Option.some.inj (hy'.symm.trans hy)
                    exact hyes
                  case measure => simp [intOf]; omega
          · rw [decide_eq_false ho]
            have : r = false := by
              cases r with
              | false => rfl
              | true => exact absurd ((hr'.1 rfl).2 k hkl _ hx').1 ho
            subst this
            go_wp2
            go_ret
            exact ⟨rfl, hB3⟩
        · obtain rfl : k = n := by omega
          have : r = true := hr'.2 ⟨by have h2 : l.length = k := hnl'; omega, by have h2 : l.length = k := hnl'; rw [h2]; exact hok⟩
          subst this
          go_wp2
          go_ret
          exact ⟨rfl, hB⟩

end Go.Proofs.Ytplplojhgiaabaa
