/- Good, the program's and the page's. -/
import Derived.Test.YtplplojhgiaabaaB
set_option linter.unusedVariables false
set_option linter.unusedSimpArgs false
set_option linter.unnecessarySimpa false
namespace Go.Proofs.Ytplplojhgiaabaa
open Go.RowKit

theorem good_nil : Good [] := ⟨by simp, by simp⟩

/-- What a slice of extents bears at place k, below n. -/
structure At3 (W : World) (b o : Nat) (x : X) : Prop where
  c0 : W.cell? ⟨b, o, none⟩ = some (.int .i64 x.lba)
  c1 : W.cell? ⟨b, o + 1, none⟩ = some (.int .i64 x.num)
  c2 : W.cell? ⟨b, o + 2, none⟩ = some (.int .i64 x.pos)
theorem At3.below {n : Nat} {A B : World} {b o : Nat} {x : X} (h : At3 A b o x) (hb : Below n A B) (hn : b < n) : At3 B b o x :=
  ⟨(hb.cell (p := ⟨b, o, none⟩) hn).trans h.c0, (hb.cell (p := ⟨b, o + 1, none⟩) hn).trans h.c1, (hb.cell (p := ⟨b, o + 2, none⟩) hn).trans h.c2⟩

theorem below_drewN {n : Nat} {w W : World} (h : Below n w W) (k : Nat) : Below n w (W.drewN k) := ⟨h.os, h.tape, h.output, h.size, h.block⟩
theorem new3 (W : World) (a m p : Int) : (W.alloc (.cells #[.int .i64 a, .int .i64 m, .int .i64 p] 32)).cell? ⟨W.heap.size, 0, none⟩ = some (.int .i64 a) ∧ (W.alloc (.cells #[.int .i64 a, .int .i64 m, .int .i64 p] 32)).cell? ⟨W.heap.size, 1, none⟩ = some (.int .i64 m) ∧ (W.alloc (.cells #[.int .i64 a, .int .i64 m, .int .i64 p] 32)).cell? ⟨W.heap.size, 2, none⟩ = some (.int .i64 p) := by
  have h := heap_alloc_new W (.cells #[.int .i64 a, .int .i64 m, .int .i64 p] 32)
  refine ⟨?_, ?_, ?_⟩ <;> (simp only [World.cell?, h]; rfl)

/-- A box's three cells, behind a call that kept what lay. -/
theorem kept3 {W w' : World} {a m p : Int} (hB : Below (W.alloc (.cells #[.int .i64 a, .int .i64 m, .int .i64 p] 32)).heap.size (W.alloc (.cells #[.int .i64 a, .int .i64 m, .int .i64 p] 32)) w') :
    w'.cell? ⟨W.heap.size, 0, none⟩ = some (.int .i64 a) ∧ w'.cell? ⟨W.heap.size, 1, none⟩ = some (.int .i64 m) ∧ w'.cell? ⟨W.heap.size, 2, none⟩ = some (.int .i64 p) := by
  obtain ⟨h0, h1, h2⟩ := new3 W a m p
  have hlt : W.heap.size < (W.alloc (.cells #[.int .i64 a, .int .i64 m, .int .i64 p] 32)).heap.size := by simp
  exact ⟨(hB.cell (p := ⟨W.heap.size, 0, none⟩) hlt).trans h0, (hB.cell (p := ⟨W.heap.size, 1, none⟩) hlt).trans h1, (hB.cell (p := ⟨W.heap.size, 2, none⟩) hlt).trans h2⟩
theorem below_alloc {n : Nat} {w W w' : World} {o : Obj} (h : Below n w W) (hn : n ≤ W.heap.size) (hB : Below (W.alloc o).heap.size (W.alloc o) w') : Below n w w' :=
  (h.alloc hn o).trans (hB.mono (by simp; omega))

theorem okTo_succ {l : List X} {k : Nat} {x : X} (h : ∀ j, j < k → OkAt l j) (hx : l[k]? = some x) (ho : One x) (hb : ∀ y, l[k-1]? = some y → 0 < k → Behind y x) : ∀ j, j < k + 1 → OkAt l j := by
  intro j hj
  by_cases e : j = k
  · subst e
    intro z hz
    rw [hx] at hz
    cases hz
    exact ⟨ho, fun p h0 hp => hb p hp h0⟩
  · exact h j (by omega)

set_option maxRecDepth 100000 in
set_option maxHeartbeats 4000000 in
theorem good_any (l : List X) (hl : ∀ x ∈ l, x.Ok) (hn : l.length ≤ 1000000000) (v : Value) (w : World) (h : Lies w v l) (r : Bool) (hr : r = true ↔ Good l) :
    Calls Try.prog 14 #[v] w fun e w' => e = .returned (.bool r) ∧ Below w.heap.size w w' := by
  have hr' := Lib.hid hr
  clear hr
  rcases h with ⟨a0, c0, rfl, rfl⟩ | ⟨b, off, cap, rfl, hb, hc⟩
  · have : r = true := hr'.2 good_nil
    subst this
    clear hr'
    go_enter Try.func14, Try.ntmps14
    go_wp2
    refine wp_loop_rounds 1 ?_
    rw [rounds_succ]
    go_wp2
    go_ret
    exact ⟨rfl, Below.refl _ _⟩
  · have hc3 : ∀ k x, l[k]? = some x → At3 w b (off + k * 3) x := fun k x hk => ⟨(hc k x hk).1, (hc k x hk).2.1, (hc k x hk).2.2⟩
    clear hc
    obtain ⟨n, hnl⟩ : ∃ n, l.length = n := ⟨_, rfl⟩
    rw [hnl] at hn ⊢
    have hnl' := Lib.hid hnl
    clear hnl
    by_cases hbig : 4096 < n
    · have : r = false := by
        cases r with
        | false => rfl
        | true => have h1 := (hr'.1 rfl).1; have h2 : l.length = n := hnl'; omega
      subst this
      go_enter Try.func14, Try.ntmps14
      go_wp2
      go_ret
      exact ⟨rfl, Below.refl _ _⟩
    · go_enter Try.func14, Try.ntmps14
      go_wp2
      go_loopw [12] (fun i wr => ∃ k : Nat, k ≤ n ∧ i = .int .i64 k ∧ (∀ j, j < k → OkAt l j) ∧ Below w.heap.size w wr) (fun i _ => n - (intOf i).toNat)
      case atStart => exact ⟨0, Nat.zero_le _, rfl, by intro j hj; omega, Below.refl _ _⟩
      case round =>
        obtain ⟨k, hk, rfl, hok, hB⟩ := hrel
        by_cases hlt : k < n
        · have hkl : k < l.length := by have h2 : l.length = n := hnl'; omega
          obtain ⟨x, hx⟩ : ∃ x, l[k]? = some x := ⟨_, List.getElem?_eq_getElem hkl⟩
          have hcx := (hc3 k x hx).below hB hb
          have hxo := hl x (List.mem_of_getElem? hx)
          have hx' := Lib.hid hx
          have hc3' := Lib.hid hc3
          have hok' := Lib.hid hok
          have hl' := Lib.hid hl
          clear hx hc3 hok hl
          have c0 := hcx.c0
          have c1 := hcx.c1
          have c2 := hcx.c2
          have hal := Lib.hid (alone_any x hxo)
          have hbr := hB.size
          obtain ⟨a, m, p⟩ := x
          dsimp only [X.agg] at *
          go_wp2_with fail
          refine (hal _).mono ?_
          rintro e w2 ⟨rfl, hB2⟩
          obtain ⟨d0, d1, d2⟩ := kept3 hB2
          have hB3 := below_alloc hB hbr hB2
          have hb2 := hB2.size
          have hsz : wr.heap.size < w2.heap.size := by simp at hb2; omega
          by_cases ho : One ⟨a, m, p⟩
          · rw [decide_eq_true ho]
            have ho' := ho
            unfold One at ho'
            dsimp only at ho'
            obtain ⟨o1, o2, o3, o4, o5, o6⟩ := ho'
            have ho := Lib.hid ho
            cases k with
            | zero =>
              go_wp2
              go_roundw
              case rel => exact ⟨1, by omega, by simp, okTo_succ hok' hx' ho (fun y hy _ => by omega), hB3⟩
              case measure => simp [intOf]; omega
            | succ k =>
              obtain ⟨y, hy⟩ : ∃ y, l[k]? = some y := ⟨_, List.getElem?_eq_getElem (by omega)⟩
              have hcy := (hc3' k y hy).below hB3 hb
              have hyo := (hok' k (by omega) y hy).1
              have hy' := Lib.hid hy
              clear hy
              have e0 := hcy.c0
              have e1 := hcy.c1
              have e2 := hcy.c2
              obtain ⟨a', m', p'⟩ := y
              unfold One at hyo
              dsimp only at *
              obtain ⟨q1, q2, q3, q4, q5, q6⟩ := hyo
              have hB4 := hB3.alloc hB3.size (.cells #[.int .i64 a', .int .i64 m', .int .i64 p'] 32)
              go_wp2
              all_goals first
                | (have hno : ¬ Behind ⟨a', m', p'⟩ ⟨a, m, p⟩ := by unfold Behind; dsimp only; (try simp only [beq_eq_false_iff_ne, beq_iff_eq, ne_eq] at *); omega
                   have : r = false := by
                     cases r with
                     | false => rfl
                     | true => exact absurd (((hr'.1 rfl).2 (k + 1) hkl _ hx').2 _ (by omega) hy') hno
                   subst this
                   go_ret
                   exact ⟨rfl, hB4⟩)
                | (have hyes : Behind ⟨a', m', p'⟩ ⟨a, m, p⟩ := by unfold Behind; dsimp only; (try simp only [beq_eq_false_iff_ne, beq_iff_eq, ne_eq] at *); omega
                   refine ⟨⟨k + 2, by omega, by simp; omega, okTo_succ hok' hx' ho (fun y hy _ => ?_), hB4⟩, by simp [intOf]; omega⟩
                   obtain rfl : _ = y := Option.some.inj (hy'.symm.trans hy)
                   exact hyes)
          · rw [decide_eq_false ho]
            have : r = false := by
              cases r with
              | false => rfl
              | true => exact absurd ((hr'.1 rfl).2 k hkl _ hx').1 ho
            subst this
            go_wp2
            go_ret
            exact ⟨rfl, hB3⟩
        · obtain rfl : k = n := by omega
          have : r = true := hr'.2 ⟨by have h2 : l.length = k := hnl'; omega, by have h2 : l.length = k := hnl'; rw [h2]; exact hok⟩
          subst this
          go_wp2
          go_ret
          exact ⟨rfl, hB⟩

end Go.Proofs.Ytplplojhgiaabaa
