/- Both devices: New, Write, Read, Crash. -/
import Derived.Test.YtojcoambodedbaaRi
set_option linter.unusedVariables false
set_option linter.unusedSimpArgs false
set_option linter.unnecessarySimpa false
namespace Go.Proofs.Ytojcoambodedbaa
open Go.RowKit

/-! ### New -/
theorem row_of {w : World} {B n : Nat} {v : Value} (h : w.ownsRow B 9 1 v n (zs n)) (hn : 1 ≤ n) : ∃ g c, v = .slice (some ⟨g, 0, none⟩) n c ∧ n ≤ c ∧ B ≤ g ∧ SRow w g (List.replicate n (zeros 512)) := by
  rcases h.2 with ⟨_, h0⟩ | ⟨g, cap, cur, rfl, hB, hg, hc, _, _, ht⟩
  · omega
  · refine ⟨g, cap, rfl, hc, hB, cur, hg, ?_⟩
    rw [Nat.mul_one] at ht
    rw [List.length_replicate, ht]
    rfl
theorem new_ref {w w' : World} {n : Nat} {vs vn : Value} {b : Nat} (h : NewRel w' b vs vn n) (h1 : 1 ≤ n) (h2 : n ≤ 8192) (hb : w.heap.size ≤ b) : ∃ R : RH, R.b = b ∧ RefAt w' R (DS.rfresh n) ∧ ∀ k, R.foot k → w.heap.size ≤ k := by
  obtain ⟨g, c, rfl, hc, hg, hs⟩ := row_of h.s h1
  obtain ⟨g', c', rfl, hc', hg', hn⟩ := row_of h.n h1
  have hl : (DS.rfresh n).safe.length = n := by simp [DS.rfresh]
  refine ⟨⟨b, g, g', c, c', .slice none 0 0⟩, rfl, ⟨?_, hs, hn, World.ownsRow_nil _ _ _ _, ?_, rfl, by rw [hl]; exact h2, by rw [hl]; exact ⟨hc, hc'⟩⟩, ?_⟩
  · have := h.blk
    unfold RH.cells
    rw [hl]
    exact this
  · intro e
    have e2 : g = g' := e
    subst e2
    exact h.ne g rfl rfl
  · rintro k (hk | hk | hk | hk)
    · dsimp only at hk; omega
    · dsimp only at hk; omega
    · dsimp only at hk; omega
    · simp [Value.ownBlock] at hk

theorem new_say (n : Int) (w : World) :
    Calls Try.prog 9 #[.int .i64 n] w fun e w' => ∃ (p : Option Addr) (c : Int), e = .returned (.tuple #[.pointer p, .int .i64 c]) ∧ Below w.heap.size w w' ∧
      ∀ w2, Upd (fun _ => False) w' w2 → Calls Try.prog 21 #[.int .i64 n] w2 fun e w3 => ∃ (p' : Option Addr) (len : Nat), e = .returned (.tuple #[.pointer p', .int .i64 c]) ∧ p'.isNone = p.isNone ∧ State w w3 (.pointer p) (.pointer p') len 0 := by
  by_cases hbad : n < 1 ∨ 8192 < n
  · refine (new_no n w hbad).mono ?_
    rintro e w' ⟨rfl, rfl⟩
    refine ⟨none, 1, rfl, Below.refl _ _, fun w2 u => (rnew_no n w2 hbad).mono ?_⟩
    rintro e w3 ⟨rfl, rfl⟩
    exact ⟨none, 0, rfl, rfl, .inl ⟨rfl, rfl, rfl, u.below (Nat.le_refl _) (fun _ h => h.elim)⟩⟩
  · obtain ⟨m, rfl⟩ : ∃ m : Nat, n = m := ⟨n.toNat, by omega⟩
    refine (new_yes m w (by omega) (by omega)).mono ?_
    rintro e w' ⟨D, rfl, hd, hu, hF⟩
    have hB : Below w.heap.size w w' := hu.below (Nat.le_refl _) (fun _ h => h.elim)
    refine ⟨_, 0, rfl, hB, fun w2 u => (rnew_yes m w2 (by omega) (by omega)).mono ?_⟩
    rintro e w3 ⟨vs, vn, rfl, hN, hB3⟩
    obtain ⟨R, hRb, hR, hRF⟩ := new_ref (w := w2) hN (by omega) (by omega) (Nat.le_refl _)
    have hB2 : Below w.heap.size w w2 := hB.trans (u.below hB.size (fun _ h => h.elim))
    have u3 : Upd (fun _ => False) w2 w3 := Upd.ofBelow hB3 (fun k hk h => by omega)
    have hd2 := hd.keep u (fun _ _ h => h)
    refine ⟨some ⟨w2.heap.size, 0, none⟩, m, rfl, rfl, .inr ⟨D, R, DS.fresh m, DS.rfresh m, rfl, by rw [hRb], ⟨hd2.keep u3 (fun _ _ h => h), hR, hF, fun k hk => Nat.le_trans hB2.size (hRF k hk), fun k hk hR2 => ?_, hB2.trans (hB3.mono hB2.size)⟩, Twin.fresh m, by simp [DS.fresh], by simp [DS.fresh]⟩⟩
    have h1 := hRF k hR2
    have h2 := hd2.lt k hk
    omega

/-! ### Write -/
theorem write_nil_any (at' : Int) (data : ByteArray) (hsz : data.size ≤ 3000) (w : World) :
    Calls Try.prog 12 #[.pointer none, .int .i64 at', .string data] w fun e w' => e = .returned (.int .i64 1) ∧ w = w' := by
  go_enter Try.func12, Try.ntmps12
  go_wp2
  go_ret
  exact ⟨rfl, rfl⟩
theorem write_say {W w0 w : World} {dv rv : Value} {len hb : Nat} (h1 : State W w0 dv rv len hb) (u0 : Upd (fun _ => False) w0 w) (hm : hb + 5 ≤ 1000000) (at' : Int) (data : ByteArray) (hsz : data.size ≤ 3000) :
    Calls Try.prog 12 #[dv, .int .i64 at', .string data] w fun e w' => ∃ v : Int, e = .returned (.int .i64 v) ∧ Below W.heap.size W w' ∧ (w.heap.size ≤ w'.heap.size ∧ FarKept W w0 w w') ∧ Then W w0 w' dv rv len (hb + 5) 24 #[rv, .int .i64 at', .string data] (.int .i64 v) := by
  have hw := h1.quiet u0
  have h0 := hw.more (show hb ≤ hb + 5 by omega)
  rcases h1 with ⟨rfl, rfl, rfl, h⟩ | ⟨D, R, S, Q, rfl, rfl, hh, t, rfl, hl⟩
  · refine (write_nil_any at' data hsz w).mono ?_
    rintro e w' ⟨rfl, rfl⟩
    exact ⟨1, rfl, hw.below, far_same _ _ _, Then.same h0 (fun w' _ => rwrite_nil at' data w')⟩
  · have h := hh.quiet u0
    by_cases hodd : data.size % 512 = 0
    · obtain ⟨m, hd⟩ : ∃ m, data.size = m * 512 := ⟨data.size / 512, by omega⟩
      have hdiv : data.size / 512 = m := by omega
      by_cases ht : There at' m S.safe.length
      · obtain ⟨a1, _, a3, a4⟩ := id ht
        obtain ⟨A, rfl⟩ : ∃ A : Nat, at' = A := ⟨at'.toNat, by omega⟩
        have ha : A + m ≤ S.safe.length := by omega
        cases hdn : S.down with
        | true =>
          refine (write_down D S A m data w h.d hd ha hdn).mono ?_
          rintro e w' ⟨rfl, rfl⟩
          exact ⟨41, rfl, h.below, far_same _ _ _, Then.same h0 (fun w' u => rwrite_down R Q A m data w' (h.quiet u).r hd (by rw [t.len]; exact ha) (by rw [t.down, hdn]))⟩
        | false =>
          refine (write_ok D S A m data w h.d hd ha hdn (by omega)).mono ?_
          intro e w' p
          have hfar : w.heap.size ≤ w'.heap.size ∧ FarKept W w0 w w' := by
            obtain ⟨_, _, _, _, hu, _⟩ := p
            exact far_upd hu (fun b hb hd => hh.farD b hb hd)
          obtain ⟨D', hb', he, h2⟩ := h.stepD p
          obtain ⟨t2, tr, tl, th⟩ := Twin.write hd m 0 t (by omega) ha
          refine ⟨_, he, h2.below, hfar, fun w2 u => ?_⟩
          refine (rwrite_ok R Q A m data w2 (h2.quiet u).r hd (by rw [t.len]; exact ha) (by rw [t.down, hdn]) (by rw [t.held]; omega)).mono ?_
          intro e3 w3 p3
          have hfar3 : w2.heap.size ≤ w3.heap.size ∧ FarKept W w0 w2 w3 := by
            obtain ⟨_, _, _, _, hu, _⟩ := p3
            exact far_upd hu (fun b hb hd => hh.farR b hb hd)
          obtain ⟨R', hb3, he3, h3⟩ := (h2.quiet u).stepR p3
          rw [tr] at he3
          exact ⟨he3, .inr ⟨D', R', _, _, by rw [hb'], by rw [hb3], h3, t2, tl, by omega⟩, hfar3⟩
      · refine (write_place D S at' data w h.d (by omega) (by unfold There at ht; omega)).mono ?_
        rintro e w' ⟨rfl, rfl⟩
        exact ⟨40, rfl, h.below, far_same _ _ _, Then.same h0 (fun w' u => rwrite_place R Q at' m data w' (h.quiet u).r hd (by omega) (by rw [t.len]; exact ht))⟩
    · refine (write_place D S at' data w h.d (by omega) (Or.inl hodd)).mono ?_
      rintro e w' ⟨rfl, rfl⟩
      exact ⟨40, rfl, h.below, far_same _ _ _, Then.same h0 (fun w' u => rwrite_odd R Q at' data w' (h.quiet u).r (by omega) hodd)⟩

/-! ### Read -/
theorem Then.calm {W w0 w : World} {dv rv : Value} {len hb fr : Nat} {args : Array Value} {v : Value} (h : State W w dv rv len hb) (c : ∀ w', Upd (fun _ => False) w w' → Calls Try.prog fr args w' fun e w2 => e = .returned v ∧ Below w'.heap.size w' w2) : Then W w0 w dv rv len hb fr args v := by
  intro w' u
  refine (c w' u).mono ?_
  rintro e w2 ⟨he, hB⟩
  exact ⟨he, (h.quiet u).calm hB, far_below hB⟩
theorem read_say {W w0 w : World} {dv rv : Value} {len hb : Nat} (h1 : State W w0 dv rv len hb) (u0 : Upd (fun _ => False) w0 w) (i n : Int) :
    Calls Try.prog 16 #[dv, .int .i64 i, .int .i64 n] w fun e w' => ∃ (s : ByteArray) (v : Int), e = .returned (.tuple #[.string s, .int .i64 v]) ∧ Below W.heap.size W w' ∧ (w.heap.size ≤ w'.heap.size ∧ FarKept W w0 w w') ∧ State W w' dv rv len hb ∧ Then W w0 w' dv rv len hb 25 #[rv, .int .i64 i, .int .i64 n] (.tuple #[.string s, .int .i64 v]) := by
  have h0 := h1.quiet u0
  rcases id h0 with ⟨rfl, rfl, rfl, h⟩ | ⟨D, R, S, Q, rfl, rfl, h, t, rfl, hl⟩
  · refine (read_nil i n w).mono ?_
    rintro e w' ⟨rfl, rfl⟩
    exact ⟨_, 1, rfl, h, far_same _ _ _, h0, Then.same h0 (fun w' _ => rread_nil i n w')⟩
  · by_cases ht : There i n S.safe.length
    · obtain ⟨a1, a2, a3, a4⟩ := id ht
      obtain ⟨I, rfl⟩ : ∃ I : Nat, i = I := ⟨i.toNat, by omega⟩
      obtain ⟨N, rfl⟩ : ∃ N : Nat, n = N := ⟨n.toNat, by omega⟩
      have ha : I + N ≤ S.safe.length := by omega
      cases hdn : S.down with
      | true =>
        refine (read_down D S I N w h.d ha hdn).mono ?_
        rintro e w' ⟨rfl, rfl⟩
        exact ⟨_, 41, rfl, h.below, far_same _ _ _, h0, Then.same h0 (fun w' u => rread_down R Q I N w' (h.quiet u).r (by rw [t.len]; exact ht) (by rw [t.down, hdn]))⟩
      | false =>
        refine (read_ok D S I N w h.d t.ok ha hdn).mono ?_
        rintro e w' ⟨rfl, hB⟩
        have h2 := h0.calm hB
        refine ⟨_, 0, rfl, h2.below, far_below hB, h2, Then.calm h2 (fun w2 u => ?_)⟩
        have h3 : Two W w2 D R S Q := (h.quiet (Upd.ofBelow hB (fun k hk h => by omega))).quiet u
        have := rread_ok R Q I N w2 h3.r t.full (by rw [t.len]; exact ha) (by rw [t.down, hdn])
        rw [t.reads I N ha] at this
        exact this
    · refine (read_place D S i n w h.d (by unfold There at ht; omega)).mono ?_
      rintro e w' ⟨rfl, rfl⟩
      exact ⟨_, 40, rfl, h.below, far_same _ _ _, h0, Then.same h0 (fun w' u => rread_place R Q i n w' (h.quiet u).r (by rw [t.len]; exact ht))⟩

/-! ### Crash -/
theorem crash_say {W w0 w : World} {dv rv : Value} {len hb : Nat} (h : State W w0 dv rv len hb) (u0 : Upd (fun _ => False) w0 w) (hm : hb ≤ 1000000) (ks : List Int) (hks : ks.length ≤ 140737488355328) (ao ao' : Option Addr) (kc kc' : Nat)
    (hk : KCells w ao ks) (hf : 0 < ks.length → FarAddr W w0 ao) (hk' : KCells w ao' ks) (hf' : 0 < ks.length → FarAddr W w0 ao') :
    Calls Try.prog 15 #[dv, .slice ao ks.length kc] w fun e w' => e = .returned (.tuple #[]) ∧ Below W.heap.size W w' ∧ w.heap.size ≤ w'.heap.size ∧ FarKept W w0 w w' ∧
      ∀ w2, Upd (fun _ => False) w' w2 → Calls Try.prog 28 #[rv, .slice ao' ks.length kc'] w2 fun e w3 => e = .returned (.tuple #[]) ∧ State W w3 dv rv len hb ∧ w2.heap.size ≤ w3.heap.size ∧ FarKept W w0 w2 w3 := by
  have hw := h.quiet u0
  rcases h with ⟨rfl, rfl, rfl, h⟩ | ⟨D, R, S, Q, rfl, rfl, h, t, rfl, hl⟩
  · refine (crash_nil _ w).mono ?_
    rintro e w' ⟨rfl, rfl⟩
    refine ⟨rfl, hw.below, Nat.le_refl _, fun _ _ _ => rfl, fun w2 u => (rcrash_nil _ w2).mono ?_⟩
    rintro e w3 ⟨rfl, rfl⟩
    exact ⟨rfl, hw.quiet u, Nat.le_refl _, fun _ _ _ => rfl⟩
  · have hx := h.quiet u0
    have farD : ∀ b, Far W w0 b → ¬ D.foot b := by
      intro b hb hd
      rcases hb with hb | hb
      · have := h.dnew b hd; omega
      · have := h.d.lt b hd; omega
    have farR : ∀ b, Far W w0 b → ¬ R.foot b := by
      intro b hb hd
      rcases hb with hb | hb
      · have := h.rnew b hd; omega
      · have := h.r.lt b hd; omega
    refine (crash_any D S ks ao kc w hx.d t.ok (by omega) hks (fun j hj => by
      obtain ⟨b, off, ha, hb, hc⟩ := hk j hj
      exact ⟨b, off, ha, hb, farD b (hf (by omega) b off ha), hc⟩)).mono ?_
    intro e w' p
    have hu' : Upd D.foot w w' := by obtain ⟨_, _, _, _, hu, _⟩ := p; exact hu
    have hk1 : FarKept W w0 w w' := fun b hb hb2 => hu'.block b hb (farD b hb2)
    obtain ⟨D', hb', he, h2⟩ := hx.stepD p
    refine ⟨he, h2.below, hu'.size, hk1, fun w2 u => ?_⟩
    have hk2 : KCells w2 ao' ks := (hk'.far hf' hk1 hu'.size).upd u (fun _ _ _ h => h)
    refine (rcrash_any R Q ks ao' kc' w2 (h2.quiet u).r t.full (by rw [t.held]; omega) hks (fun j hj => by
      obtain ⟨b, off, ha, hb, hc⟩ := hk2 j hj
      exact ⟨b, off, ha, hb, farR b (hf' (by omega) b off ha), hc⟩)).mono ?_
    intro e3 w3 p3
    have hu3 : Upd R.foot w2 w3 := by obtain ⟨_, _, _, _, hu, _⟩ := p3; exact hu
    obtain ⟨R', hb3, he3, h3⟩ := (h2.quiet u).stepR p3
    refine ⟨he3, .inr ⟨D', R', _, _, by rw [hb'], by rw [hb3], h3, t.crash ks, crash_len S ks, by simp [DS.crash, DS.settle]⟩, hu3.size, fun b hb hb2 => hu3.block b hb (farR b hb2)⟩

end Go.Proofs.Ytojcoambodedbaa
