/- The program's device and the page's in memory, side by side: what a call of one comes to, the same call of the other comes to. -/
import Derived.Test.YtojcoambodedbaaRf
import Derived.Test.YtojcoambodedbaaRh
import Derived.Test.YtojcoambodedbaaK
import Derived.Test.YtojcoambodedbaaQ
set_option linter.unusedVariables false
set_option linter.unusedSimpArgs false
set_option linter.unnecessarySimpa false
namespace Go.Proofs.Ytojcoambodedbaa
open Go.RowKit

structure Two (W w : World) (D : DH) (R : RH) (S Q : DS) : Prop where
  d : DevAt w D S
  r : RefAt w R Q
  dnew : ∀ k, D.foot k → W.heap.size ≤ k
  rnew : ∀ k, R.foot k → W.heap.size ≤ k
  dj : ∀ k, D.foot k → ¬ R.foot k
  below : Below W.heap.size W w

theorem Two.quiet {W w w' : World} {D : DH} {R : RH} {S Q : DS} (h : Two W w D R S Q) (u : Upd (fun _ => False) w w') : Two W w' D R S Q :=
  ⟨h.d.keep u (fun _ _ h => h), h.r.keep u (fun _ _ h => h), h.dnew, h.rnew, h.dj, h.below.trans (u.below h.below.size (fun _ h => h.elim))⟩
theorem Two.stepD {W w w' : World} {D : DH} {R : RH} {S S' Q : DS} {v : Value} {e : Ending} (h : Two W w D R S Q) (p : DPost D w v S' e w') : ∃ D' : DH, D'.b = D.b ∧ e = .returned v ∧ Two W w' D' R S' Q := by
  obtain ⟨D', hb, he, hd, hu, hF⟩ := p
  refine ⟨D', hb, he, hd, h.r.keep hu (fun k hk hd => h.dj k hd hk), fun k hk => (hF k hk).elim (h.dnew k) (Nat.le_trans h.below.size), h.rnew, fun k hk hR => ?_, h.below.trans (hu.below h.below.size h.dnew)⟩
  rcases hF k hk with hf | hf
  · exact h.dj k hf hR
  · have := h.r.lt k hR; omega
theorem Two.stepR {W w w' : World} {D : DH} {R : RH} {S Q Q' : DS} {v : Value} {e : Ending} (h : Two W w D R S Q) (p : RPost R w v Q' e w') : ∃ R' : RH, R'.b = R.b ∧ e = .returned v ∧ Two W w' D R' S Q' := by
  obtain ⟨R', hb, he, hd, hu, hF⟩ := p
  refine ⟨R', hb, he, h.d.keep hu (fun k hk hd => h.dj k hk hd), hd, h.dnew, fun k hk => (hF k hk).elim (h.rnew k) (Nat.le_trans h.below.size), fun k hk hR => ?_, h.below.trans (hu.below h.below.size h.rnew)⟩
  rcases hF k hR with hf | hf
  · exact h.dj k hk hf
  · have := h.d.lt k hk; omega

/-- Both are there and alike, or nobody made either. -/
def State (W w : World) (dv rv : Value) (len hb : Nat) : Prop :=
  (dv = .pointer none ∧ rv = .pointer none ∧ len = 0 ∧ Below W.heap.size W w) ∨
  ∃ (D : DH) (R : RH) (S Q : DS), dv = .pointer (some ⟨D.b, 0, none⟩) ∧ rv = .pointer (some ⟨R.b, 0, none⟩) ∧ Two W w D R S Q ∧ Twin S Q ∧ S.safe.length = len ∧ S.held.length ≤ hb

theorem State.below {W w : World} {dv rv : Value} {len hb : Nat} (h : State W w dv rv len hb) : Below W.heap.size W w := by
  rcases h with ⟨_, _, _, h⟩ | ⟨D, R, S, Q, _, _, h, _⟩
  · exact h
  · exact h.below
theorem State.quiet {W w w' : World} {dv rv : Value} {len hb : Nat} (h : State W w dv rv len hb) (u : Upd (fun _ => False) w w') : State W w' dv rv len hb := by
  rcases h with ⟨h1, h2, h3, h⟩ | ⟨D, R, S, Q, h1, h2, h, r⟩
  · exact .inl ⟨h1, h2, h3, h.trans (u.below h.size (fun _ h => h.elim))⟩
  · exact .inr ⟨D, R, S, Q, h1, h2, h.quiet u, r⟩
theorem State.calm {W w w' : World} {dv rv : Value} {len hb : Nat} (h : State W w dv rv len hb) (b : Below w.heap.size w w') : State W w' dv rv len hb :=
  h.quiet (Upd.ofBelow b (fun k hk h => by omega))
theorem State.more {W w : World} {dv rv : Value} {len hb hb' : Nat} (h : State W w dv rv len hb) (hl : hb ≤ hb') : State W w dv rv len hb' := by
  rcases h with h | ⟨D, R, S, Q, h1, h2, h, t, l, b⟩
  · exact .inl h
  · exact .inr ⟨D, R, S, Q, h1, h2, h, t, l, by omega⟩

/-- Blocks that neither device has: older than both, or newer than w0. -/
def Far (W w0 : World) (b : Nat) : Prop := b < W.heap.size ∨ w0.heap.size ≤ b
def FarAddr (W w0 : World) (ao : Option Addr) : Prop := ∀ b off, ao = some ⟨b, off, none⟩ → Far W w0 b
def FarKept (W w0 w w' : World) : Prop := ∀ b, b < w.heap.size → Far W w0 b → w'.heap[b]? = w.heap[b]?
theorem KCells.far {W w0 w w' : World} {ao : Option Addr} {ks : List Int} (h : KCells w ao ks) (hf : 0 < ks.length → FarAddr W w0 ao) (hk : FarKept W w0 w w') (hs : w.heap.size ≤ w'.heap.size) : KCells w' ao ks := by
  intro j hj
  obtain ⟨b, off, rfl, hb, hc⟩ := h j hj
  exact ⟨b, off, rfl, by omega, (World.cell?_of_block (hk b hb (hf (by omega) b off rfl))).trans hc⟩
theorem far_upd {W w0 w w' : World} {F : Nat → Prop} (u : Upd F w w') (hF : ∀ b, Far W w0 b → ¬ F b) : w.heap.size ≤ w'.heap.size ∧ FarKept W w0 w w' := ⟨u.size, fun b hb hf => u.block b hb (hF b hf)⟩
theorem far_same (W w0 w : World) : w.heap.size ≤ w.heap.size ∧ FarKept W w0 w w := ⟨Nat.le_refl _, fun _ _ _ => rfl⟩
theorem far_below {W w0 w w' : World} (b : Below w.heap.size w w') : w.heap.size ≤ w'.heap.size ∧ FarKept W w0 w w' := ⟨b.size, fun j hj _ => b.block j hj⟩
theorem Two.farD {W w0 : World} {D : DH} {R : RH} {S Q : DS} (h : Two W w0 D R S Q) : ∀ b, Far W w0 b → ¬ D.foot b := by
  intro b hb hd
  rcases hb with hb | hb
  · have := h.dnew b hd; omega
  · have := h.d.lt b hd; omega
theorem Two.farR {W w0 : World} {D : DH} {R : RH} {S Q : DS} (h : Two W w0 D R S Q) : ∀ b, Far W w0 b → ¬ R.foot b := by
  intro b hb hd
  rcases hb with hb | hb
  · have := h.rnew b hd; omega
  · have := h.r.lt b hd; omega

/-! ### Arm -/
/-- What is left to be done: the page's call, from a world in which nothing has turned since; it comes to v, and both are alike again. -/
def Then (W w0 w : World) (dv rv : Value) (len hb : Nat) (fr : Nat) (args : Array Value) (v : Value) : Prop :=
  ∀ w', Upd (fun _ => False) w w' → Calls Try.prog fr args w' fun e w2 => e = .returned v ∧ State W w2 dv rv len hb ∧ w'.heap.size ≤ w2.heap.size ∧ FarKept W w0 w' w2

theorem Then.same {W w0 w : World} {dv rv : Value} {len hb fr : Nat} {args : Array Value} {v : Value} (h : State W w dv rv len hb) (c : ∀ w', Upd (fun _ => False) w w' → Calls Try.prog fr args w' fun e w2 => e = .returned v ∧ w' = w2) : Then W w0 w dv rv len hb fr args v := by
  intro w' u
  refine (c w' u).mono ?_
  rintro e w2 ⟨he, rfl⟩
  exact ⟨he, h.quiet u, far_same _ _ _⟩

/-! ### what only reads -/
theorem State.size {W w : World} {dv rv : Value} {len hb : Nat} (h : State W w dv rv len hb) : len ≤ 8192 := by
  rcases h with ⟨_, _, h, _⟩ | ⟨D, R, S, Q, _, _, h, t, l, _⟩
  · omega
  · rw [← l]; exact h.d.small
theorem size_say {W w : World} {dv rv : Value} {len hb : Nat} (h : State W w dv rv len hb) : Calls Try.prog 22 #[dv] w fun e w' => e = .returned (.int .i64 len) ∧ w = w' := by
  rcases h with ⟨rfl, rfl, rfl, h⟩ | ⟨D, R, S, Q, rfl, rfl, h, t, rfl, _⟩
  · exact size_nil w
  · exact size_any D S w h.d
theorem rsize_say {W w : World} {dv rv : Value} {len hb : Nat} (h : State W w dv rv len hb) : Calls Try.prog 23 #[rv] w fun e w' => e = .returned (.int .i64 len) ∧ w = w' := by
  rcases h with ⟨rfl, rfl, rfl, h⟩ | ⟨D, R, S, Q, rfl, rfl, h, t, rfl, _⟩
  · exact rsize_nil w
  · have := rsize_any R Q w h.r
    rw [t.len] at this
    exact this
theorem ops_say {W w : World} {dv rv : Value} {len hb : Nat} (h : State W w dv rv len hb) : ∃ v : Int, (Calls Try.prog 13 #[dv] w fun e w' => e = .returned (.int .i64 v) ∧ w = w') ∧ Calls Try.prog 30 #[rv] w fun e w' => e = .returned (.int .i64 v) ∧ w = w' := by
  rcases h with ⟨rfl, rfl, rfl, h⟩ | ⟨D, R, S, Q, rfl, rfl, h, t, rfl, _⟩
  · exact ⟨0, ops_nil w, rops_nil w⟩
  · refine ⟨S.ops, ops_any D S w h.d, ?_⟩
    have := rops_any R Q w h.r
    rw [t.ops] at this
    exact this
theorem down_say {W w : World} {dv rv : Value} {len hb : Nat} (h : State W w dv rv len hb) : ∃ v : Bool, (Calls Try.prog 20 #[dv] w fun e w' => e = .returned (.bool v) ∧ w = w') ∧ Calls Try.prog 31 #[rv] w fun e w' => e = .returned (.bool v) ∧ w = w' := by
  rcases h with ⟨rfl, rfl, rfl, h⟩ | ⟨D, R, S, Q, rfl, rfl, h, t, rfl, _⟩
  · exact ⟨false, down_nil w, rdown_nil w⟩
  · refine ⟨S.down, down_any D S w h.d, ?_⟩
    have := rdown_any R Q w h.r
    rw [t.down] at this
    exact this
theorem held_say {W w : World} {dv rv : Value} {len hb : Nat} (h : State W w dv rv len hb) : ∃ v : Int, (Calls Try.prog 14 #[dv] w fun e w' => e = .returned (.int .i64 v) ∧ w = w') ∧ Calls Try.prog 32 #[rv] w fun e w' => e = .returned (.int .i64 v) ∧ w = w' := by
  rcases h with ⟨rfl, rfl, rfl, h⟩ | ⟨D, R, S, Q, rfl, rfl, h, t, rfl, _⟩
  · exact ⟨0, held_nil w, rheld_nil w⟩
  · refine ⟨S.held.length, held_any D S w h.d, ?_⟩
    have := rheld_any R Q w h.r
    rw [t.held] at this
    exact this

theorem arm_say {W w0 w : World} {dv rv : Value} {len hb : Nat} (h : State W w0 dv rv len hb) (u0 : Upd (fun _ => False) w0 w) (n : Int) :
    Calls Try.prog 19 #[dv, .int .i64 n] w fun e w' => e = .returned (.tuple #[]) ∧ Below W.heap.size W w' ∧ (w.heap.size ≤ w'.heap.size ∧ FarKept W w0 w w') ∧ Then W w0 w' dv rv len hb 27 #[rv, .int .i64 n] (.tuple #[]) := by
  have hw := h.quiet u0
  rcases h with ⟨rfl, rfl, rfl, h⟩ | ⟨D, R, S, Q, rfl, rfl, h0, t, rfl, hl⟩
  · refine (arm_nil n w).mono ?_
    rintro e w' ⟨rfl, rfl⟩
    exact ⟨rfl, hw.below, far_same _ _ _, Then.same hw (fun w' _ => rarm_nil n w')⟩
  · have h := h0.quiet u0
    refine (arm_any D S n w h.d).mono ?_
    rintro e w' ⟨rfl, hd, hu⟩
    obtain ⟨D', hb', _, h2⟩ := h.stepD (v := .tuple #[]) (e := .returned (.tuple #[])) ⟨D, rfl, rfl, hd, hu.mono (fun k _ e => Or.inl e), fun k hk => Or.inl hk⟩
    refine ⟨rfl, h2.below, far_upd hu (fun b hb e => h0.farD b hb (Or.inl e)), fun w2 u => ?_⟩
    refine (rarm_any R Q n w2 (h2.quiet u).r).mono ?_
    rintro e w3 ⟨rfl, hr, hu3⟩
    obtain ⟨R', hb3, _, h3⟩ := (h2.quiet u).stepR (v := .tuple #[]) (e := .returned (.tuple #[])) ⟨R, rfl, rfl, hr, hu3.mono (fun k _ e => Or.inl e), fun k hk => Or.inl hk⟩
    exact ⟨rfl, .inr ⟨D', R', _, _, by rw [hb'], by rw [hb3], h3, t.arm _, rfl, hl⟩, far_upd hu3 (fun b hb e => h0.farR b hb (Or.inl e))⟩

/-! ### Flush -/
theorem flush_say {W w : World} {dv rv : Value} {len hb : Nat} (h : State W w dv rv len hb) (hm : hb ≤ 1000000) :
    Calls Try.prog 17 #[dv] w fun e w' => ∃ v : Int, e = .returned (.int .i64 v) ∧ Below W.heap.size W w' ∧ Then W w w' dv rv len hb 26 #[rv] (.int .i64 v) := by
  have h0 := h
  rcases h with ⟨rfl, rfl, rfl, h⟩ | ⟨D, R, S, Q, rfl, rfl, h, t, rfl, hl⟩
  · refine (flush_nil w).mono ?_
    rintro e w' ⟨rfl, rfl⟩
    exact ⟨1, rfl, h, Then.same h0 (fun w' _ => rflush_nil w')⟩
  · refine (flush_any D S w h.d (fun x hx => (t.ok.held x hx).1) (by omega)).mono ?_
    intro e w' p
    obtain ⟨D', hb', he, h2⟩ := h.stepD p
    obtain ⟨t2, tl, th⟩ := t.flush
    refine ⟨_, he, h2.below, fun w2 u => ?_⟩
    have key : Calls Try.prog 26 #[.pointer (some ⟨R.b, 0, none⟩)] w2 (RPost R w2 (.int .i64 (if S.goes then 0 else 41)) Q.rflush) := by
      unfold DS.rflush
      rw [t.goes]
      cases hg : S.goes with
      | true => exact rflush_yes R Q w2 (h2.quiet u).r (by rw [t.goes, hg])
      | false => exact rflush_no R Q w2 (h2.quiet u).r (by rw [t.goes, hg])
    refine key.mono ?_
    intro e3 w3 p3
    have hfar : w2.heap.size ≤ w3.heap.size ∧ FarKept W w w2 w3 := by
      obtain ⟨_, _, _, _, hu, _⟩ := p3
      exact far_upd hu (fun b hb hd => h.farR b hb hd)
    obtain ⟨R', hb3, he3, h3⟩ := (h2.quiet u).stepR p3
    exact ⟨he3, .inr ⟨D', R', _, _, by rw [hb'], by rw [hb3], h3, t2, tl, by omega⟩, hfar⟩

end Go.Proofs.Ytojcoambodedbaa
