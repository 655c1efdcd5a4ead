/- The page's device: Crash. -/
import Derived.StillTailTactics
import Derived.Deep.DeepCutAuto
import Derived.Outline
import Derived.Test.YtojcoambodedbaaI
import Derived.Test.YtojcoambodedbaaRd
set_option linter.unusedVariables false
set_option linter.unusedSimpArgs false
set_option linter.unnecessarySimpa false
namespace Go.Proofs.Ytojcoambodedbaa
open Go.RowKit

def rtear1 (S : DS) (n i : Nat) (s : ByteArray) : DS := { S with safe := S.safe.set i (torn n s (S.safe.getD i ByteArray.empty)) }
def rtears (ks : List Int) (S : DS) : Nat → List (Nat × ByteArray) → DS
  | _, [] => S
  | i, x :: l => rtears ks (rtear1 S (keepAt ks i) x.1 x.2) (i + 1) l
def DS.rcrash (S : DS) (ks : List Int) : DS := { (rtears ks S 0 S.held) with now := (rtears ks S 0 S.held).safe, held := [], down := false, armed := false }
theorem rtears_same (ks : List Int) (l : List (Nat × ByteArray)) : ∀ (i : Nat) (S : DS), (rtears ks S i l).held = S.held ∧ (rtears ks S i l).safe.length = S.safe.length ∧ (rtears ks S i l).now = S.now ∧ (rtears ks S i l).ops = S.ops ∧ (rtears ks S i l).armed = S.armed ∧ (rtears ks S i l).left = S.left ∧ (rtears ks S i l).down = S.down := by
  induction l with
  | nil => intro i S; exact ⟨rfl, rfl, rfl, rfl, rfl, rfl, rfl⟩
  | cons x l ih =>
    intro i S
    have := ih (i + 1) (rtear1 S (keepAt ks i) x.1 x.2)
    simpa [rtears, rtear1] using this

theorem RefAt.heldForm {w : World} {D : RH} {S : DS} (h : RefAt w D S) : (D.hv = .slice none 0 0 ∧ S.held = []) ∨ ∃ g cap, D.hv = .slice (some ⟨g, 0, none⟩) S.held.length cap := by
  rcases h.held.2 with ⟨hv, h0⟩ | ⟨g, cap, cur, hv, _⟩
  · exact Or.inl ⟨hv, List.eq_nil_of_length_eq_zero h0⟩
  · exact Or.inr ⟨g, cap, hv⟩
theorem RefAt.heldCell {w : World} {D : RH} {S : DS} (h : RefAt w D S) {g cap : Nat} (hv : D.hv = .slice (some ⟨g, 0, none⟩) S.held.length cap) (k : Nat) (x : Nat × ByteArray) (hx : S.held[k]? = some x) :
    w.cell? ⟨g, k * 2, none⟩ = some (.int .i64 x.1) ∧ w.cell? ⟨g, k * 2 + 1, none⟩ = some (.string x.2) := by
  have hc := h.held.cells (g := g) (by rw [hv]; rfl)
  obtain ⟨a, b⟩ := heldCells_get S.held k x hx
  have hadd : ∀ j, (⟨g, 0, none⟩ : Addr).add j = ⟨g, j, none⟩ := by intro j; unfold Addr.add; split <;> simp_all
  have ha := hc _ _ a
  have hb := hc _ _ b
  rw [hadd] at ha hb
  exact ⟨ha, hb⟩
theorem RefAt.safePut {w : World} {D : RH} {S : DS} (h : RefAt w D S) (i : Nat) (s : ByteArray) : RefAt (w.setCell ⟨D.bs, i, none⟩ (.string s)) D { S with safe := S.safe.set i s } := by
  have n1 : D.bs ≠ D.b := h.safe.ne_blk h.blk (by decide)
  have hu : Upd (fun k => k = D.bs) w (w.setCell ⟨D.bs, i, none⟩ (.string s)) := (Upd.refl _ _).at1 _ _
  refine ⟨?_, h.safe.set i s, h.now.upd hu (fun e => h.ne e.symm), hu.owns h.held (fun k hk e => ownBlock_ne_row h.held h.safe (by decide) (e ▸ hk)), h.ne, by simpa using h.len, by simpa using h.small, by simpa using h.caps⟩
  have := hu.blk h.blk (fun e => n1 e.symm)
  simpa [RH.cells] using this

/-- Behind the copy and the last three stores of Crash. -/
theorem rcrash_end {D : RH} {w w1 w2 : World} {S2 : DS} (h1 : RefAt w1 D S2) (hu : Upd D.foot w w1) (r2 : SRow w2 D.bn S2.safe) (u2 : Upd (fun k => k = D.bn) w1 w2) :
    RPost D w (.tuple #[]) { S2 with now := S2.safe, held := [], down := false, armed := false } (.returned (.tuple #[])) (((w2.setCell ⟨D.b, 2, none⟩ (.slice none 0 0)).setCell ⟨D.b, 6, none⟩ (.bool false)).setCell ⟨D.b, 4, none⟩ (.bool false)) := by
  have n1 : D.bs ≠ D.b := h1.safe.ne_blk h1.blk (by decide)
  have n2 : D.bn ≠ D.b := h1.now.ne_blk h1.blk (by decide)
  have b2 := u2.blk h1.blk (fun e => n2 e.symm)
  have hb := ((b2.set 2 (.slice none 0 0)).set 6 (.bool false)).set 4 (.bool false)
  have hu3 : Upd (fun k => k = D.b) w2 (((w2.setCell ⟨D.b, 2, none⟩ (.slice none 0 0)).setCell ⟨D.b, 6, none⟩ (.bool false)).setCell ⟨D.b, 4, none⟩ (.bool false)) := (((Upd.refl _ _).at1 _ _).at1 _ _).at1 _ _
  refine ⟨⟨D.b, D.bs, D.bn, D.cs, D.cn, .slice none 0 0⟩, rfl, rfl, ⟨?_, ?_, r2.upd hu3 n2, World.ownsRow_nil _ _ _ _, h1.ne, rfl, h1.small, h1.caps⟩, ?_, ?_⟩
  · exact hb
  · exact (h1.safe.upd u2 h1.ne).upd hu3 n1
  · exact (hu.trans u2 (fun k _ e => Or.inr (Or.inr (Or.inl e)))).trans hu3 (fun k _ e => Or.inl e)
  · rintro k (hk | hk | hk | hk)
    · exact Or.inl (Or.inl hk)
    · exact Or.inl (Or.inr (Or.inl hk))
    · exact Or.inl (Or.inr (Or.inr (Or.inl hk)))
    · simp [Value.ownBlock] at hk

set_option maxRecDepth 100000 in
set_option maxHeartbeats 1000000 in
theorem rcrash_none (D : RH) (S : DS) (ks : List Int) (kv : Value) (w : World) (h : RefAt w D S) (hv : D.hv = .slice none 0 0) (hn : S.held = []) :
    Calls Try.prog 28 #[.pointer (some ⟨D.b, 0, none⟩), kv] w (RPost D w (.tuple #[]) (S.rcrash ks)) := by
  have c2 : w.cell? ⟨D.b, 2, none⟩ = some (.slice none 0 0) := by rw [← hv, h.blk.cell]; rfl
  have c0 : w.cell? ⟨D.b, 0, none⟩ = some (.slice (some ⟨D.bs, 0, none⟩) S.safe.length D.cs) := by rw [h.blk.cell]; rfl
  have c1 : w.cell? ⟨D.b, 1, none⟩ = some (.slice (some ⟨D.bn, 0, none⟩) S.safe.length D.cn) := by rw [h.blk.cell]; rfl
  have hS : S.rcrash ks = { S with now := S.safe, held := [], down := false, armed := false } := by
    unfold DS.rcrash
    rw [hn]; rfl
  rw [hS]
  have hl := h.len
  have H := Lib.hid h
  have s0 := Lib.hid (show ∀ n, SRow (w.drewN n) D.bs S.safe from fun n => h.safe.upd ((Upd.refl (fun _ => False) w).drewN n) id)
  have s1 := Lib.hid (show ∀ n, SRow (w.drewN n) D.bn S.now from fun n => h.now.upd ((Upd.refl (fun _ => False) w).drewN n) id)
  clear h hv hn hS
  go_enter Try.func28, Try.ntmps28
  go_wp2_with fail
  refine wp_loop_rounds 1 ?_
  rw [rounds_succ]
  go_wp2_with fail
  go_region_law (refine step_copy_strs rfl (.tmp 60) (.tmp 64) rfl D.bn D.bs S.safe.length D.cn D.cs rfl rfl S.safe S.now rfl hl (s1.out 1) (s0.out 1) ?_; intro w2 r2 u2)
  all_goals
    have hu2 : Upd (fun k => k = D.bn) w w2 := ⟨u2.os, u2.tape, u2.output, u2.size, u2.block⟩
    have n2 : D.bn ≠ D.b := H.out.now.ne_blk H.out.blk (by decide)
    have b2 := hu2.blk H.out.blk (fun e => n2 e.symm)
    have x2 : w2.cell? ⟨D.b, 2, none⟩ = some D.hv := by rw [b2.cell]; rfl
    have x4 : w2.cell? ⟨D.b, 4, none⟩ = some (.bool S.armed) := by rw [b2.cell]; rfl
    have x6 : w2.cell? ⟨D.b, 6, none⟩ = some (.bool S.down) := by rw [b2.cell]; rfl
    have f2 := b2.free 2
    have f4 := b2.free 4
    have f6 := b2.free 6
    have HE := Lib.hid (rcrash_end H.out (Upd.refl D.foot w) r2 hu2)
    clear u2 r2 hu2 b2 n2 hl c0 c1 c2
    go_wp2_with fail
    go_end0
    exact HE.out


theorem secs_set {l : List ByteArray} (h : ∀ s ∈ l, s.size = 512) (i : Nat) (t : ByteArray) (ht : t.size = 512) : ∀ s ∈ l.set i t, s.size = 512 := by
  intro s hs
  rcases List.mem_or_eq_of_mem_set hs with hs | rfl
  · exact h s hs
  · exact ht

set_option maxRecDepth 100000 in
set_option maxHeartbeats 2000000 in
theorem rcrash_some (D : RH) (S : DS) (g cap : Nat) (ks : List Int) (ao : Option Addr) (kc : Nat) (w : World) (h : RefAt w D S) (hok : S.Full) (hv : D.hv = .slice (some ⟨g, 0, none⟩) S.held.length cap) (hm : S.held.length ≤ 1000000)
    (hks : ks.length ≤ 140737488355328) (hk : ∀ j, j < ks.length → ∃ b off, ao = some ⟨b, off, none⟩ ∧ b < w.heap.size ∧ ¬ D.foot b ∧ w.cell? ⟨b, off + j, none⟩ = some (.int .i64 (ks.getD j 0))) :
    Calls Try.prog 28 #[.pointer (some ⟨D.b, 0, none⟩), .slice ao ks.length kc] w (RPost D w (.tuple #[]) (S.rcrash ks)) := by
  have hs := h.small
  have H := Lib.hid h
  have HV := Lib.hid hv
  have HK := Lib.hid hk
  have hDb := h.blk.lt
  have HT0 := Lib.hid (show rtears ks S 0 (S.held.drop 0) = rtears ks S 0 S.held from rfl)
  clear h hv hk
  go_enter Try.func28, Try.ntmps28
  go_wp2_with fail
  go_loopw [4] (fun i wr => ∃ (k : Nat) (S' : DS), k ≤ S.held.length ∧ i = .int .i64 k ∧ RefAt wr D S' ∧ (∀ s ∈ S'.safe, s.size = 512) ∧ S'.held = S.held ∧ S'.safe.length = S.safe.length ∧ rtears ks S' k (S.held.drop k) = rtears ks S 0 S.held ∧ Upd D.foot w wr) (fun i _ => S.held.length - (intOf i).toNat)
  case atStart => exact ⟨0, S, by omega, rfl, H.out, hok.safe, rfl, rfl, HT0.out, Upd.refl _ _⟩
  case round =>
    obtain ⟨k, S', hk, rfl, h, ho, hh, hl, hst, hu⟩ := hrel
    have HH := Lib.hid hh
    have HL := Lib.hid hl
    have HO := Lib.hid ho
    have c2 : wr.cell? ⟨D.b, 2, none⟩ = some (.slice (some ⟨g, 0, none⟩) S.held.length cap) := by rw [h.blk.cell, ← HV.out]; rfl
    clear ho
    by_cases hlt : k < S.held.length
    · obtain ⟨x, hx⟩ : ∃ x, S.held[k]? = some x := ⟨_, List.getElem?_eq_getElem hlt⟩
      have hxr := hok.held x (List.mem_of_getElem? hx)
      obtain ⟨y0, y1⟩ := h.heldCell (by rw [HV.out, hh]) k x (by rw [hh]; exact hx)
      have hd : S.held.drop k = x :: S.held.drop (k + 1) := by
        rw [List.drop_eq_getElem_cons hlt]
        congr 1
        have := List.getElem?_eq_getElem hlt
        rw [this] at hx
        exact Option.some.inj hx
      rw [hd, rtears] at hst
      have HST := Lib.hid hst
      have H' := Lib.hid h
      have l1 := h.blk.lt
      have l2 := h.safe.lt
      have HX := Lib.hid hxr
      clear hst hd hh hl hx h hxr
      go_upto_if 21 with fail
      go_cut [5] (fun s5 wx => s5 = .int .i64 (keepAt ks k : Nat) ∧ wx = wr)
      case first =>
        by_cases hj : k < ks.length
        · obtain ⟨b, off, hao, hb, hbf, hkc⟩ := HK.out k hj
          have hkc2 : wr.cell? ⟨b, off + k, none⟩ = some (.int .i64 (ks.getD k 0)) := (World.cell?_of_block (hu.block b hb hbf)).trans hkc
          have hb2 : b < wr.heap.size := by have := hu.size; omega
          subst hao
          clear HK hbf hkc y0 y1
          have hv3 : ((keepAt ks k : Nat) : Int) = max 0 (min (ks.getD k 0) 512) := by
            unfold keepAt
            rw [if_pos hj]
            omega
          generalize ks.getD k 0 = v at *
          have H1 := Lib.hid hv3
          clear hv3
          go_wp2
          all_goals (go_meet; exact ⟨by rw [H1.out], rfl⟩)
        · have h0 : keepAt ks k = 0 := by unfold keepAt; rw [if_neg hj]
          have H1 := Lib.hid h0
          clear HK y0 y1 h0
          go_wp2
          all_goals (go_meet; exact ⟨by rw [H1.out]; rfl, rfl⟩)
      case rest =>
        obtain ⟨rfl, rfl⟩ := hcut
        go_wp2_with fail
        have h := H'.out
        have hl := HL.out
        have hxr := HX.out
        have kle := keepAt_le ks k
        have hX : RefAt (wc.alloc (.cells #[.int .i64 x.1, .string x.2] 77)) D S' := h.keep (Upd.alloc (Upd.refl (fun _ => False) _) _) (fun _ _ => id)
        have bX := Blk.new wc #[.int .i64 x.1, .string x.2] 77
        obtain ⟨r, hr⟩ : ∃ r, keepAt ks k = r := ⟨_, rfl⟩
        rw [hr] at kle ⊢
        have HR := Lib.hid hr
        have cs := hX.safe.cell x.1 (by rw [hl]; exact hxr.1)
        have fs := hX.safe.free x.1
        have hsz := getD_size HO.out (show x.1 < S'.safe.length by rw [hl]; exact hxr.1)
        obtain ⟨t, ht⟩ : ∃ t, S'.safe.getD x.1 ByteArray.empty = t := ⟨_, rfl⟩
        rw [ht] at hsz cs
        have HTT := Lib.hid ht
        have HO2 := Lib.hid (secs_set HO.out x.1 (torn r x.2 t) (size_torn r x.2 t kle hxr.2 hsz))
        have hput := Lib.hid (hX.safePut x.1 (torn r x.2 t))
        obtain ⟨W0, hW0⟩ : ∃ W0, wc.alloc (.cells #[.int .i64 x.1, .string x.2] 77) = W0 := ⟨_, rfl⟩
        have hu0 : Upd D.foot w W0 := by rw [← hW0]; exact hu.alloc _
        obtain ⟨B, hB⟩ : ∃ B, wc.heap.size = B := ⟨_, rfl⟩
        rw [hW0] at hX bX hput cs fs ⊢
        rw [hB] at bX ⊢
        have r1 : (r : Int) ≤ (x.2.size : Int) := by omega
        have r2 : (r : Int) ≤ (t.size : Int) := by omega
        have hxi : (x.1 : Int) < (S.safe.length : Int) := by omega
        have c0 : W0.cell? ⟨D.b, 0, none⟩ = some (.slice (some ⟨D.bs, 0, none⟩) S.safe.length D.cs) := by rw [hX.blk.cell, ← hl]; rfl
        have x0 : W0.cell? ⟨B, 0, none⟩ = some (.int .i64 x.1) := by rw [bX.cell]; rfl
        have x1 : W0.cell? ⟨B, 1, none⟩ = some (.string x.2) := by rw [bX.cell]; rfl
        have s1 : x.2.size ≤ 512 := by omega
        have s2 : t.size ≤ 512 := by omega
        have hsum : ¬ (9223372036854775807 < min r x.2.size + (t.size - r)) := by omega
        have lX := hX.safe.lt
        have hu0' := Lib.hid hu0
        clear hr ht hB hW0 y0 y1 H' hu hl hxr hsz h c2 hX bX hu0 kle
        go_still_tail 22, (by kernel_rfl)
        change wpList _ _ _ _ _ W0.drew
        go_wp2
        go_roundw
        case rel =>
          refine ⟨k + 1, rtear1 S' r x.1 x.2, by omega, by go_num, ?_, ?_, HH.out, by have := HL.out; simpa [rtear1] using this, by have := HST.out; rw [HR.out] at this; exact this, (hu0'.out.setCell (p := ⟨D.bs, x.1, none⟩) (fun _ => Or.inr (Or.inl rfl)) _).drew⟩
          · unfold rtear1
            rw [HTT.out]
            exact hput.out.drew
          · unfold rtear1
            rw [HTT.out]
            exact HO2.out
        case measure => simp [intOf]; omega
    · have hk' : k = S.held.length := by omega
      subst hk'
      rw [List.drop_length] at hst
      have hst2 : S' = rtears ks S 0 S.held := hst
      have hlen := h.len
      have H1 := Lib.hid h
      have c0 : wr.cell? ⟨D.b, 0, none⟩ = some (.slice (some ⟨D.bs, 0, none⟩) S'.safe.length D.cs) := by rw [h.blk.cell]; rfl
      have c1 : wr.cell? ⟨D.b, 1, none⟩ = some (.slice (some ⟨D.bn, 0, none⟩) S'.safe.length D.cn) := by rw [h.blk.cell]; rfl
      have s0 := Lib.hid (show ∀ n, SRow (wr.drewN n) D.bs S'.safe from fun n => h.safe.upd ((Upd.refl (fun _ => False) wr).drewN n) id)
      have s1 := Lib.hid (show ∀ n, SRow (wr.drewN n) D.bn S'.now from fun n => h.now.upd ((Upd.refl (fun _ => False) wr).drewN n) id)
      have HS2 := Lib.hid hst2
      obtain ⟨wo, hwo⟩ : ∃ wo : World, wo = wr := ⟨_, rfl⟩
      subst hwo
      clear hst hst2 hh hl h HH HL
      go_wp2_with fail
      go_region_law (refine step_copy_strs rfl (.tmp 60) (.tmp 64) rfl D.bn D.bs S'.safe.length D.cn D.cs rfl rfl S'.safe S'.now rfl hlen (s1.out 1) (s0.out 1) ?_; intro w2 r2 u2)
      all_goals
        have hu2 : Upd (fun k => k = D.bn) wo w2 := ⟨u2.os, u2.tape, u2.output, u2.size, u2.block⟩
        have n2 : D.bn ≠ D.b := H1.out.now.ne_blk H1.out.blk (by decide)
        have b2 := hu2.blk H1.out.blk (fun e => n2 e.symm)
        have x2 : w2.cell? ⟨D.b, 2, none⟩ = some D.hv := by rw [b2.cell]; rfl
        have x4 : w2.cell? ⟨D.b, 4, none⟩ = some (.bool S'.armed) := by rw [b2.cell]; rfl
        have x6 : w2.cell? ⟨D.b, 6, none⟩ = some (.bool S'.down) := by rw [b2.cell]; rfl
        have f2 := b2.free 2
        have f4 := b2.free 4
        have f6 := b2.free 6
        have HE := Lib.hid (rcrash_end H1.out hu r2 hu2)
        clear u2 r2 hu2 b2 n2 hlen c0 c1 c2
        go_wp2_with fail
        go_end0
        have := HE.out
        unfold DS.rcrash
        rw [← HS2.out]
        exact this

theorem rcrash_any (D : RH) (S : DS) (ks : List Int) (ao : Option Addr) (kc : Nat) (w : World) (h : RefAt w D S) (hok : S.Full) (hm : S.held.length ≤ 1000000)
    (hks : ks.length ≤ 140737488355328) (hk : ∀ j, j < ks.length → ∃ b off, ao = some ⟨b, off, none⟩ ∧ b < w.heap.size ∧ ¬ D.foot b ∧ w.cell? ⟨b, off + j, none⟩ = some (.int .i64 (ks.getD j 0))) :
    Calls Try.prog 28 #[.pointer (some ⟨D.b, 0, none⟩), .slice ao ks.length kc] w (RPost D w (.tuple #[]) (S.rcrash ks)) := by
  rcases h.heldForm with ⟨hv, hn⟩ | ⟨g, cap, hv⟩
  · exact rcrash_none D S ks _ w h hv hn
  · exact rcrash_some D S g cap ks ao kc w h hok hv hm hks hk

end Go.Proofs.Ytojcoambodedbaa
