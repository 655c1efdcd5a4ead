/- The page's device: Write. -/
import Derived.Test.YtojcoambodedbaaRc
set_option linter.unusedVariables false
set_option linter.unusedSimpArgs false
set_option linter.unnecessarySimpa false
namespace Go.Proofs.Ytojcoambodedbaa
open Go.RowKit

theorem Try.info77 : (Try.prog.info? 77).map (fun i => (i.zero, i.size, i.bytes)) = some (some (.agg #[.int .i64 0, .string ⟨#[]⟩]), 2, 24) := by kernel_rfl

/-- One sector's write of the page's device that is carried out. -/
def DS.rput (S : DS) (i : Nat) (s : ByteArray) : DS := { S.rop with held := S.held ++ [(i, s)], now := S.now.set i s }
/-- The rest of a write, from sector k on, f sectors. -/
def DS.rwr (at' : Nat) (data : ByteArray) : Nat → Nat → DS → DS × Int
  | 0, _, S => (S, 0)
  | f + 1, k, S => if S.goes then DS.rwr at' data f (k + 1) (S.rput (at' + k) (chunk data k)) else ({ S with down := true }, 41)
theorem DS.rwr_yes {at' : Nat} {data : ByteArray} {f k : Nat} {S : DS} (h : S.goes = true) : DS.rwr at' data (f + 1) k S = DS.rwr at' data f (k + 1) (S.rput (at' + k) (chunk data k)) := by
  rw [DS.rwr, if_pos h]
theorem DS.rwr_no {at' : Nat} {data : ByteArray} {f k : Nat} {S : DS} (h : S.goes = false) : DS.rwr at' data (f + 1) k S = ({ S with down := true }, 41) := by
  rw [DS.rwr, if_neg (by rw [h]; simp)]

theorem rwrite_odd (D : RH) (S : DS) (at' : Int) (data : ByteArray) (w : World) (h : RefAt w D S) (hsz : data.size ≤ 140737488355328) (hbad : ¬ data.size % 512 = 0) :
    Calls Try.prog 24 #[.pointer (some ⟨D.b, 0, none⟩), .int .i64 at', .string data] w fun e w' => e = .returned (.int .i64 40) ∧ w = w' := by
  have e1 : ((data.size : Int) % 512 != 0) = true := by simp; omega
  clear h hbad
  go_enter Try.func24, Try.ntmps24
  go_wp2
  go_ret
  exact ⟨rfl, rfl⟩
theorem rwrite_place (D : RH) (S : DS) (at' : Int) (m : Nat) (data : ByteArray) (w : World) (h : RefAt w D S) (hd : data.size = m * 512) (hsz : data.size ≤ 140737488355328) (hbad : ¬ There at' m S.safe.length) :
    Calls Try.prog 24 #[.pointer (some ⟨D.b, 0, none⟩), .int .i64 at', .string data] w fun e w' => e = .returned (.int .i64 40) ∧ w = w' := by
  have K := Lib.hid (there_no D S at' m w h hbad)
  have e1 : ((data.size : Int) % 512 != 0) = false := by rw [hd]; simp
  have e2 : (data.size : Int) / 512 = m := by rw [hd]; omega
  clear h hbad hd
  go_enter Try.func24, Try.ntmps24
  go_wp2_with fail
  refine K.out.mono ?_
  rintro e w' ⟨rfl, rfl⟩
  go_wp2
  go_ret
  exact ⟨rfl, rfl⟩
theorem rwrite_down (D : RH) (S : DS) (at' m : Nat) (data : ByteArray) (w : World) (h : RefAt w D S) (hd : data.size = m * 512) (ha : at' + m ≤ S.safe.length) (hdn : S.down = true) :
    Calls Try.prog 24 #[.pointer (some ⟨D.b, 0, none⟩), .int .i64 at', .string data] w fun e w' => e = .returned (.int .i64 41) ∧ w = w' := by
  have K := Lib.hid (there_yes D S at' m w h (by unfold There; omega))
  have c6 : w.cell? ⟨D.b, 6, none⟩ = some (.bool true) := by rw [h.blk.cell, ← hdn]; rfl
  have hs := h.small
  have hsz : data.size ≤ 140737488355328 := by rw [hd]; omega
  have e1 : ((data.size : Int) % 512 != 0) = false := by rw [hd]; simp
  have e2 : (data.size : Int) / 512 = m := by rw [hd]; omega
  clear h hd hdn
  go_enter Try.func24, Try.ntmps24
  go_wp2_with fail
  refine K.out.mono ?_
  rintro e w' ⟨rfl, rfl⟩
  go_wp2
  go_ret
  exact ⟨rfl, rfl⟩

/-- A sector's text is laid into 'seen'. -/
theorem RefAt.nowPut {w : World} {D : RH} {S : DS} (h : RefAt w D S) (i : Nat) (s : ByteArray) : RefAt (w.setCell ⟨D.bn, i, none⟩ (.string s)) D { S with now := S.now.set i s } := by
  have n1 : D.bn ≠ D.b := h.now.ne_blk h.blk (by decide)
  have hu : Upd (fun k => k = D.bn) w (w.setCell ⟨D.bn, i, none⟩ (.string s)) := (Upd.refl _ _).at1 _ _
  exact ⟨hu.blk h.blk (fun e => n1 e.symm), h.safe.upd hu h.ne, h.now.set i s, hu.owns h.held (fun k hk e => ownBlock_ne_row h.held h.now (by decide) (e ▸ hk)), h.ne, by simpa using h.len, h.small, h.caps⟩

/-- A write is laid behind what is held. -/
theorem RefAt.heldPut {w w2 : World} {D : RH} {S : DS} (h : RefAt w D S) (i : Nat) (s : ByteArray) (v : Value) {X : Obj}
    (hown : w2.ownsRow 0 77 2 v (S.held.length + 1) (heldCells S.held ++ [.int .i64 i, .string s])) (hg : (w.alloc X).grownBy w2 D.hv.ownBlock) (hat : ∀ g, v.ownBlock = some g → D.hv.ownBlock = some g ∨ w.heap.size ≤ g) :
    RefAt (w2.setCell ⟨D.b, 2, none⟩ v) { D with hv := v } { S with held := S.held ++ [(i, s)] } ∧
      Upd D.foot w (w2.setCell ⟨D.b, 2, none⟩ v) ∧ (∀ k, RH.foot { D with hv := v } k → D.foot k ∨ w.heap.size ≤ k) := by
  have u2 : Upd (fun k => D.hv.ownBlock = some k) w w2 := ((Upd.refl _ _).alloc X).grown hg (fun k hk _ => hk)
  have b0 : Blk w2 D.b (D.cells S) 75 := u2.blk h.blk (ownBlock_ne h.held h.blk (by decide))
  have b1 : SRow w2 D.bs S.safe := h.safe.upd u2 (ownBlock_ne_row h.held h.safe (by decide))
  have b2 : SRow w2 D.bn S.now := h.now.upd u2 (ownBlock_ne_row h.held h.now (by decide))
  have m1 : D.bs ≠ D.b := h.safe.ne_blk h.blk (by decide)
  have m2 : D.bn ≠ D.b := h.now.ne_blk h.blk (by decide)
  have hu3 : Upd (fun k => k = D.b) w2 (w2.setCell ⟨D.b, 2, none⟩ v) := (Upd.refl _ _).at1 _ _
  have hgb : v.ownBlock ≠ some D.b := ownBlock_ne hown b0 (by decide)
  refine ⟨⟨b0.set 2 v, b1.upd hu3 m1, b2.upd hu3 m2, ?_, h.ne, h.len, h.small, h.caps⟩, ?_, ?_⟩
  · have := hu3.owns hown (fun k hk e => hgb (e ▸ hk))
    simpa [heldCells_snoc] using this
  · have u3 : Upd D.foot w w2 := u2.mono fun k _ hk => Or.inr (Or.inr (Or.inr hk))
    exact u3.setCell (p := ⟨D.b, 2, none⟩) (fun _ => Or.inl rfl) _
  · rintro k (hk | hk | hk | hk)
    · exact Or.inl (Or.inl hk)
    · exact Or.inl (Or.inr (Or.inl hk))
    · exact Or.inl (Or.inr (Or.inr (Or.inl hk)))
    · rcases hat k hk with h1 | h1
      · exact Or.inl (Or.inr (Or.inr (Or.inr h1)))
      · exact Or.inr h1

theorem news_one (W : World) (n : Nat) (hn : W.heap.size = n) (A B : Value) : ∀ j u, [A, B][j]? = some u → (W.alloc (.cells #[A, B] 77)).cell? ((⟨n, 0, none⟩ : Addr).add j) = some u := by
  subst hn
  have h := heap_alloc_new W (.cells #[A, B] 77)
  intro j u hu
  have hadd : (⟨W.heap.size, 0, none⟩ : Addr).add j = ⟨W.heap.size, j, none⟩ := by unfold Addr.add; split <;> simp_all
  rw [hadd]
  simp only [World.cell?, h]
  simpa using hu
theorem RefAt.grownBlk {w1 w2 : World} {D : RH} {S : DS} (h : RefAt w1 D S) {X : Obj} (hg : (w1.alloc X).grownBy w2 D.hv.ownBlock) : Blk w2 D.b (D.cells S) 75 :=
  Upd.blk (((Upd.refl (fun k => D.hv.ownBlock = some k) _).alloc X).grown hg (fun k hk _ => hk)) h.blk (ownBlock_ne h.held h.blk (by decide))

set_option maxRecDepth 100000 in
set_option maxHeartbeats 1000000 in
theorem rwrite_ok (D : RH) (S : DS) (at' m : Nat) (data : ByteArray) (w : World) (h : RefAt w D S) (hd : data.size = m * 512) (ha : at' + m ≤ S.safe.length) (hdn : S.down = false) (hm : S.held.length + m ≤ 1000000) :
    Calls Try.prog 24 #[.pointer (some ⟨D.b, 0, none⟩), .int .i64 at', .string data] w (RPost D w (.int .i64 (DS.rwr at' data m 0 S).2) (DS.rwr at' data m 0 S).1) := by
  obtain ⟨R, hR⟩ : ∃ R, DS.rwr at' data m 0 S = R := ⟨_, rfl⟩
  rw [hR]
  have HR := Lib.hid hR
  clear hR
  obtain ⟨i0, hi, hz0, hz1, hz2⟩ := info_parts Try.info77
  have K := Lib.hid (there_yes D S at' m w h (by unfold There; omega))
  have c6 : w.cell? ⟨D.b, 6, none⟩ = some (.bool false) := by rw [h.blk.cell, ← hdn]; rfl
  have hs := h.small
  have hsz : data.size ≤ 140737488355328 := by rw [hd]; omega
  have e1 : ((data.size : Int) % 512 != 0) = false := by rw [hd]; simp
  have e2 : (data.size : Int) / 512 = m := by rw [hd]; omega
  have h5 : at' + m ≤ 8192 := by omega
  have H := Lib.hid h
  have HD := Lib.hid hd
  have HN := Lib.hid hdn
  clear h hd hdn
  go_enter Try.func24, Try.ntmps24
  go_wp2_with fail
  refine K.out.mono ?_
  rintro e w' ⟨rfl, rfl⟩
  go_wp2_with fail
  clear c6
  go_loopw [7] (fun i wr => ∃ (k : Nat) (D' : RH) (S' : DS), k ≤ m ∧ i = .int .i64 k ∧ D'.b = D.b ∧ RefAt wr D' S' ∧ S'.safe.length = S.safe.length ∧ S'.held.length = S.held.length + k ∧ DS.rwr at' data (m - k) k S' = R ∧ Upd D.foot w wr ∧ (∀ j, D'.foot j → D.foot j ∨ w.heap.size ≤ j)) (fun i _ => m - (intOf i).toNat)
  case atStart => exact ⟨0, D, S, by omega, rfl, rfl, H.out, rfl, rfl, HR.out, Upd.refl _ _, fun j hj => Or.inl hj⟩
  case round =>
    obtain ⟨k, D', S', hk, rfl, hb, h, hl, hh, hwr, hu, hF⟩ := hrel
    have HB := Lib.hid hb
    have HL := Lib.hid hl
    have HH := Lib.hid hh
    have HW := Lib.hid hwr
    clear hl hh hwr
    by_cases hlt : k < m
    · cases hg : S'.goes with
      | true =>
        have K := one_yes D' S' wr h hg
        rw [hb] at K
        have K := Lib.hid K
        have hw := HW.out
        rw [show m - k = (m - (k + 1)) + 1 from by omega, DS.rwr_yes hg] at hw
        have HWn := Lib.hid hw
        clear hg hb h hw
        have hsl := chunk_run data k (by have := HD.out; have := Nat.mul_le_mul_right 512 (show k + 1 ≤ m by omega); omega)
        go_wp2_with fail
        refine K.out.mono ?_
        rintro e w1 ⟨rfl, h1, hu1⟩
        have hlt' : at' + k < S'.safe.length := by have := HL.out; omega
        have c1 : w1.cell? ⟨D.b, 1, none⟩ = some (.slice (some ⟨D'.bn, 0, none⟩) S'.safe.length D'.cn) := by rw [← HB.out, h1.blk.cell]; rfl
        have cn := h1.now.cell (at' + k) (by have := h1.len; simp only [DS.rop] at this ⊢; omega)
        have fn := h1.now.free (at' + k)
        have hn1 : D'.bn ≠ D.b := by rw [← HB.out]; exact h1.now.ne_blk h1.blk (by decide)
        have h2 := h1.nowPut (at' + k) (chunk data k)
        have c2 : (w1.setCell ⟨D'.bn, at' + k, none⟩ (.string (chunk data k))).cell? ⟨D.b, 2, none⟩ = some D'.hv := by rw [← HB.out, h2.blk.cell]; rfl
        have H2 := Lib.hid h2
        have HU1 := Lib.hid hu1
        clear h1 h2 hu1
        have hlen : S'.held.length + 1 ≤ 1000000 := by have := HH.out; omega
        have hN := Lib.hid (news_one (w1.setCell ⟨D'.bn, at' + k, none⟩ (.string (chunk data k))) w1.heap.size (by simp [World.setCell]) (.int .i64 ((at' : Int) + k)) (.string (chunk data k)))
        have hT := Lib.hid (two_oneCell ((at' : Int) + k) (chunk data k))
        have hsz1 := Lib.hid (show (w1.setCell ⟨D'.bn, at' + k, none⟩ (.string (chunk data k))).heap.size = w1.heap.size by simp [World.setCell])
        have hDb : D.b < w1.heap.size := by rw [← HB.out, ← hsz1.out]; exact H2.out.blk.lt
        go_wp2_with (at_builtin; go_loud (refine wpList_append_lies _ rfl (.tmp 58) (.tmp 64) 73 rfl 0 77 i0 _ 2 24 Try.underlying73 hi hz0 hz1 hz2 rfl (by decide) D'.hv S'.held.length (heldCells S'.held) rfl (H2.out.held.alloc _) ⟨w1.heap.size, 0, none⟩ 1 1 [.int .i64 ((at' : Int) + k), .string (chunk data k)] rfl rfl hN.out hT.out (by omega) (by unfold maxLen; omega) (by omega) (by omega) (w1.heap.size + 1) (by rw [World.size_alloc, hsz1.out]) ?_); intro g cap w2 hown2 hgrow hat hlt2; have hb2 := H2.out.grownBlk hgrow; rw [HB.out] at hb2; have f2 := hb2.free 2; have k2 := (hb2.cell 2).trans (show _ = some D'.hv from rfl); have hown2' := Lib.hid hown2; have hgrow' := Lib.hid hgrow; have hat' := Lib.hid hat; clear hown2 hgrow hat hb2)
        obtain ⟨h3, hu3, hF3⟩ := H2.out.heldPut (at' + k) (chunk data k) _ (by simpa [DS.rop] using hown2'.out) hgrow'.out (fun q hq => by
          simp only [Value.ownBlock, Option.some.injEq] at hq
          subst hq
          rcases hat'.out with h | h
          · exact Or.inl h
          · right; rw [hsz1.out]; omega)
        rw [HB.out] at h3 hu3
        have H3 := Lib.hid h3
        have U3 : Upd D.foot w (w2.setCell ⟨D.b, 2, none⟩ (.slice (some ⟨g, 0, none⟩) (S'.held.length + 1) cap)) ∧ ∀ j, RH.foot { D' with b := D.b, hv := .slice (some ⟨g, 0, none⟩) (S'.held.length + 1) cap } j → D.foot j ∨ w.heap.size ≤ j := by
          have hin : ∀ j, j < w.heap.size → D'.foot j → D.foot j := fun j hj hf => (hF j hf).resolve_right (by omega)
          have u1 : Upd D.foot w w1 := hu.trans HU1.out (fun j _ e => Or.inl e)
          have u2 : Upd D.foot w (w1.setCell ⟨D'.bn, at' + k, none⟩ (.string (chunk data k))) := u1.setCell (p := ⟨D'.bn, at' + k, none⟩) (fun hj => hin _ hj (Or.inr (Or.inr (Or.inl rfl)))) _
          refine ⟨u2.trans hu3 hin, fun j hj => ?_⟩
          rcases hF3 j (by rw [HB.out]; exact hj) with h | h
          · exact hF j h
          · right
            have := u2.size
            omega
        have U3' := Lib.hid U3
        clear h3 hu3 hF3 U3 k2 f2 c1 c2 cn fn
        go_roundw
        case rel => exact ⟨k + 1, { D' with b := D.b, hv := .slice (some ⟨g, 0, none⟩) (S'.held.length + 1) cap }, S'.rput (at' + k) (chunk data k), by omega, by go_num, rfl, H3.out, HL.out, by have := HH.out; simp only [DS.rput, List.length_append, List.length_cons, List.length_nil]; omega, HWn.out, U3'.out.1, U3'.out.2⟩
        case measure => simp [intOf]; omega
      | false =>
        have K := one_no D' S' wr h hg
        rw [hb] at K
        have K := Lib.hid K
        have hw := HW.out
        rw [show m - k = (m - k - 1) + 1 from by omega] at hw
        rw [DS.rwr_no hg] at hw
        have HW := Lib.hid hw
        clear h hb hg hw
        go_wp2_with fail
        refine K.out.mono ?_
        rintro e w1 ⟨rfl, h1, hu1⟩
        have H1 := Lib.hid h1
        clear h1
        go_wp2_with fail
        go_ret
        rw [← HW.out]
        exact ⟨D', HB.out, rfl, H1.out, hu.trans hu1 (fun j _ e => Or.inl e), hF⟩
    · have : k = m := by omega
      have H' := Lib.hid h
      clear h hb
      subst this
      go_wp2
      go_ret
      have hw := HW.out
      rw [Nat.sub_self] at hw
      refine ⟨D', HB.out, ?_, ?_, hu, hF⟩
      · rw [← hw]; rfl
      · rw [← hw]; exact H'.out

end Go.Proofs.Ytojcoambodedbaa
