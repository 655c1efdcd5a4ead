/- Write. -/
import Derived.Test.YtojcoambodedbaaD
import Derived.Deep.AppendLies
import Derived.Deep.RegionLaw
set_option linter.unusedVariables false
set_option linter.unusedSimpArgs false
set_option linter.unnecessarySimpa false
namespace Go.Proofs.Ytojcoambodedbaa
open Go.RowKit

theorem Try.info63 : (Try.prog.info? 63).map (fun i => (i.zero, i.size, i.bytes)) = some (some (.agg #[.int .i64 0, .string ⟨#[]⟩]), 2, 24) := by kernel_rfl

def chunk (data : ByteArray) (k : Nat) : ByteArray := data.extract (k * 512) ((k + 1) * 512)
/-- One sector's write that is carried out. -/
def DS.put1 (S : DS) (i : Nat) (s : ByteArray) : DS :=
  { S with left := wrap64 (S.left - 1), ops := wrap64 (S.ops + 1), held := S.held ++ [(i, s)], now := S.now.set i s }
/-- The rest of a write, from sector k on, f sectors. -/
def DS.wr (at' : Nat) (data : ByteArray) : Nat → Nat → DS → DS × Int
  | 0, _, S => (S, 0)
  | f + 1, k, S => if S.goes then DS.wr at' data f (k + 1) (S.put1 (at' + k) (chunk data k)) else ({ S with down := true }, 41)

theorem DS.wr_yes {at' : Nat} {data : ByteArray} {f k : Nat} {S : DS} (h : S.goes = true) : DS.wr at' data (f + 1) k S = DS.wr at' data f (k + 1) (S.put1 (at' + k) (chunk data k)) := by
  rw [DS.wr, if_pos h]
theorem DS.wr_no {at' : Nat} {data : ByteArray} {f k : Nat} {S : DS} (h : S.goes = false) : DS.wr at' data (f + 1) k S = ({ S with down := true }, 41) := by
  rw [DS.wr, if_neg (by rw [h]; simp)]

/-- What a call that turns the device leaves. -/
def DPost (D : DH) (w : World) (v : Value) (S : DS) (e : Ending) (w' : World) : Prop :=
  ∃ D' : DH, D'.b = D.b ∧ e = .returned v ∧ DevAt w' D' S ∧ Upd D.foot w w' ∧ ∀ k, D'.foot k → D.foot k ∨ w.heap.size ≤ k

theorem heldCells_snoc (l : List (Nat × ByteArray)) (i : Nat) (s : ByteArray) : heldCells (l ++ [(i, s)]) = heldCells l ++ [.int .i64 i, .string s] := by
  simp [heldCells]

/-- A sector's text is laid into 'now'. -/
theorem DevAt.nowPut {w : World} {D : DH} {S : DS} (h : DevAt w D S) (i : Nat) (s : ByteArray) : DevAt (w.setCell ⟨D.bn, i, none⟩ (.string s)) D { S with now := S.now.set i s } := by
  have n1 : D.bn ≠ D.b := h.now.ne h.blk (by decide)
  have hb : Blk (w.setCell ⟨D.bn, i, none⟩ (.string s)) D.bn (strs (S.now.set i s)) 9 := by
    have := h.now.set i (.string s)
    have e : (strs S.now).setIfInBounds i (.string s) = strs (S.now.set i s) := by simp [strs, List.map_set]
    rwa [e] at this
  have hu : Upd (fun k => k = D.bn) w (w.setCell ⟨D.bn, i, none⟩ (.string s)) := (Upd.refl _ _).at1 _ _
  exact ⟨hu.blk h.blk (fun e => n1 e.symm), hu.blk h.safe h.ne, hb, hu.owns h.held (fun k hk e => ownBlock_ne h.held h.now (by decide) (e ▸ hk)), h.ne, by simpa using h.len, h.small⟩

theorem undrew {w w' : World} {r : Option Nat} (h : w.drew.grownBy w' r) : w.grownBy w' r := ⟨h.os, h.tape, h.output, h.size, h.block⟩
theorem DevAt.grownBlk {w1 w2 : World} {D : DH} {S : DS} (h : DevAt w1 D S) {X Y : Obj} (hg : ((w1.alloc X).alloc Y).grownBy w2 D.hv.ownBlock) : Blk w2 D.b (D.cells S) 61 :=
  Upd.blk (((((Upd.refl (fun k => D.hv.ownBlock = some k) _).alloc X).alloc Y)).grown hg (fun k hk _ => hk)) h.blk (ownBlock_ne h.held h.blk (by decide))

/-- A write is laid behind what is held. -/
theorem DevAt.heldPut {w w2 : World} {D : DH} {S : DS} (h : DevAt w D S) (i : Nat) (s : ByteArray) (g cap : Nat) {X Y : Obj}
    (hown : w2.ownsRow 0 63 2 (.slice (some ⟨g, 0, none⟩) (S.held.length + 1) cap) (S.held.length + 1) (heldCells S.held ++ [.int .i64 i, .string s])) (hg : ((w.alloc X).alloc Y).grownBy w2 D.hv.ownBlock) (hat : D.hv.ownBlock = some g ∨ g = w.heap.size + 1 + 1) :
    DevAt (w2.setCell ⟨D.b, 2, none⟩ (.slice (some ⟨g, 0, none⟩) (S.held.length + 1) cap)) { D with hv := .slice (some ⟨g, 0, none⟩) (S.held.length + 1) cap } { S with held := S.held ++ [(i, s)] } ∧
      Upd D.foot w (w2.setCell ⟨D.b, 2, none⟩ (.slice (some ⟨g, 0, none⟩) (S.held.length + 1) cap)) ∧ (∀ k, DH.foot { D with hv := .slice (some ⟨g, 0, none⟩) (S.held.length + 1) cap } k → D.foot k ∨ w.heap.size ≤ k) ∧ g ≠ D.b ∧ g ≠ D.bn := by
  have u2 : Upd (fun k => D.hv.ownBlock = some k) w w2 := ((((Upd.refl _ _).alloc X).alloc Y)).grown hg (fun k hk _ => hk)
  have n0 : g ≠ D.b := by
    rcases hat with hat | hat
    · intro e; exact ownBlock_ne h.held h.blk (by decide) (e ▸ hat)
    · have := h.blk.lt; omega
  have n1 : g ≠ D.bs := by
    rcases hat with hat | hat
    · intro e; exact ownBlock_ne h.held h.safe (by decide) (e ▸ hat)
    · have := h.safe.lt; omega
  have n2 : g ≠ D.bn := by
    rcases hat with hat | hat
    · intro e; exact ownBlock_ne h.held h.now (by decide) (e ▸ hat)
    · have := h.now.lt; omega
  have b0 : Blk w2 D.b (D.cells S) 61 := u2.blk h.blk (ownBlock_ne h.held h.blk (by decide))
  have b1 : Blk w2 D.bs (strs S.safe) 9 := u2.blk h.safe (ownBlock_ne h.held h.safe (by decide))
  have b2 : Blk w2 D.bn (strs S.now) 9 := u2.blk h.now (ownBlock_ne h.held h.now (by decide))
  have m1 : D.bs ≠ D.b := h.safe.ne h.blk (by decide)
  have m2 : D.bn ≠ D.b := h.now.ne h.blk (by decide)
  refine ⟨⟨b0.set 2 _, b1.setOther m1 _, b2.setOther m2 _, ?_, h.ne, h.len, h.small⟩, ?_, ?_, n0, n2⟩
  · refine ownsRow_setCell_other ?_ (by simp [Value.ownBlock, n0]) _
    simpa [heldCells_snoc] using hown
  · have u3 : Upd D.foot w w2 := u2.mono fun k _ hk => Or.inr (Or.inr (Or.inr hk))
    exact u3.setCell (p := ⟨D.b, 2, none⟩) (fun _ => Or.inl rfl) _
  · rintro k (hk | hk | hk | hk)
    · exact Or.inl (Or.inl hk)
    · exact Or.inl (Or.inr (Or.inl hk))
    · exact Or.inl (Or.inr (Or.inr (Or.inl hk)))
    · have hk : g = k := by simpa [Value.ownBlock] using hk
      subst hk
      rcases hat with hat | hat
      · exact Or.inl (Or.inr (Or.inr (Or.inr hat)))
      · right; omega

/-- The element's own box is as it was. -/
theorem DevAt.boxKept {w w2 : World} {D : DH} {S : DS} (h : DevAt w D S) {cs : Array Value} {T : TypeId} {Y : Obj} (hg : ((w.alloc (.cells cs T)).alloc Y).grownBy w2 D.hv.ownBlock) (v : Value) : Blk (w2.setCell ⟨D.b, 2, none⟩ v) w.heap.size cs T := by
  have b0 : Blk ((w.alloc (.cells cs T)).alloc Y) w.heap.size cs T := (Blk.new w cs T).alloc Y
  have b1 : Blk w2 w.heap.size cs T := Upd.blk ((Upd.refl (fun k => D.hv.ownBlock = some k) _).grown hg (fun k hk _ => hk)) b0 (fun e => by have := (h.held.lt _ e).2; omega)
  exact b1.setOther (by have := h.blk.lt; show w.heap.size ≠ D.b; omega) v

theorem DevAt.drew {w : World} {D : DH} {S : DS} (h : DevAt w D S) : DevAt w.drew D S := ⟨h.blk, h.safe, h.now, h.held, h.ne, h.len, h.small⟩

theorem write_frame {w wr w1 w3 : World} {D D' : DH} {hv : Value} (hb : D'.b = D.b) (hu : Upd D.foot w wr) (hF : ∀ j, D'.foot j → D.foot j ∨ w.heap.size ≤ j) (hu1 : Upd (fun k => k = D.b) wr w1) (hu3 : Upd D'.foot w1 w3)
    (hF3 : ∀ k, DH.foot ⟨D'.b, D'.bs, D'.bn, hv⟩ k → D'.foot k ∨ w1.heap.size ≤ k) (i : Nat) (v : Value) :
    Upd D.foot w (w3.setCell ⟨D'.bn, i, none⟩ v).drew ∧ ∀ j, DH.foot ⟨D.b, D'.bs, D'.bn, hv⟩ j → D.foot j ∨ w.heap.size ≤ j := by
  have u1 : Upd D.foot w w1 := hu.trans hu1 (fun j _ e => Or.inl e)
  have hin : ∀ j, j < w.heap.size → D'.foot j → D.foot j := fun j hj hf => (hF j hf).resolve_right (by omega)
  have u3 : Upd D.foot w w3 := u1.trans hu3 hin
  refine ⟨(u3.setCell (p := ⟨D'.bn, i, none⟩) (fun hj => hin _ hj (Or.inr (Or.inr (Or.inl rfl)))) v).drew, fun j hj => ?_⟩
  rcases hF3 j (by rw [hb]; exact hj) with h | h
  · exact hF j h
  · right; have := u1.size; omega

theorem chunk_run (data : ByteArray) (k : Nat) (h : (k + 1) * 512 ≤ data.size) (w : World) :
    (Instr.slice 9 (.string data) (some (.int .i64 ((k : Int) * 512))) (some (.int .i64 (((k : Int) + 1) * 512))) none).run Try.prog w = .ok (.string (chunk data k)) w := by
  have := run_slice_string (P := Try.prog) w 9 data .i64 .i64 ((k : Int) * 512) (((k : Int) + 1) * 512) Try.underlying9 (by omega) (by omega) (by omega)
  rw [this]
  unfold chunk
  rw [show ((k : Int) * 512).toNat = k * 512 by omega, show (((k : Int) + 1) * 512).toNat = (k + 1) * 512 by omega]

theorem news_two (w1 : World) (X : Obj) (A B : Value) : ∀ j u, [A, B][j]? = some u → ((w1.alloc X).alloc (.cells #[A, B] 63)).cell? ((⟨w1.heap.size + 1, 0, none⟩ : Addr).add j) = some u := by
  have h := heap_alloc_new (w1.alloc X) (.cells #[A, B] 63)
  rw [World.size_alloc] at h
  exact World.news_of_block h
theorem two_oneCell (i : Int) (s : ByteArray) : ∀ u ∈ [Value.int .i64 i, Value.string s], u.oneCell' = true := by
  intro u hu
  simp at hu
  rcases hu with rfl | rfl <;> rfl

set_option maxHeartbeats 1000000 in
theorem write_ok (D : DH) (S : DS) (at' m : Nat) (data : ByteArray) (w : World) (h : DevAt w D S) (hd : data.size = m * 512) (ha : at' + m ≤ S.safe.length) (hdn : S.down = false) (hm : S.held.length + m ≤ 1000000) :
    Calls Try.prog 12 #[.pointer (some ⟨D.b, 0, none⟩), .int .i64 at', .string data] w (DPost D w (.int .i64 (DS.wr at' data m 0 S).2) (DS.wr at' data m 0 S).1) := by
  obtain ⟨R, hR⟩ : ∃ R, DS.wr at' data m 0 S = R := ⟨_, rfl⟩
  rw [hR]
  have HR := Lib.hid hR
  clear hR
  obtain ⟨i0, hi, hz0, hz1, hz2⟩ := info_parts Try.info63
  have c0 : w.cell? ⟨D.b, 0, none⟩ = some (.slice (some ⟨D.bs, 0, none⟩) S.safe.length S.safe.length) := by rw [h.blk.cell]; rfl
  have c6 : w.cell? ⟨D.b, 6, none⟩ = some (.bool false) := by rw [h.blk.cell, ← hdn]; rfl
  have hs := h.small
  have e1 : ((data.size : Int) % 512 != 0) = false := by rw [hd]; simp
  have e2 : (data.size : Int) / 512 = m := by rw [hd]; omega
  have e3 : ¬ (at' : Int) < 0 := by omega
  have e4 : ¬ (S.safe.length : Int) < at' := by omega
  have e5 : ¬ (S.safe.length : Int) - at' < m := by omega
  have h5 : at' + m ≤ 8192 := by omega
  have H := Lib.hid h
  have HD := Lib.hid hd
  have HN := Lib.hid hdn
  clear h hd hdn
  go_enter Try.func12, Try.ntmps12
  go_wp2_with fail
  go_loopw [51] (fun i wr => ∃ (k : Nat) (D' : DH) (S' : DS), k ≤ m ∧ i = .int .i64 k ∧ D'.b = D.b ∧ DevAt wr D' S' ∧ S'.safe.length = S.safe.length ∧ S'.held.length = S.held.length + k ∧ DS.wr at' data (m - k) k S' = R ∧ Upd D.foot w wr ∧ (∀ j, D'.foot j → D.foot j ∨ w.heap.size ≤ j)) (fun i _ => m - (intOf i).toNat)
  case atStart => exact ⟨0, D, S, by omega, rfl, rfl, H.out, rfl, rfl, HR.out, Upd.refl _ _, fun j hj => Or.inl hj⟩
  case round =>
    obtain ⟨k, D', S', hk, rfl, hb, h, hl, hh, hwr, hu, hF⟩ := hrel
    have HB := Lib.hid hb
    have HL := Lib.hid hl
    have HH := Lib.hid hh
    have HW := Lib.hid hwr
    clear hl hh hwr c0 c6
    by_cases hlt : k < m
    · cases hg : S'.goes with
      | true =>
        have K := operation_yes D' S' wr h hg
        rw [hb] at K
        have K := Lib.hid K
        have hw := HW.out
        rw [show m - k = (m - (k + 1)) + 1 from by omega, DS.wr_yes hg] at hw
        have HWn := Lib.hid hw
        clear hg hb h hw
        have hsl := chunk_run data k (by have := HD.out; have := Nat.mul_le_mul_right 512 (show k + 1 ≤ m by omega); omega)
        go_wp2_with fail
        refine K.out.mono ?_
        rintro e w1 ⟨rfl, h1, hu1⟩
        have c2 : w1.cell? ⟨D.b, 2, none⟩ = some D'.hv := by rw [← HB.out, h1.blk.cell]; rfl
        have hown := Lib.hid h1.held
        have hDb : D.b < w1.heap.size := by rw [← HB.out]; exact h1.blk.lt
        have H1 := Lib.hid h1
        clear h1
        go_wp2_with fail
        have hlen : S'.held.length + 1 ≤ 1000000 := by have := HH.out; omega
        have hN := news_two w1 (.cells #[.int .i64 ((at' : Int) + k), .string (chunk data k)] 63) (.int .i64 ((at' : Int) + k)) (.string (chunk data k))
        have hT := two_oneCell ((at' : Int) + k) (chunk data k)
        go_region_law (refine step_append_lies _ rfl (.tmp 72) (.tmp 74) 54 rfl 0 63 i0 _ 2 24 Try.underlying54 hi hz0 hz1 hz2 rfl (by decide) D'.hv S'.held.length (heldCells S'.held) (by rfl) (by exact ((hown.out.alloc _).alloc _)) ⟨w1.heap.size + 1, 0, none⟩ 1 1 [.int .i64 ((at' : Int) + k), .string (chunk data k)] (by rfl) rfl (by exact hN) hT (by omega) (by unfold maxLen; omega) (by omega) (by omega) _ rfl ?_; intro g cap w2 hown2 hgrow hat hlt2; have hb2 := H1.out.grownBlk (undrew hgrow); rw [HB.out] at hb2; have f2 := hb2.free 2; have k2 := (hb2.cell 2).trans (show _ = some D'.hv from rfl))
        all_goals
          go_wp2_with fail
          obtain ⟨h3, hu3, hF3, hgb, hgn⟩ := H1.out.heldPut (at' + k) (chunk data k) g cap (by simpa using hown2) (undrew hgrow) (by simpa using hat)
          have hx := H1.out.boxKept (undrew hgrow) (.slice (some ⟨g, 0, none⟩) (S'.held.length + 1) cap)
          rw [HB.out] at h3 hu3 hx
          obtain ⟨w3, hw3⟩ : ∃ w3, w3 = w2.setCell ⟨D.b, 2, none⟩ (.slice (some ⟨g, 0, none⟩) (S'.held.length + 1) cap) := ⟨_, rfl⟩
          dsimp only at h3 hu3 hx hF3
          rw [← hw3]
          rw [← hw3] at h3 hu3 hx
          have c1 : w3.cell? ⟨D.b, 1, none⟩ = some (.slice (some ⟨D'.bn, 0, none⟩) S'.safe.length S'.safe.length) := by rw [h3.blk.cell]; rfl
          have x0 : w3.cell? ⟨w1.heap.size, 0, none⟩ = some (.int .i64 ((at' : Int) + k)) := by rw [hx.cell]; rfl
          have x1 : w3.cell? ⟨w1.heap.size, 1, none⟩ = some (.string (chunk data k)) := by rw [hx.cell]; rfl
          have hlt' : at' + k < S'.safe.length := by have := HL.out; omega
          have cn := cell_strs h3.now (at' + k) (by have := h3.len; dsimp only at this ⊢; omega)
          have fn := h3.now.free (at' + k)
          dsimp only at cn fn
          have H4 := Lib.hid (h3.nowPut (at' + k) (chunk data k)).drew
          have H5 := Lib.hid (write_frame HB.out hu hF hu1 hu3 hF3 (at' + k) (.string (chunk data k)))
          clear hw3 hgrow hown2 hat k2 f2 hb2 hN hT h3 hx hu hF hu1 hu3 hF3 hown K hsl c2
          go_wp2_with fail
          go_region
          all_goals go_wp2
          all_goals go_roundw
          case rel => exact ⟨k + 1, ⟨D.b, D'.bs, D'.bn, .slice (some ⟨g, 0, none⟩) (S'.held.length + 1) cap⟩, S'.put1 (at' + k) (chunk data k), by omega, by go_num, rfl, H4.out, HL.out, by have := HH.out; simp only [DS.put1, List.length_append, List.length_cons, List.length_nil]; omega, HWn.out, H5.out.1, H5.out.2⟩
          case measure => simp [intOf]; omega
      | false =>
        have K := operation_no D' S' wr h hg
        rw [hb] at K
        have K := Lib.hid K
        have hw := HW.out
        rw [show m - k = (m - k - 1) + 1 from by omega] at hw
        rw [DS.wr_no hg] at hw
        have HW := Lib.hid hw
        clear h hb hg hw
        go_wp2_with fail
        refine K.out.mono ?_
        rintro e w1 ⟨rfl, h1, hu1⟩
        have H1 := Lib.hid h1
        clear h1
        go_wp2_with fail
        go_ret
        rw [← HW.out]
        exact ⟨D', HB.out, rfl, H1.out, hu.trans hu1 (fun j _ e => Or.inl e), hF⟩
    · have : k = m := by omega
      have H' := Lib.hid h
      clear h hb
      subst this
      go_wp2
      go_ret
      have hw := HW.out
      rw [Nat.sub_self] at hw
      refine ⟨D', HB.out, ?_, ?_, hu, hF⟩
      · rw [← hw]; rfl
      · rw [← hw]; exact H'.out

end Go.Proofs.Ytojcoambodedbaa
