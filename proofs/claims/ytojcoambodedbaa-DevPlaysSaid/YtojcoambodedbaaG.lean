/- settle, Flush. -/
import Derived.Test.YtojcoambodedbaaF
set_option linter.unusedVariables false
set_option linter.unusedSimpArgs false
set_option linter.unnecessarySimpa false
namespace Go.Proofs.Ytojcoambodedbaa
open Go.RowKit

theorem heldCells_get (l : List (Nat × ByteArray)) : ∀ (k : Nat) (x : Nat × ByteArray), l[k]? = some x → (heldCells l)[k * 2]? = some (.int .i64 x.1) ∧ (heldCells l)[k * 2 + 1]? = some (.string x.2) := by
  induction l with
  | nil => intro k x h; simp at h
  | cons y l ih =>
    intro k x h
    cases k with
    | zero => simp at h; subst h; simp [heldCells]
    | succ k =>
      have := ih k x (by simpa using h)
      have e : heldCells (y :: l) = [.int .i64 y.1, .string y.2] ++ heldCells l := by simp [heldCells]
      rw [e, List.getElem?_append_right (by simp; omega), List.getElem?_append_right (by simp; omega)]
      simpa [show (k + 1) * 2 - 2 = k * 2 by omega, show (k + 1) * 2 + 1 - 2 = k * 2 + 1 by omega] using this

theorem DevAt.heldForm {w : World} {D : DH} {S : DS} (h : DevAt w D S) : (D.hv = .slice none 0 0 ∧ S.held = []) ∨ ∃ g cap, D.hv = .slice (some ⟨g, 0, none⟩) S.held.length cap := by
  rcases h.held.2 with ⟨hv, h0⟩ | ⟨g, cap, cur, hv, _⟩
  · exact Or.inl ⟨hv, List.eq_nil_of_length_eq_zero h0⟩
  · exact Or.inr ⟨g, cap, hv⟩

theorem DevAt.heldCell {w : World} {D : DH} {S : DS} (h : DevAt w D S) {g cap : Nat} (hv : D.hv = .slice (some ⟨g, 0, none⟩) S.held.length cap) (k : Nat) (x : Nat × ByteArray) (hx : S.held[k]? = some x) :
    w.cell? ⟨g, k * 2, none⟩ = some (.int .i64 x.1) ∧ w.cell? ⟨g, k * 2 + 1, none⟩ = some (.string x.2) := by
  have hc := h.held.cells (g := g) (by rw [hv]; rfl)
  obtain ⟨a, b⟩ := heldCells_get S.held k x hx
  have hadd : ∀ j, (⟨g, 0, none⟩ : Addr).add j = ⟨g, j, none⟩ := by intro j; unfold Addr.add; split <;> simp_all
  have ha := hc _ _ a
  have hb := hc _ _ b
  rw [hadd] at ha hb
  exact ⟨ha, hb⟩

def DS.settle1 (S : DS) (i : Nat) : DS :=
  if (S.now.getD i ByteArray.empty).toList.isEmpty then S else { S with safe := S.safe.set i (S.now.getD i ByteArray.empty), now := S.now.set i ByteArray.empty }
def DS.settles (S : DS) : List (Nat × ByteArray) → DS
  | [] => S
  | x :: l => (S.settle1 x.1).settles l
def DS.settle (S : DS) : DS := { S.settles S.held with held := [] }

theorem DS.settle1_len (S : DS) (i : Nat) : (S.settle1 i).safe.length = S.safe.length ∧ (S.settle1 i).held = S.held := by
  unfold DS.settle1
  split <;> simp

/-- A sector's text is laid into 'safe'. -/
theorem DevAt.safePut {w : World} {D : DH} {S : DS} (h : DevAt w D S) (i : Nat) (s : ByteArray) : DevAt (w.setCell ⟨D.bs, i, none⟩ (.string s)) D { S with safe := S.safe.set i s } := by
  have n1 : D.bs ≠ D.b := h.safe.ne h.blk (by decide)
  have hb : Blk (w.setCell ⟨D.bs, i, none⟩ (.string s)) D.bs (strs (S.safe.set i s)) 9 := by
    have := h.safe.set i (.string s)
    have e : (strs S.safe).setIfInBounds i (.string s) = strs (S.safe.set i s) := by simp [strs, List.map_set]
    rwa [e] at this
  have hu : Upd (fun k => k = D.bs) w (w.setCell ⟨D.bs, i, none⟩ (.string s)) := (Upd.refl _ _).at1 _ _
  have b0 := hu.blk h.blk (fun e => n1 e.symm)
  exact ⟨by simpa [DH.cells] using b0, hb, hu.blk h.now (fun e => h.ne e.symm), hu.owns h.held (fun k hk e => ownBlock_ne h.held h.safe (by decide) (e ▸ hk)), h.ne, by simpa using h.len, by simpa using h.small⟩

/-- Nothing is held any more. -/
theorem DevAt.heldNil {w : World} {D : DH} {S : DS} (h : DevAt w D S) : DevAt (w.setCell ⟨D.b, 2, none⟩ (.slice none 0 0)) { D with hv := .slice none 0 0 } { S with held := [] } := by
  have n1 : D.bs ≠ D.b := h.safe.ne h.blk (by decide)
  have n2 : D.bn ≠ D.b := h.now.ne h.blk (by decide)
  exact ⟨h.blk.set 2 _, h.safe.setOther n1 _, h.now.setOther n2 _, World.ownsRow_nil _ _ _ _, h.ne, h.len, h.small⟩

theorem settle_some (D : DH) (S : DS) (g cap : Nat) (w : World) (h : DevAt w D S) (hv : D.hv = .slice (some ⟨g, 0, none⟩) S.held.length cap) (hr : ∀ x ∈ S.held, x.1 < S.safe.length) (hm : S.held.length ≤ 1000000) :
    Calls Try.prog 36 #[.pointer (some ⟨D.b, 0, none⟩)] w (DPost D w (.tuple #[]) S.settle) := by
  have c2 : w.cell? ⟨D.b, 2, none⟩ = some (.slice (some ⟨g, 0, none⟩) S.held.length cap) := by rw [← hv, h.blk.cell]; rfl
  have hs := h.small
  have H := Lib.hid h
  have HV := Lib.hid hv
  have hDb := h.blk.lt
  clear h hv
  go_enter Try.func36, Try.ntmps36
  go_wp2_with fail
  go_loopw [9] (fun i wr => ∃ (k : Nat) (S' : DS), k ≤ S.held.length ∧ i = .int .i64 k ∧ DevAt wr D S' ∧ S'.held = S.held ∧ S'.safe.length = S.safe.length ∧ S'.settles (S.held.drop k) = S.settles S.held ∧ Upd D.foot w wr) (fun i _ => S.held.length - (intOf i).toNat)
  case atStart => exact ⟨0, S, by omega, rfl, H.out, rfl, rfl, rfl, Upd.refl _ _⟩
  case round =>
    obtain ⟨k, S', hk, rfl, h, hh, hl, hst, hu⟩ := hrel
    have HH := Lib.hid hh
    have HL := Lib.hid hl
    by_cases hlt : k < S.held.length
    · obtain ⟨x, hx⟩ : ∃ x, S.held[k]? = some x := ⟨_, List.getElem?_eq_getElem hlt⟩
      have hxr := hr x (List.mem_of_getElem? hx)
      obtain ⟨y0, y1⟩ := h.heldCell (by rw [HV.out, hh]) k x (by rw [hh]; exact hx)
      have hd : S.held.drop k = x :: S.held.drop (k + 1) := by
        rw [List.drop_eq_getElem_cons hlt]
        congr 1
        have := List.getElem?_eq_getElem hlt
        rw [this] at hx
        exact Option.some.inj hx
      rw [hd, DS.settles] at hst
      have HST := Lib.hid hst
      have c0 : wr.cell? ⟨D.b, 0, none⟩ = some (.slice (some ⟨D.bs, 0, none⟩) S.safe.length S.safe.length) := by rw [h.blk.cell, ← hl]; rfl
      have c1 : wr.cell? ⟨D.b, 1, none⟩ = some (.slice (some ⟨D.bn, 0, none⟩) S.safe.length S.safe.length) := by rw [h.blk.cell, ← hl]; rfl
      have cn := cell_strs h.now x.1 (by rw [h.len, hl]; exact hxr)
      have cs := cell_strs h.safe x.1 (by rw [hl]; exact hxr)
      have fn := h.now.free x.1
      have fs := h.safe.free x.1
      have l1 := h.blk.lt
      have l2 := h.now.lt
      have l3 := h.safe.lt
      have nsn := h.ne
      have nsb : D.bs ≠ D.b := h.safe.ne h.blk (by decide)
      have H' := Lib.hid h
      have hem : (S'.now.getD x.1 ByteArray.empty).toList.isEmpty = true ∨ (S'.now.getD x.1 ByteArray.empty).toList.isEmpty = false := by cases (S'.now.getD x.1 ByteArray.empty).toList.isEmpty <;> simp
      obtain ⟨s, hs'⟩ : ∃ s, S'.now.getD x.1 ByteArray.empty = s := ⟨_, rfl⟩
      obtain ⟨t, ht⟩ : ∃ t, S'.safe.getD x.1 ByteArray.empty = t := ⟨_, rfl⟩
      rw [hs'] at hem cn
      rw [ht] at cs
      have HS := Lib.hid hs'
      clear hst hd hh hl hx h c2 hs' ht
      rcases hem with hem | hem
      · have hb := empty_bool hem
        have hfin : S'.settle1 x.1 = S' := by unfold DS.settle1; rw [HS.out, hem]; rfl
        rw [hfin] at HST
        have HF := Lib.hid hfin
        clear hem hfin
        go_wp2_with fail
        go_region
        all_goals go_wp2
        all_goals go_roundw
        case rel => exact ⟨k + 1, S', by omega, by go_num, H'.out.keep (Upd.alloc (Upd.refl (fun _ => False) _) _).drew (fun _ _ => id), HH.out, HL.out, HST.out, (hu.alloc _).drew⟩
        case measure => simp [intOf]; omega
      · have hb := nonempty_bool hem
        have hfin : S'.settle1 x.1 = { S' with safe := S'.safe.set x.1 s, now := S'.now.set x.1 ByteArray.empty } := by unfold DS.settle1; rw [HS.out, hem]; rfl
        have HF := Lib.hid hfin
        clear hem hfin
        go_wp2_with fail
        go_region
        all_goals go_wp2_with fail
        all_goals go_region
        all_goals go_wp2_with fail
        all_goals go_region
        all_goals go_wp2
        all_goals go_roundw
        case rel => exact ⟨k + 1, S'.settle1 x.1, by omega, by go_num, by rw [HF.out]; exact (((H'.out.safePut x.1 s).nowPut x.1 ByteArray.empty).keep (Upd.alloc (Upd.refl (fun _ => False) _) _).drew.drew.drew (fun _ _ => id)), by rw [(DS.settle1_len S' x.1).2]; exact HH.out, by rw [(DS.settle1_len S' x.1).1]; exact HL.out, HST.out, ((((hu.setCell (p := ⟨D.bs, x.1, none⟩) (fun _ => Or.inr (Or.inl rfl)) _).setCell (p := ⟨D.bn, x.1, none⟩) (fun _ => Or.inr (Or.inr (Or.inl rfl))) _).alloc _).drew.drew.drew)⟩
        case measure => simp [intOf]; omega
    · have hk' : k = S.held.length := by omega
      rw [hk', List.drop_length] at hst
      have HST := Lib.hid (show S' = S.settles S.held from hst)
      have b1 := h.blk
      have f2 := h.blk.free 2
      have c2' : wr.cell? ⟨D.b, 2, none⟩ = some (.slice (some ⟨g, 0, none⟩) S.held.length cap) := by rw [h.blk.cell, ← HV.out]; rfl
      have HE := Lib.hid (h.heldNil)
      clear hst hh hl h b1
      go_wp2
      go_end0
      have hS := HST.out
      refine ⟨{ D with hv := .slice none 0 0 }, rfl, rfl, ?_, hu.setCell (p := ⟨D.b, 2, none⟩) (fun _ => Or.inl rfl) _, ?_⟩
      · unfold DS.settle
        rw [← hS]
        exact HE.out
      · rintro j (hj | hj | hj | hj)
        · exact Or.inl (Or.inl hj)
        · exact Or.inl (Or.inr (Or.inl hj))
        · exact Or.inl (Or.inr (Or.inr (Or.inl hj)))
        · simp [Value.ownBlock] at hj

theorem settle_none (D : DH) (S : DS) (w : World) (h : DevAt w D S) (hv : D.hv = .slice none 0 0) (hn : S.held = []) :
    Calls Try.prog 36 #[.pointer (some ⟨D.b, 0, none⟩)] w (DPost D w (.tuple #[]) S.settle) := by
  have c2 : w.cell? ⟨D.b, 2, none⟩ = some (.slice none 0 0) := by rw [← hv, h.blk.cell]; rfl
  have f2 := h.blk.free 2
  have HE := Lib.hid (And.intro h.heldNil (And.intro hv hn))
  clear h hv hn
  go_enter Try.func36, Try.ntmps36
  go_wp2_with fail
  refine wp_loop_rounds 1 ?_
  rw [rounds_succ]
  go_wp2
  go_end0
  obtain ⟨h1, h2, h3⟩ := HE.out
  refine ⟨{ D with hv := .slice none 0 0 }, rfl, rfl, ?_, (Upd.refl _ _).setCell (p := ⟨D.b, 2, none⟩) (fun _ => Or.inl rfl) _, ?_⟩
  · unfold DS.settle
    rw [h3]
    exact h1
  · rintro j (hj | hj | hj | hj)
    · exact Or.inl (Or.inl hj)
    · exact Or.inl (Or.inr (Or.inl hj))
    · exact Or.inl (Or.inr (Or.inr (Or.inl hj)))
    · simp [Value.ownBlock] at hj

theorem settle_any (D : DH) (S : DS) (w : World) (h : DevAt w D S) (hr : ∀ x ∈ S.held, x.1 < S.safe.length) (hm : S.held.length ≤ 1000000) :
    Calls Try.prog 36 #[.pointer (some ⟨D.b, 0, none⟩)] w (DPost D w (.tuple #[]) S.settle) := by
  rcases h.heldForm with ⟨hv, hn⟩ | ⟨g, cap, hv⟩
  · exact settle_none D S w h hv hn
  · exact settle_some D S g cap w h hv hr hm

/-- Two steps, one behind the other. -/
theorem DPost.after {D D1 : DH} {w w1 w2 : World} {v : Value} {S : DS} {e : Ending} (hb : D1.b = D.b) (hu : Upd D.foot w w1) (hF : ∀ k, D1.foot k → D.foot k ∨ w.heap.size ≤ k) (h : DPost D1 w1 v S e w2) : DPost D w v S e w2 := by
  obtain ⟨D2, hb2, he, hd, hu2, hF2⟩ := h
  refine ⟨D2, hb2.trans hb, he, hd, hu.trans hu2 (fun j hj hf => (hF j hf).resolve_right (by omega)), fun k hk => ?_⟩
  rcases hF2 k hk with h | h
  · exact hF k h
  · right; have := hu.size; omega

def DS.flush (S : DS) : DS := if S.goes then DS.settle { S with left := wrap64 (S.left - 1), ops := wrap64 (S.ops + 1) } else { S with down := true }

theorem flush_any (D : DH) (S : DS) (w : World) (h : DevAt w D S) (hr : ∀ x ∈ S.held, x.1 < S.safe.length) (hm : S.held.length ≤ 1000000) :
    Calls Try.prog 17 #[.pointer (some ⟨D.b, 0, none⟩)] w (DPost D w (.int .i64 (if S.goes then 0 else 41)) S.flush) := by
  unfold DS.flush
  cases hg : S.goes with
  | false =>
    have K := Lib.hid (operation_no D S w h hg)
    clear h hg
    go_enter Try.func17, Try.ntmps17
    go_wp2_with fail
    refine K.out.mono ?_
    rintro e w1 ⟨rfl, h1, hu1⟩
    have H1 := Lib.hid h1
    clear h1
    go_wp2_with fail
    go_ret
    exact ⟨D, rfl, rfl, H1.out, hu1.mono (fun k _ hk => Or.inl hk), fun k hk => Or.inl hk⟩
  | true =>
    have K := Lib.hid (operation_yes D S w h hg)
    clear h hg
    go_enter Try.func17, Try.ntmps17
    go_wp2_with fail
    refine K.out.mono ?_
    rintro e w1 ⟨rfl, h1, hu1⟩
    have K2 := Lib.hid (settle_any D _ w1 h1 hr hm)
    clear h1
    go_wp2_with fail
    refine K2.out.mono ?_
    rintro e w2 hp
    have HP := Lib.hid hp
    have he : e = .returned (.tuple #[]) := hp.choose_spec.2.1
    clear hp
    subst he
    go_wp2_with fail
    go_ret
    obtain ⟨D2, hb2, _, hd, hu2, hF2⟩ := HP.out
    exact DPost.after (D1 := D) rfl (hu1.mono (fun k _ hk => Or.inl hk)) (fun k hk => Or.inl hk) ⟨D2, hb2, rfl, hd, hu2, hF2⟩

theorem flush_nil (w : World) : Calls Try.prog 17 #[.pointer none] w fun e w' => e = .returned (.int .i64 1) ∧ w = w' := by
  go_enter Try.func17, Try.ntmps17
  go_wp2
  go_ret
  exact ⟨rfl, rfl⟩

end Go.Proofs.Ytojcoambodedbaa
