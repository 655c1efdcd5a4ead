/- Crash. -/
import Derived.Test.YtojcoambodedbaaH
import Derived.Deep.RegionHeld3
import Derived.Deep.DeepCutAuto
set_option linter.unusedVariables false
set_option linter.unusedSimpArgs false
set_option linter.unnecessarySimpa false
namespace Go.Proofs.Ytojcoambodedbaa
open Go.RowKit

/-- Crash's last two stores. -/
theorem crash_end {D D1 : DH} {w w1 : World} {S2 : DS} (hb : D1.b = D.b) (h1 : DevAt w1 D1 S2) (hu : Upd D.foot w w1) (hF : ∀ k, D1.foot k → D.foot k ∨ w.heap.size ≤ k) :
    DPost D w (.tuple #[]) { S2 with down := false, armed := false } (.returned (.tuple #[])) ((w1.setCell ⟨D.b, 6, none⟩ (.bool false)).setCell ⟨D.b, 4, none⟩ (.bool false)) := by
  have hb2 := (h1.blk.set 6 (.bool false)).set 4 (.bool false)
  have hu2 : Upd (fun k => k = D1.b) w1 ((w1.setCell ⟨D1.b, 6, none⟩ (.bool false)).setCell ⟨D1.b, 4, none⟩ (.bool false)) := ((Upd.refl _ _).at1 _ _).at1 _ _
  have H := h1.restruct S2.ops S2.left false false hb2 hu2
  rw [hb] at H hu2
  exact ⟨D1, hb, rfl, H, hu.trans hu2 (fun j _ hj => Or.inl hj), hF⟩

theorem crash_none (D : DH) (S : DS) (ks : List Int) (kv : Value) (w : World) (h : DevAt w D S) (hv : D.hv = .slice none 0 0) (hn : S.held = []) :
    Calls Try.prog 15 #[.pointer (some ⟨D.b, 0, none⟩), kv] w (DPost D w (.tuple #[]) (S.crash ks)) := by
  have c2 : w.cell? ⟨D.b, 2, none⟩ = some (.slice none 0 0) := by rw [← hv, h.blk.cell]; rfl
  have K := Lib.hid (settle_none D S w h hv hn)
  have hS : S.crash ks = { S.settle with down := false, armed := false } := by
    unfold DS.crash DS.torn
    rw [hn]; rfl
  rw [hS]
  clear h hv hn hS
  go_enter Try.func15, Try.ntmps15
  go_wp2_with fail
  refine wp_loop_rounds 1 ?_
  rw [rounds_succ]
  go_wp2_with fail
  refine wp_loop_rounds 1 ?_
  rw [rounds_succ]
  go_wp2_with fail
  refine K.out.mono ?_
  rintro e w1 ⟨D1, hb1, rfl, h1, hu1, hF1⟩
  have f4 := h1.blk.free 4
  have f6 := h1.blk.free 6
  have q4 : w1.cell? ⟨D1.b, 4, none⟩ = some (.bool S.settle.armed) := by rw [h1.blk.cell]; rfl
  have q6 : w1.cell? ⟨D1.b, 6, none⟩ = some (.bool S.settle.down) := by rw [h1.blk.cell]; rfl
  have H := Lib.hid (crash_end hb1 h1 hu1 hF1)
  rw [hb1] at f4 f6 q4 q6
  clear hb1 h1 hu1 hF1 c2
  go_wp2_with fail
  go_end0
  exact H.out

theorem crash_keep {W0 W1 : World} {D : DH} {S' : DS} {n B : Nat} {x : Nat × ByteArray} (hX : DevAt W0 D S') (bX : Blk W0 B #[.int .i64 x.1, .string x.2] 63) (hl : S'.safe.length = n) (hx : x.1 < n) (u : Upd (fun _ => False) W0.drew W1) :
    (W1.cell? ⟨D.b, 1, none⟩ = some (.slice (some ⟨D.bn, 0, none⟩) n n) ∧ W1.cell? ⟨B, 0, none⟩ = some (.int .i64 x.1) ∧ W1.cell? ⟨B, 1, none⟩ = some (.string x.2)) ∧ W1.cell? ⟨D.bn, x.1, none⟩ = some (.string (S'.now.getD x.1 ByteArray.empty)) ∧ W1.frozen? ⟨D.bn, x.1, none⟩ = false ∧ DevAt W1 D S' := by
  have b6 := u.blk (show Blk W0.drew B _ 63 from bX) (fun h => h)
  have d4 := hX.drew.keep u (fun _ _ h => h)
  exact ⟨⟨by rw [d4.blk.cell, ← hl]; rfl, by rw [b6.cell]; rfl, by rw [b6.cell]; rfl⟩, cell_strs d4.now x.1 (by rw [d4.len, hl]; exact hx), d4.now.free _, d4⟩
theorem crash_keep2 {W1 : World} {D : DH} {n B i : Nat} {x : Nat × ByteArray} {v : Value} (h1 : D.bn ≠ D.b) (h2 : B ≠ D.bn) (h : W1.cell? ⟨D.b, 1, none⟩ = some (.slice (some ⟨D.bn, 0, none⟩) n n) ∧ W1.cell? ⟨B, 0, none⟩ = some (.int .i64 x.1) ∧ W1.cell? ⟨B, 1, none⟩ = some (.string x.2)) :
    (W1.setCell ⟨D.bn, i, none⟩ v).cell? ⟨D.b, 1, none⟩ = some (.slice (some ⟨D.bn, 0, none⟩) n n) ∧ (W1.setCell ⟨D.bn, i, none⟩ v).cell? ⟨B, 0, none⟩ = some (.int .i64 x.1) ∧ (W1.setCell ⟨D.bn, i, none⟩ v).cell? ⟨B, 1, none⟩ = some (.string x.2) := by
  obtain ⟨a, b, c⟩ := h
  refine ⟨?_, ?_, ?_⟩
  · rw [World.cell?_setCell_other _ _ _ _ (by simp [h1])]; exact a
  · rw [World.cell?_setCell_other _ _ _ _ (by simp [h2.symm])]; exact b
  · rw [World.cell?_setCell_other _ _ _ _ (by simp [h2.symm])]; exact c

set_option maxHeartbeats 1000000 in
theorem crash_some (D : DH) (S : DS) (g cap : Nat) (ks : List Int) (ao : Option Addr) (kc : Nat) (w : World) (h : DevAt w D S) (hok : S.Ok) (hv : D.hv = .slice (some ⟨g, 0, none⟩) S.held.length cap) (hm : S.held.length ≤ 1000000)
    (hks : ks.length ≤ 140737488355328) (hk : ∀ j, j < ks.length → ∃ b off, ao = some ⟨b, off, none⟩ ∧ b < w.heap.size ∧ ¬ D.foot b ∧ w.cell? ⟨b, off + j, none⟩ = some (.int .i64 (ks.getD j 0))) :
    Calls Try.prog 15 #[.pointer (some ⟨D.b, 0, none⟩), .slice ao ks.length kc] w (DPost D w (.tuple #[]) (S.crash ks)) := by
  have c2 : w.cell? ⟨D.b, 2, none⟩ = some (.slice (some ⟨g, 0, none⟩) S.held.length cap) := by rw [← hv, h.blk.cell]; rfl
  have hs := h.small
  have H := Lib.hid h
  have HV := Lib.hid hv
  have HK := Lib.hid hk
  have hDb := h.blk.lt
  clear h hv hk
  go_enter Try.func15, Try.ntmps15
  go_wp2_with fail
  go_loopw [16] (fun i wr => ∃ (k : Nat) (S' : DS), k ≤ S.held.length ∧ i = .int .i64 k ∧ DevAt wr D S' ∧ S'.held = S.held ∧ S'.safe.length = S.safe.length ∧ S'.wipes (S.held.drop k) = S.wipes S.held ∧ Upd D.foot w wr) (fun i _ => S.held.length - (intOf i).toNat)
  case atStart => exact ⟨0, S, by omega, rfl, H.out, rfl, rfl, rfl, Upd.refl _ _⟩
  case round =>
    obtain ⟨k, S', hk, rfl, h, hh, hl, hst, hu⟩ := hrel
    have HH := Lib.hid hh
    have HL := Lib.hid hl
    by_cases hlt : k < S.held.length
    · obtain ⟨x, hx⟩ : ∃ x, S.held[k]? = some x := ⟨_, List.getElem?_eq_getElem hlt⟩
      have hxr := (hok.held x (List.mem_of_getElem? hx)).1
      obtain ⟨y0, y1⟩ := h.heldCell (by rw [HV.out, hh]) k x (by rw [hh]; exact hx)
      have hd : S.held.drop k = x :: S.held.drop (k + 1) := by
        rw [List.drop_eq_getElem_cons hlt]
        congr 1
        have := List.getElem?_eq_getElem hlt
        rw [this] at hx
        exact Option.some.inj hx
      rw [hd, DS.wipes] at hst
      have HST := Lib.hid hst
      have c1 : wr.cell? ⟨D.b, 1, none⟩ = some (.slice (some ⟨D.bn, 0, none⟩) S.safe.length S.safe.length) := by rw [h.blk.cell, ← hl]; rfl
      have cn := cell_strs h.now x.1 (by rw [h.len, hl]; exact hxr)
      have fn := h.now.free x.1
      have l1 := h.blk.lt
      have l2 := h.now.lt
      have H' := Lib.hid (h.nowPut x.1 ByteArray.empty)
      clear hst hd hh hl hx h c2
      go_wp2_with fail
      go_region
      all_goals go_wp2
      all_goals go_roundw
      case rel => exact ⟨k + 1, S'.wipe1 x.1, by omega, by go_num, H'.out.keep (Upd.alloc (Upd.refl (fun _ => False) _) _).drew (fun _ _ => id), HH.out, HL.out, HST.out, ((hu.setCell (p := ⟨D.bn, x.1, none⟩) (fun _ => Or.inr (Or.inr (Or.inl rfl))) _).alloc _).drew⟩
      case measure => simp [intOf]; omega
    · have hk' : k = S.held.length := by omega
      subst hk'
      rw [List.drop_length] at hst
      have hst2 : S' = S.wipes S.held := hst
      rw [hst2] at h
      obtain ⟨wo, rfl⟩ : ∃ wo : World, wo = wr := ⟨_, rfl⟩
      have c2' : wo.cell? ⟨D.b, 2, none⟩ = some (.slice (some ⟨g, 0, none⟩) S.held.length cap) := by rw [h.blk.cell, ← HV.out]; rfl
      have H2 := Lib.hid h
      clear hst hst2 hh hl h HH HL c2 S' hk hlt
      have HT0 := Lib.hid (show (S.wipes S.held).tears ks 0 (S.held.drop 0) = S.torn ks from rfl)
      have ho2 := Lib.hid (DS.Ok.wipes S.held hok)
      have hw2 := Lib.hid (DS.wipes_same S.held S)
      go_wp2_with fail
      go_loopw [33] (fun i wr => ∃ (k : Nat) (S' : DS), k ≤ S.held.length ∧ i = .int .i64 k ∧ DevAt wr D S' ∧ S'.Ok ∧ S'.held = S.held ∧ S'.safe.length = S.safe.length ∧ S'.tears ks k (S.held.drop k) = S.torn ks ∧ Upd D.foot w wr) (fun i _ => S.held.length - (intOf i).toNat)
      case atStart => exact ⟨0, S.wipes S.held, by omega, rfl, H2.out, ho2.out, hw2.out.2.1, by rw [hw2.out.1], HT0.out, hu⟩
      case round =>
        clear hu H2 HT0 ho2 hw2 c2'
        obtain ⟨k, S', hk, rfl, h, ho, hh, hl, hst, hu⟩ := hrel
        have HH := Lib.hid hh
        have HL := Lib.hid hl
        by_cases hlt : k < S.held.length
        · obtain ⟨x, hx⟩ : ∃ x, S.held[k]? = some x := ⟨_, List.getElem?_eq_getElem hlt⟩
          have hxr := hok.held x (List.mem_of_getElem? hx)
          obtain ⟨y0, y1⟩ := h.heldCell (by rw [HV.out, hh]) k x (by rw [hh]; exact hx)
          have hd : S.held.drop k = x :: S.held.drop (k + 1) := by
            rw [List.drop_eq_getElem_cons hlt]
            congr 1
            have := List.getElem?_eq_getElem hlt
            rw [this] at hx
            exact Option.some.inj hx
          rw [hd, DS.tears] at hst
          have HST := Lib.hid hst
          have H' := Lib.hid h
          have l1 := h.blk.lt
          have l2 := h.now.lt
          have HX := Lib.hid hxr
          clear hst hd hh hl hx h hxr
          go_upto_if 41 with fail
          go_cut [8] (fun s8 wx => s8 = .int .i64 (keepAt ks k : Nat) ∧ wx = wr.alloc (.cells #[.int .i64 x.1, .string x.2] 63))
          case first =>
            by_cases hj : k < ks.length
            · obtain ⟨b, off, hao, hb, hbf, hkc⟩ := HK.out k hj
              have hkc2 : wr.cell? ⟨b, off + k, none⟩ = some (.int .i64 (ks.getD k 0)) := (World.cell?_of_block (hu.block b hb hbf)).trans hkc
              have hb2 : b < wr.heap.size := by have := hu.size; omega
              subst hao
              clear HK hbf hkc y0 y1
              have hv3 : (keepAt ks k = 0 ∧ ks.getD k 0 < 0) ∨ (∃ r : Nat, keepAt ks k = r ∧ ks.getD k 0 = r ∧ r ≤ 512) ∨ (keepAt ks k = 512 ∧ 512 < ks.getD k 0) := by
                unfold keepAt
                rw [if_pos hj]
                by_cases h1 : ks.getD k 0 < 0
                · left; omega
                · by_cases h2 : 512 < ks.getD k 0
                  · right; right; omega
                  · right; left; exact ⟨(ks.getD k 0).toNat, by omega, by omega, by omega⟩
              generalize ks.getD k 0 = v at *
              rcases hv3 with ⟨h1, h2⟩ | ⟨r, h1, h2, h3⟩ | ⟨h1, h2⟩
              · have H1 := Lib.hid h1
                clear h1
                go_wp2
                all_goals (go_meet; exact ⟨by rw [H1.out]; rfl, rfl⟩)
              · have H1 := Lib.hid h1
                subst h2
                clear h1
                go_wp2
                all_goals (go_meet; exact ⟨by rw [H1.out], rfl⟩)
              · have H1 := Lib.hid h1
                clear h1
                go_wp2
                all_goals (go_meet; exact ⟨by rw [H1.out]; rfl, rfl⟩)
            · have h0 : keepAt ks k = 0 := by unfold keepAt; rw [if_neg hj]
              have H1 := Lib.hid h0
              clear HK y0 y1 h0
              go_wp2
              all_goals (go_meet; exact ⟨by rw [H1.out]; rfl, rfl⟩)
          case rest =>
            obtain ⟨rfl, rfl⟩ := hcut
            go_wp2_with fail
            have h := H'.out
            have hl := HL.out
            have hxr := HX.out
            have kle := keepAt_le ks k
            have hsz := ho.sector x.1
            have hX : DevAt (wr.alloc (.cells #[.int .i64 x.1, .string x.2] 63)) D S' := h.keep (Upd.alloc (Upd.refl (fun _ => False) _) _) (fun _ _ => id)
            have bX := Blk.new wr #[.int .i64 x.1, .string x.2] 63
            have lX : wr.heap.size < (wr.alloc (.cells #[.int .i64 x.1, .string x.2] 63)).heap.size := by simp
            have K := fun W (hW : DevAt W D S') => sector_any D S' x.1 W hW (by rw [hl]; exact hxr.1)
            obtain ⟨r, hr⟩ : ∃ r, keepAt ks k = r := ⟨_, rfl⟩
            rw [hr] at kle ⊢
            have HR := Lib.hid hr
            obtain ⟨t, ht⟩ : ∃ t, S'.sector x.1 = t := ⟨_, rfl⟩
            rw [ht] at hsz K
            have HTT := Lib.hid ht
            have HK2 := Lib.hid K
            obtain ⟨W0, hW0⟩ : ∃ W0, wr.alloc (.cells #[.int .i64 x.1, .string x.2] 63) = W0 := ⟨_, rfl⟩
            have hu0 : Upd D.foot w W0 := by rw [← hW0]; exact hu.alloc _
            obtain ⟨B, hB⟩ : ∃ B, wr.heap.size = B := ⟨_, rfl⟩
            rw [hW0] at hX bX lX ⊢
            rw [hB] at bX lX ⊢
            have hBb : B ≠ D.b := by omega
            have hBn : B ≠ D.bn := by omega
            have hxl : x.1 < S.safe.length := hxr.1
            have r1 : (r : Int) ≤ (x.2.size : Int) := by omega
            have r2 : (r : Int) ≤ (t.size : Int) := by omega
            have c1 : W0.cell? ⟨D.b, 1, none⟩ = some (.slice (some ⟨D.bn, 0, none⟩) S.safe.length S.safe.length) := by rw [hX.blk.cell, ← hl]; rfl
            have x0 : W0.cell? ⟨B, 0, none⟩ = some (.int .i64 x.1) := by rw [bX.cell]; rfl
            have x1 : W0.cell? ⟨B, 1, none⟩ = some (.string x.2) := by rw [bX.cell]; rfl
            have HS2 := Lib.hid (And.intro hsz hxr.2)
            have s1 : x.2.size ≤ 512 := by omega
            have s2 : t.size ≤ 512 := by omega
            have HK3 := Lib.hid (HK2.out W0.drew hX.drew)
            have HKK := Lib.hid (fun W1 => crash_keep (W1 := W1) hX bX hl hxl)
            have nnb : D.bn ≠ D.b := hX.now.ne hX.blk (by decide)
            have hxi : (x.1 : Int) < (S.safe.length : Int) := by omega
            have hsum : ¬ (9223372036854775807 < min r x.2.size + (t.size - r)) := by omega
            clear hr ht K hB hW0 y0 y1 H' hu hl hxr hsz h
            go_region_held3 (fun w' => w'.cell? ⟨D.b, 1, none⟩ = some (.slice (some ⟨D.bn, 0, none⟩) S.safe.length S.safe.length) ∧ w'.cell? ⟨B, 0, none⟩ = some (.int .i64 x.1) ∧ w'.cell? ⟨B, 1, none⟩ = some (.string x.2))
              (first | exact ⟨c1, x0, x1⟩ | exact k1.1 | exact crash_keep2 nnb hBn k1.1)
              (first | (go_at_call 35; refine HK3.out.mono ?_; rintro e w1 ⟨rfl, hu1⟩; have k1 := HKK.out _ hu1; have c3 := k1.2.1; have f3 := k1.2.2.1))
            go_wp2_with fail
            go_roundw
            case rel =>
              refine ⟨k + 1, S'.tear1 r x.1 x.2, by omega, by go_num, ?_, ho.tear1 r x.1 x.2 kle HS2.out.2, HH.out, HL.out, by have := HST.out; rw [HR.out] at this; exact this, ((hu0.drew.trans hu1 (fun _ _ h => h.elim)).setCell (p := ⟨D.bn, x.1, none⟩) (fun _ => Or.inr (Or.inr (Or.inl rfl))) _)⟩
              unfold DS.tear1
              rw [HTT.out]
              exact k1.2.2.2.nowPut x.1 (torn r x.2 t)
            case measure => simp [intOf]; omega
        · have hk' : k = S.held.length := by omega
          subst hk'
          rw [List.drop_length] at hst
          have hst2 : S' = S.torn ks := hst
          rw [hst2] at h hh hl ho
          have K := Lib.hid (settle_any D (S.torn ks) wr h (fun x hx => (ho.held x hx).1) (by rw [hh]; exact hm))
          clear hst hst2 hh hl h HH HL S' hk hlt ho
          go_wp2_with fail
          refine K.out.mono ?_
          rintro e w1 ⟨D1, hb1, rfl, h1, hu1, hF1⟩
          have f4 := h1.blk.free 4
          have f6 := h1.blk.free 6
          have q4 : w1.cell? ⟨D1.b, 4, none⟩ = some (.bool (S.torn ks).settle.armed) := by rw [h1.blk.cell]; rfl
          have q6 : w1.cell? ⟨D1.b, 6, none⟩ = some (.bool (S.torn ks).settle.down) := by rw [h1.blk.cell]; rfl
          have HE := Lib.hid (crash_end hb1 h1 (hu.trans hu1 (fun _ _ h => h)) (fun k hk => (hF1 k hk).imp_right (fun h => by have := hu.size; omega)))
          rw [hb1] at f4 f6 q4 q6
          clear hb1 h1 hu1 hF1
          go_wp2_with fail
          go_end0
          exact HE.out

theorem crash_any (D : DH) (S : DS) (ks : List Int) (ao : Option Addr) (kc : Nat) (w : World) (h : DevAt w D S) (hok : S.Ok) (hm : S.held.length ≤ 1000000)
    (hks : ks.length ≤ 140737488355328) (hk : ∀ j, j < ks.length → ∃ b off, ao = some ⟨b, off, none⟩ ∧ b < w.heap.size ∧ ¬ D.foot b ∧ w.cell? ⟨b, off + j, none⟩ = some (.int .i64 (ks.getD j 0))) :
    Calls Try.prog 15 #[.pointer (some ⟨D.b, 0, none⟩), .slice ao ks.length kc] w (DPost D w (.tuple #[]) (S.crash ks)) := by
  rcases h.heldForm with ⟨hv, hn⟩ | ⟨g, cap, hv⟩
  · exact crash_none D S ks _ w h hv hn
  · exact crash_some D S g cap ks ao kc w h hok hv hm hks hk

theorem crash_nil (kv : Value) (w : World) : Calls Try.prog 15 #[.pointer none, kv] w fun e w' => e = .returned (.tuple #[]) ∧ w = w' := by
  go_enter Try.func15, Try.ntmps15
  go_wp2
  refine bodyPost_ret (results_none rfl _ _ _) rfl ?_
  exact ⟨rfl, rfl⟩

end Go.Proofs.Ytojcoambodedbaa
