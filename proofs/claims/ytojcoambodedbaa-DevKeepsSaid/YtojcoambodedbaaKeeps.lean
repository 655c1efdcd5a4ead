/- DevKeeps: the walk. -/
import Derived.Test.YtojcoambodedbaaKeepsLaw
import Derived.Deep.DeepCutAuto
import Derived.Deep.RegionHeld3
set_option linter.unusedVariables false
set_option linter.unusedSimpArgs false
set_option linter.unnecessarySimpa false
namespace Go.Proofs.Ytojcoambodedbaa
open Go.RowKit

theorem keeps_put {W w : World} {D : DH} {S : DS} (h : Solo W w D S) (hf : Free 60 S) (j f : Nat) (hj : j < 64) :
    Calls Try.prog 12 #[.pointer (some ⟨D.b, 0, none⟩), .int .i64 j, .string (block f)] w fun e w' => ∃ D', D'.b = D.b ∧ e = .returned (.int .i64 0) ∧ Solo W w' D' (S.put1 j (block f)) := by
  have K := write_ok D S j 1 (block f) w h.dev (size_block f) (by rw [hf.len]; omega) hf.down (by have := hf.held; omega)
  rw [DS.wr_yes hf.goes, chunk_one _ (size_block f)] at K
  refine K.mono fun e w' p => ?_
  exact h.step (hf.ok.put1 (j + 0) (block f) (by rw [hf.len]; omega) (size_block f)) p
theorem keeps_flush {W w : World} {D : DH} {S : DS} (h : Solo W w D S) (hf : Free 60 S) :
    Calls Try.prog 17 #[.pointer (some ⟨D.b, 0, none⟩)] w fun e w' => ∃ D', D'.b = D.b ∧ e = .returned (.int .i64 0) ∧ Solo W w' D' S.flushed := by
  have K := flush_any D S w h.dev (fun x hx => (hf.ok.held x hx).1) (by have := hf.held; omega)
  unfold DS.flush at K
  rw [if_pos hf.goes, if_pos hf.goes] at K
  exact K.mono fun e w' p => h.step hf.flushed.1.ok p

set_option maxRecDepth 100000 in
set_option maxHeartbeats 1600000 in
theorem keeps_walk (a2 : Int) (fv kv : Value) (fs : List Nat) (ks : List Int) (w : World) (hf : ViewB w fv fs) (hk : View .i64 w kv ks) (hfs : fs.length ≤ 140737488351232) (hks : ks.length * 8 ≤ 140737488351232) :
    Calls Try.prog 4 #[fv, kv, .int .i64 a2] w fun e w' => e = .returned (.bool true) ∧ Below w.heap.size w w' := by
  obtain ⟨hf256, ao, cap, rfl, hfc⟩ := hf
  obtain ⟨ko, kcap, rfl, hkc⟩ := id hk
  have HKC := Lib.hid hkc
  clear hkc
  have K1 := Lib.hid (new_yes 64 w (by omega) (by omega))
  by_cases h60 : 60 < fs.length
  · clear hfc hk hf256
    go_enter Try.func4, Try.ntmps4
    go_wp2_with fail
    refine K1.out.mono ?_
    rintro e w1 ⟨D, rfl, hD, hu1, hF1⟩
    have K := Lib.hid (wakes_any w1)
    clear hD hF1
    go_wp2_with fail
    refine K.out.mono ?_
    rintro e w2 ⟨rfl, hb⟩
    go_wp2_with fail
    go_ret
    exact ⟨rfl, (hu1.below (Nat.le_refl _) (fun _ h => h.elim)).trans (hb.mono hu1.size)⟩
  · have h60' : fs.length ≤ 60 := by omega
    have HFC := Lib.hid hfc
    have HK := Lib.hid hk
    clear hfc hk h60
    go_enter Try.func4, Try.ntmps4
    go_wp2_with fail
    refine K1.out.mono ?_
    rintro e w1 ⟨D, rfl, hD, hu1, hF1⟩
    have hs1 : Solo w w1 D (DS.fresh 64) := Solo.of_new (Below.refl _ _) hD (DS.fresh_ok 64) hu1 hF1
    have HS1 := Lib.hid hs1
    have K3 := Lib.hid (mod_any a2 ((fs.length : Int) + 1) w1 (by omega) (by omega))
    obtain ⟨k, hk⟩ : ∃ k : Nat, a2 % ((fs.length : Int) + 1) = k := ⟨(a2 % ((fs.length : Int) + 1)).toNat, by have := Int.emod_nonneg a2 (show ((fs.length : Int) + 1) ≠ 0 by omega); omega⟩
    have hkl : k ≤ fs.length := by have := Int.emod_lt_of_pos a2 (show 0 < ((fs.length : Int) + 1) by omega); omega
    have HKK := Lib.hid hk
    clear hD hs1 hu1 hF1 hk
    go_wp2_with fail
    refine K3.out.mono ?_
    rintro e w2 ⟨rfl, rfl⟩
    rw [HKK.out]
    go_wp2_with fail
    go_loopw [10] (fun i wr => ∃ (j : Nat) (D' : DH), j ≤ fs.length ∧ i = .int .i64 j ∧ D'.b = D.b ∧ Solo w wr D' (keepsAt fs k j)) (fun i _ => fs.length - (intOf i).toNat)
    case atStart => exact ⟨0, D, by omega, rfl, rfl, by unfold keepsAt; rw [if_pos (Nat.zero_le _)]; exact HS1.out⟩
    case round =>
      obtain ⟨j, D', hj, rfl, hb, hs⟩ := hrel
      have HB := Lib.hid hb
      have HS := Lib.hid hs
      have HFR := Lib.hid (keepsAt_free fs k j h60' hkl hj)
      by_cases hlt : j < fs.length
      · obtain ⟨b, off, hao, hbl, hcell⟩ := HFC.out j hlt
        have hf := getD_lt hf256 j hlt
        have HLO := Lib.hid (keepsAt_low fs k j hlt)
        have HHI := Lib.hid (keepsAt_high fs k j hlt)
        have HMI := Lib.hid (keepsAt_mid fs k)
        obtain ⟨f, hfe⟩ : ∃ f, fs.getD j 0 = f := ⟨_, rfl⟩
        rw [hfe] at hf hcell HLO HHI
        have HFE := Lib.hid hfe
        have K4 := Lib.hid (fun W => block_any f hf W)
        have HCELL := Lib.hid hcell
        subst hao
        by_cases hjk : j = k
        · subst hjk
          have K5 := keeps_flush hs HFR.out
          rw [(keepsAt_mid fs j hlt).2, hb] at K5
          have K5 := Lib.hid K5
          have t1 : ((j : Int) == (j : Int)) = true := by simp
          clear hb hs HFC hfe hcell
          go_wp2_with fail
          refine K5.out.mono ?_
          rintro e w3 ⟨D3, hb3, rfl, hs3⟩
          have c3 : w3.cell? ⟨b, off + j, none⟩ = some (.int .u8 f) := (hs3.below.cell (p := ⟨b, off + j, none⟩) hbl).trans HCELL.out
          have HS3 := Lib.hid hs3
          have HB3 := Lib.hid hb3
          clear hs3 hb3
          go_wp2_with fail
          refine (K4.out _).mono ?_
          rintro e w4 ⟨rfl, hb4⟩
          have hf3 : Free 60 (keepsF fs j) := by
            have := keepsF_free fs j h60'
            exact ⟨this.down, this.armed, this.len, this.ok, this.tidy, Nat.le_trans this.held (by omega)⟩
          have K6 := keeps_put (HS3.out.quiet hb4) hf3 j f (by omega)
          rw [HB3.out] at K6
          have K6 := Lib.hid K6
          clear c3
          go_wp2_with fail
          refine K6.out.mono ?_
          rintro e w5 ⟨D5, hb5, rfl, hs5⟩
          have H5 := Lib.hid (And.intro hb5 hs5)
          clear hb5 hs5
          go_wp2_with fail
          go_roundw
          case rel => exact ⟨j + 1, D5, by omega, by go_num, H5.out.1, by rw [(HMI.out hlt).1, HFE.out]; exact H5.out.2⟩
          case measure => simp [intOf]; omega
        · have t1 : ((j : Int) == (k : Int)) = false := by simp; omega
          have c3 : wr.cell? ⟨b, off + j, none⟩ = some (.int .u8 f) := (hs.below.cell (p := ⟨b, off + j, none⟩) hbl).trans hcell
          clear hb hs HFC hfe hcell
          go_wp2_with fail
          refine (K4.out _).mono ?_
          rintro e w4 ⟨rfl, hb4⟩
          have K6 := keeps_put (HS.out.quiet hb4) HFR.out j f (by omega)
          rw [HB.out] at K6
          have K6 := Lib.hid K6
          clear c3
          go_wp2_with fail
          refine K6.out.mono ?_
          rintro e w5 ⟨D5, hb5, rfl, hs5⟩
          have H5 := Lib.hid (And.intro hb5 hs5)
          clear hb5 hs5
          go_wp2_with fail
          go_roundw
          case rel =>
            refine ⟨j + 1, D5, by omega, by go_num, H5.out.1, ?_⟩
            by_cases hlk : j < k
            · rw [HLO.out hlk]; exact H5.out.2
            · rw [HHI.out (by omega)]; exact H5.out.2
          case measure => simp [intOf]; omega
      · have hj' : j = fs.length := by omega
        subst hj'
        obtain ⟨wo, rfl⟩ : ∃ wo : World, wo = wr := ⟨_, rfl⟩
        by_cases hke : k = fs.length
        · have K5 := keeps_flush hs HFR.out
          rw [hb] at K5
          have hst : (keepsAt fs k fs.length).flushed = keepsB fs k := by rw [hke]; exact keepsAt_all fs
          rw [hst] at K5
          have K5 := Lib.hid K5
          have t1 : ((k : Int) == (fs.length : Int)) = true := by simp; omega
          clear hb hs hst
          go_wp2_with fail
          refine K5.out.mono ?_
          rintro e w3 ⟨D2, hb2, rfl, hs2⟩
          have HS2 := Lib.hid hs2
          have HB2 := Lib.hid hb2
          clear hs2 hb2
          obtain ⟨w6, hw6⟩ : ∃ w6, w6 = w3 := ⟨_, rfl⟩
          have hs9 := HS2.out.quiet (w' := w3.alloc (.cells #[] 3)) ((Below.refl _ _).alloc (Nat.le_refl _) _)
          have hfB := keepsB_free fs k h60' hkl
          obtain ⟨ao2, kc2, w9, hrun, hu9, hc9⟩ := copy_ints (w3.alloc (.cells #[] 3)) ⟨w3.heap.size, 0, none⟩ _ ks 23 (HK.out.below hs9.below) hks
          have hs10 := hs9.quiet (hu9.below (Nat.le_refl _) (fun _ h => h.elim))
          have K10 := crash_copy kc2 hs10.dev hfB.ok (by have := hfB.held; omega) hks hs9.dev.lt hc9
          rw [HB2.out] at K10
          have K10 := Lib.hid K10
          have HRUN := Lib.hid hrun
          have HS10 := Lib.hid hs10
          have HFB := Lib.hid hfB
          clear hs9 hrun hu9 hc9 hs10 hfB hw6
          go_wp2_with (at_builtin; refine wpList_append_run rfl (.tmp 69) (.tmp 70) 23 23 rfl _ _ rfl rfl _ _ HRUN.out ?_)
          refine K10.out.mono ?_
          rintro e w10 p
          obtain ⟨D3, hb3, he, hs11⟩ := HS10.out.step (HFB.out.ok.crash ks) p
          subst he
          have hL := Lib.hid (fun i hi => keeps_law fs ks k i h60' hkl hi)
          have hU : ((keepsB fs k).crash ks).safe.length = 64 := (crash_len _ ks).trans HFB.out.len
          have hUo := HFB.out.ok.crash ks
          have hUd : ((keepsB fs k).crash ks).down = false := rfl
          obtain ⟨U, hUe⟩ : ∃ U, (keepsB fs k).crash ks = U := ⟨_, rfl⟩
          rw [hUe] at hs11 hU hUo hUd hL
          have HL := Lib.hid hL.out
          have HS11 := Lib.hid hs11
          have HU := Lib.hid (And.intro hU (And.intro hUo hUd))
          have HB3 := Lib.hid (hb3.trans HB2.out)
          clear p hb3 hs11 hU hUo hUd hUe hL
          go_wp2_with fail
          go_loopw [11] (fun i wr => ∃ (j : Nat), j ≤ fs.length ∧ i = .int .i64 j ∧ Solo w wr D3 U) (fun i _ => fs.length - (intOf i).toNat)
          case atStart => exact ⟨0, by omega, rfl, HS11.out⟩
          case round =>
            obtain ⟨j, hj, rfl, hs⟩ := hrel
            have HS := Lib.hid hs
            by_cases hlt : j < fs.length
            · obtain ⟨b, off, hao, hbl, hcell⟩ := HFC.out j hlt
              have hf := getD_lt hf256 j hlt
              obtain ⟨q1, q2⟩ := HL.out j hlt
              have K13 := read_ok D3 U j 1 wr hs.dev HU.out.2.1 (by rw [HU.out.1]; omega) HU.out.2.2
              rw [HB3.out, reads_one] at K13
              obtain ⟨f, hfe⟩ : ∃ f, fs.getD j 0 = f := ⟨_, rfl⟩
              rw [hfe] at hf hcell q1 q2
              have K4 := Lib.hid (fun W => block_any f hf W)
              have HCELL := Lib.hid hcell
              subst hao
              by_cases hjk : j < k
              · rw [q1 hjk] at K13
                have K13 := Lib.hid K13
                clear hs HFC hfe hcell q1 q2
                go_wp2_with fail
                refine K13.out.mono ?_
                rintro e w12 ⟨rfl, hb12⟩
                have hs12 := HS.out.quiet hb12
                have c3 : w12.cell? ⟨b, off + j, none⟩ = some (.int .u8 f) := (hs12.below.cell (p := ⟨b, off + j, none⟩) hbl).trans HCELL.out
                have HS12 := Lib.hid hs12
                clear hs12
                go_wp2_with fail
                refine (K4.out _).mono ?_
                rintro e w13 ⟨rfl, hb13⟩
                have t2 : ((block f).toList == (block f).toList) = true := by simp
                go_wp2_with fail
                go_roundw
                case rel => exact ⟨j + 1, by omega, by go_num, HS12.out.quiet hb13⟩
                case measure => simp [intOf]; omega
              · exfalso; omega
            · have hj' : j = fs.length := by omega
              subst hj'
              have K14 := Lib.hid (wakes_any wr)
              clear hs
              go_wp2_with fail
              refine K14.out.mono ?_
              rintro e w15 ⟨rfl, hb15⟩
              go_wp2_with fail
              go_ret
              exact ⟨rfl, HS.out.below.trans (hb15.mono HS.out.below.size)⟩
        · rw [keepsAt_end fs k (by omega)] at hs
          have HS2 := Lib.hid hs
          have t1 : ((k : Int) == (fs.length : Int)) = false := by simp; omega
          clear hb hs
          obtain ⟨w6, hw6⟩ : ∃ w6, w6 = wo := ⟨_, rfl⟩
          have hs9 := HS2.out.quiet (w' := wo.alloc (.cells #[] 3)) ((Below.refl _ _).alloc (Nat.le_refl _) _)
          have hfB := keepsB_free fs k h60' hkl
          obtain ⟨ao2, kc2, w9, hrun, hu9, hc9⟩ := copy_ints (wo.alloc (.cells #[] 3)) ⟨wo.heap.size, 0, none⟩ _ ks 23 (HK.out.below hs9.below) hks
          have hs10 := hs9.quiet (hu9.below (Nat.le_refl _) (fun _ h => h.elim))
          have K10 := crash_copy kc2 hs10.dev hfB.ok (by have := hfB.held; omega) hks hs9.dev.lt hc9
          rw [HB.out] at K10
          have K10 := Lib.hid K10
          have HRUN := Lib.hid hrun
          have HS10 := Lib.hid hs10
          have HFB := Lib.hid hfB
          clear hs9 hrun hu9 hc9 hs10 hfB hw6
          go_wp2_with (at_builtin; refine wpList_append_run rfl (.tmp 69) (.tmp 70) 23 23 rfl _ _ rfl rfl _ _ HRUN.out ?_)
          refine K10.out.mono ?_
          rintro e w10 p
          obtain ⟨D3, hb3, he, hs11⟩ := HS10.out.step (HFB.out.ok.crash ks) p
          subst he
          have hL := Lib.hid (fun i hi => keeps_law fs ks k i h60' hkl hi)
          have hU : ((keepsB fs k).crash ks).safe.length = 64 := (crash_len _ ks).trans HFB.out.len
          have hUo := HFB.out.ok.crash ks
          have hUd : ((keepsB fs k).crash ks).down = false := rfl
          obtain ⟨U, hUe⟩ : ∃ U, (keepsB fs k).crash ks = U := ⟨_, rfl⟩
          rw [hUe] at hs11 hU hUo hUd hL
          have HL := Lib.hid hL.out
          have HS11 := Lib.hid hs11
          have HU := Lib.hid (And.intro hU (And.intro hUo hUd))
          have HB3 := Lib.hid (hb3.trans HB.out)
          clear p hb3 hs11 hU hUo hUd hUe hL
          go_wp2_with fail
          go_loopw [11] (fun i wr => ∃ (j : Nat), j ≤ fs.length ∧ i = .int .i64 j ∧ Solo w wr D3 U) (fun i _ => fs.length - (intOf i).toNat)
          case atStart => exact ⟨0, by omega, rfl, HS11.out⟩
          case round =>
            obtain ⟨j, hj, rfl, hs⟩ := hrel
            have HS := Lib.hid hs
            by_cases hlt : j < fs.length
            · obtain ⟨b, off, hao, hbl, hcell⟩ := HFC.out j hlt
              have hf := getD_lt hf256 j hlt
              obtain ⟨q1, q2⟩ := HL.out j hlt
              have K13 := read_ok D3 U j 1 wr hs.dev HU.out.2.1 (by rw [HU.out.1]; omega) HU.out.2.2
              rw [HB3.out, reads_one] at K13
              obtain ⟨f, hfe⟩ : ∃ f, fs.getD j 0 = f := ⟨_, rfl⟩
              rw [hfe] at hf hcell q1 q2
              have K4 := Lib.hid (fun W => block_any f hf W)
              have HCELL := Lib.hid hcell
              subst hao
              by_cases hjk : j < k
              · rw [q1 hjk] at K13
                have K13 := Lib.hid K13
                clear hs HFC hfe hcell q1 q2
                go_wp2_with fail
                refine K13.out.mono ?_
                rintro e w12 ⟨rfl, hb12⟩
                have hs12 := HS.out.quiet hb12
                have c3 : w12.cell? ⟨b, off + j, none⟩ = some (.int .u8 f) := (hs12.below.cell (p := ⟨b, off + j, none⟩) hbl).trans HCELL.out
                have HS12 := Lib.hid hs12
                clear hs12
                go_wp2_with fail
                refine (K4.out _).mono ?_
                rintro e w13 ⟨rfl, hb13⟩
                have t2 : ((block f).toList == (block f).toList) = true := by simp
                go_wp2_with fail
                go_roundw
                case rel => exact ⟨j + 1, by omega, by go_num, HS12.out.quiet hb13⟩
                case measure => simp [intOf]; omega
              · rw [q2 (by omega)] at K13
                have K13 := Lib.hid K13
                clear hs HFC hfe hcell q1 q2
                go_wp2_with fail
                refine K13.out.mono ?_
                rintro e w12 ⟨rfl, hb12⟩
                have hs12 := HS.out.quiet hb12
                have HS12 := Lib.hid hs12
                clear hs12
                go_upto_if 109 with fail
                go_cut [14] (fun s14 wx => s14 = .int .i64 (keepAt ks (j - k) : Nat) ∧ wx = w12)
                case first =>
                  have hjn : ((j : Int) - (k : Int)) = ((j - k : Nat) : Int) := by omega
                  by_cases hjj : j - k < ks.length
                  · obtain ⟨b2, off2, hao2, hbl2, hkc2⟩ := HKC.out (j - k) hjj
                    have hkc3 : w12.cell? ⟨b2, off2 + (j - k), none⟩ = some (.int .i64 (ks.getD (j - k) 0)) := (HS12.out.below.cell (p := ⟨b2, off2 + (j - k), none⟩) hbl2).trans hkc2
                    subst hao2
                    clear hkc2
                    have hkv : max 0 (min (ks.getD (j - k) 0) 512) = ((keepAt ks (j - k) : Nat) : Int) := by
                      unfold keepAt
                      rw [if_pos hjj]
                      omega
                    have HKV := Lib.hid hkv
                    obtain ⟨x, hx⟩ : ∃ x, x = j - k := ⟨_, rfl⟩
                    rw [← hx] at hkc3 hjn hjj HKV
                    have HX := Lib.hid hx
                    generalize ks.getD x 0 = v at *
                    clear hx hkv
                    go_wp2
                    all_goals (go_meet; exact ⟨by rw [← HX.out]; exact congrArg (Value.int .i64) HKV.out, rfl⟩)
                  · have h0 : keepAt ks (j - k) = 0 := by unfold keepAt; rw [if_neg hjj]
                    have H1 := Lib.hid h0
                    have hjj2 : ¬ (j : Int) - (k : Int) < ks.length := by omega
                    clear h0 hjj hjn
                    go_wp2
                    all_goals (go_meet; exact ⟨by rw [H1.out]; rfl, rfl⟩)
                case rest =>
                  obtain ⟨rfl, rfl⟩ := hcut
                  go_wp2_with fail
                  have hr := keepAt_le ks (j - k)
                  obtain ⟨r, hre⟩ : ∃ r, keepAt ks (j - k) = r := ⟨_, rfl⟩
                  rw [hre] at hr ⊢
                  have c3 : wc.cell? ⟨b, off + j, none⟩ = some (.int .u8 f) := (HS12.out.below.cell (p := ⟨b, off + j, none⟩) hbl).trans HCELL.out
                  have KZ := Lib.hid (fun W => zeros_any (512 - (r : Int)) (by omega) (by omega) W)
                  have hz : (512 - (r : Int)).toNat = 512 - r := by omega
                  rw [hz] at KZ
                  have hsb := size_block f
                  have hsz := size_zeros (512 - r)
                  have s1 : (r : Int) ≤ ((block f).size : Int) := by omega
                  have hsum : ¬ (9223372036854775807 < min r (block f).size + (zeros (512 - r)).size) := by omega
                  have hlt2 := HS12.out.below.size
                  have hblw : b < wc.heap.size := by omega
                  clear hre hz hsb hsz
                  have hwr : IntKind.i64.wrap (512 - (r : Int)) = 512 - (r : Int) := IntWalk.i64_in _ (by omega)
                  go_region_held3 (fun w' => w'.cell? ⟨b, off + j, none⟩ = some (.int .u8 f))
                    (first | exact c3 | exact (hb13.cell (p := ⟨b, off + j, none⟩) hblw).trans c3 | exact ((hb13.trans (hb14.mono hb13.size)).cell (p := ⟨b, off + j, none⟩) hblw).trans c3)
                    (first
                      | (go_at_call 11; refine (K4.out _).mono ?_; rintro e w13 ⟨rfl, hb13⟩)
                      | (go_at_call 18; refine (KZ.out _).mono ?_; rintro e w14 ⟨rfl, hb14⟩))
                  have hb15 : Below wc.heap.size wc w14 := (Below.refl _ _).drew.trans (hb13.trans (hb14.mono hb13.size))
                  clear hwr
                  go_wp2_with fail
                  go_roundw
                  case rel => exact ⟨j + 1, by omega, by go_num, HS12.out.quiet hb15⟩
                  case measure => simp [intOf]; omega
            · have hj' : j = fs.length := by omega
              subst hj'
              have K14 := Lib.hid (wakes_any wr)
              clear hs
              go_wp2_with fail
              refine K14.out.mono ?_
              rintro e w15 ⟨rfl, hb15⟩
              go_wp2_with fail
              go_ret
              exact ⟨rfl, HS.out.below.trans (hb15.mono HS.out.below.size)⟩

end Go.Proofs.Ytojcoambodedbaa
