/- DevArms: the walk. -/
import Derived.Test.YtojcoambodedbaaQ
set_option linter.unusedVariables false
set_option linter.unusedSimpArgs false
set_option linter.unnecessarySimpa false
namespace Go.Proofs.Ytojcoambodedbaa
open Go.RowKit

/-- An armed device behind i tries of an operation, k let by. -/
structure ArmsInv (k i : Nat) (S : DS) : Prop where
  armed : S.armed = true
  ops : S.ops = (min i k : Nat)
  left : S.left = (k : Int) - (min i k : Nat)
  down : S.down = decide (k < i)
  held : S.held.length ≤ i
  len : S.safe.length = 64

theorem settle_held (S : DS) : S.settle.held = [] := rfl
theorem settle_same (S : DS) : S.settle.ops = S.ops ∧ S.settle.armed = S.armed ∧ S.settle.left = S.left ∧ S.settle.down = S.down ∧ S.settle.safe.length = S.safe.length :=
  ⟨(settles_same S.held S).1, (settles_same S.held S).2.1, (settles_same S.held S).2.2.1, (settles_same S.held S).2.2.2.1, (settles_same S.held S).2.2.2.2.1⟩

theorem ArmsInv.goes {k i : Nat} {S : DS} (h : ArmsInv k i S) : S.goes = decide (i < k) := by
  unfold DS.goes
  rw [h.armed, h.down, h.left]
  by_cases h1 : i < k
  · have e1 : min i k = i := by omega
    have : ((k : Int) - (i : Nat) == 0) = false := by simp; omega
    simp [e1, this, h1]; omega
  · have e1 : min i k = k := by omega
    simp [e1, h1]

theorem arms_goes_next {k i : Nat} {S : DS} (h : ArmsInv k i S) (hk : k ≤ 30) (hi : i < k) : wrap64 (S.left - 1) = (k : Int) - (min (i + 1) k : Nat) ∧ wrap64 (S.ops + 1) = (min (i + 1) k : Nat) ∧ S.down = decide (k < i + 1) := by
  rw [h.left, h.ops, h.down]
  have e1 : min i k = i := by omega
  have e2 : min (i + 1) k = i + 1 := by omega
  rw [e1, e2]
  refine ⟨by unfold wrap64; omega, by unfold wrap64; omega, ?_⟩
  simp; omega

theorem arms_write {W w : World} {D : DH} {S : DS} {k i : Nat} (h : Solo W w D S) (hi : ArmsInv k i S) (hk : k ≤ 30) (hi2 : i < 40) :
    Calls Try.prog 12 #[.pointer (some ⟨D.b, 0, none⟩), .int .i64 i, .string (block 1)] w fun e w' => ∃ D' S', D'.b = D.b ∧ e = .returned (.int .i64 (if i < k then 0 else 41)) ∧ Solo W w' D' S' ∧ ArmsInv k (i + 1) S' := by
  by_cases hlt : i < k
  · rw [if_pos hlt]
    obtain ⟨q1, q2, q3⟩ := arms_goes_next hi hk hlt
    have hdn : S.down = false := by rw [hi.down]; simp; omega
    have hg : S.goes = true := by rw [hi.goes]; simpa using hlt
    have K := write_ok D S i 1 (block 1) w h.dev (size_block 1) (by rw [hi.len]; omega) hdn (by have := hi.held; omega)
    rw [DS.wr_yes hg, chunk_one _ (size_block 1)] at K
    refine K.mono fun e w' p => ?_
    obtain ⟨D', hb, he, hs⟩ := h.step (h.ok.put1 (i + 0) _ (by rw [hi.len]; omega) (size_block 1)) p
    refine ⟨D', _, hb, he, hs, ⟨hi.armed, q2, q1, q3, ?_, hi.len⟩⟩
    simp only [DS.put1, List.length_append, List.length_cons, List.length_nil]
    have := hi.held; omega
  · rw [if_neg hlt]
    have hmin : min i k = k ∧ min (i + 1) k = k := by omega
    by_cases heq : i = k
    · subst heq
      have hdn : S.down = false := by rw [hi.down]; simp
      have hg : S.goes = false := by rw [hi.goes]; simp
      have K := write_ok D S i 1 (block 1) w h.dev (size_block 1) (by rw [hi.len]; omega) hdn (by have := hi.held; omega)
      rw [DS.wr_no hg] at K
      refine K.mono fun e w' p => ?_
      obtain ⟨D', hb, he, hs⟩ := h.step (h.ok.flags _ _ _ _) p
      refine ⟨D', _, hb, he, hs, ⟨hi.armed, ?_, ?_, by simp, by have := hi.held; simp; omega, hi.len⟩⟩
      · rw [hmin.2, ← hmin.1]; simpa using hi.ops
      · rw [hmin.2]; have := hi.left; rw [hmin.1] at this; exact this
    · have hdn : S.down = true := by rw [hi.down]; simp; omega
      have K := write_down D S i 1 (block 1) w h.dev (size_block 1) (by rw [hi.len]; omega) hdn
      refine K.mono ?_
      rintro e w' ⟨he, rfl⟩
      refine ⟨D, S, rfl, he, h, ⟨hi.armed, ?_, ?_, by rw [hi.down]; simp; omega, by have := hi.held; omega, hi.len⟩⟩
      · rw [hmin.2, hi.ops, hmin.1]
      · rw [hmin.2, hi.left, hmin.1]

theorem arms_flush {W w : World} {D : DH} {S : DS} {k i : Nat} (h : Solo W w D S) (hi : ArmsInv k i S) (hk : k ≤ 30) (hi2 : i < 40) :
    Calls Try.prog 17 #[.pointer (some ⟨D.b, 0, none⟩)] w fun e w' => ∃ D' S', D'.b = D.b ∧ e = .returned (.int .i64 (if i < k then 0 else 41)) ∧ Solo W w' D' S' ∧ ArmsInv k (i + 1) S' := by
  have K := flush_any D S w h.dev (fun x hx => (h.ok.held x hx).1) (by have := hi.held; omega)
  by_cases hlt : i < k
  · rw [if_pos hlt]
    obtain ⟨q1, q2, q3⟩ := arms_goes_next hi hk hlt
    have hg : S.goes = true := by rw [hi.goes]; simpa using hlt
    unfold DS.flush at K
    rw [if_pos hg, if_pos hg] at K
    refine K.mono fun e w' p => ?_
    obtain ⟨D', hb, he, hs⟩ := h.step (h.ok.flags _ _ _ _).settle p
    obtain ⟨s1, s2, s3, s4, s5⟩ := settle_same { S with left := wrap64 (S.left - 1), ops := wrap64 (S.ops + 1) }
    exact ⟨D', _, hb, he, hs, ⟨s2.trans hi.armed, s1.trans q2, s3.trans q1, s4.trans q3, by rw [settle_held]; simp, s5.trans hi.len⟩⟩
  · rw [if_neg hlt]
    have hmin : min i k = k ∧ min (i + 1) k = k := by omega
    have hg : ¬ S.goes = true := by rw [hi.goes]; simpa using hlt
    unfold DS.flush at K
    rw [if_neg hg, if_neg hg] at K
    refine K.mono fun e w' p => ?_
    obtain ⟨D', hb, he, hs⟩ := h.step (h.ok.flags _ _ _ _) p
    refine ⟨D', _, hb, he, hs, ⟨hi.armed, ?_, ?_, by simp; omega, by have := hi.held; simp; omega, hi.len⟩⟩
    · rw [hmin.2, ← hmin.1]; exact hi.ops
    · rw [hmin.2]; have := hi.left; rw [hmin.1] at this; exact this

theorem arms_look_up {W w : World} {D : DH} {S : DS} {k j : Nat} (h : Solo W w D S) (hi : ArmsInv k (j + 1) S) (hjk : j < k) :
    (Calls Try.prog 20 #[.pointer (some ⟨D.b, 0, none⟩)] w fun e w' => e = .returned (.bool false) ∧ w = w') ∧
    (Calls Try.prog 16 #[.pointer (some ⟨D.b, 0, none⟩), .int .i64 0, .int .i64 1] w fun e w' => (∃ s, e = .returned (.tuple #[.string s, .int .i64 0])) ∧ Below w.heap.size w w') := by
  have hdn : S.down = false := by rw [hi.down]; simp; omega
  have K := down_any D S w h.dev
  rw [hdn] at K
  refine ⟨K, (read_ok D S 0 1 w h.dev h.ok (by rw [hi.len]; omega) hdn).mono ?_⟩
  rintro e w' ⟨he, hb⟩
  exact ⟨⟨_, he⟩, hb⟩
theorem arms_look_down {W w : World} {D : DH} {S : DS} {k j : Nat} (h : Solo W w D S) (hi : ArmsInv k (j + 1) S) (hjk : k ≤ j) :
    (Calls Try.prog 20 #[.pointer (some ⟨D.b, 0, none⟩)] w fun e w' => e = .returned (.bool true) ∧ w = w') ∧
    (Calls Try.prog 16 #[.pointer (some ⟨D.b, 0, none⟩), .int .i64 0, .int .i64 1] w fun e w' => e = .returned (.tuple #[.string ⟨#[]⟩, .int .i64 41]) ∧ w = w') := by
  have hdn : S.down = true := by rw [hi.down]; simp; omega
  have K := down_any D S w h.dev
  rw [hdn] at K
  exact ⟨K, read_down D S 0 1 w h.dev (by rw [hi.len]; omega) hdn⟩

set_option maxHeartbeats 1000000 in
theorem arms_walk (a0 a1 : Int) (w : World) :
    Calls Try.prog 5 #[.int .i64 a0, .int .i64 a1] w fun e w' => e = .returned (.bool true) ∧ Below w.heap.size w w' := by
  have K1 := Lib.hid (mod_any a0 30 w (by omega) (by omega))
  have K2 := Lib.hid (mod_any a1 40 w (by omega) (by omega))
  have K3 := Lib.hid (new_yes 64 w (by omega) (by omega))
  go_enter Try.func5, Try.ntmps5
  go_wp2_with fail
  refine K1.out.mono ?_
  rintro e w1 ⟨rfl, rfl⟩
  go_wp2_with fail
  refine K2.out.mono ?_
  rintro e w1 ⟨rfl, rfl⟩
  obtain ⟨k, hk⟩ : ∃ k : Nat, a0 % 30 = k := ⟨(a0 % 30).toNat, by omega⟩
  obtain ⟨m, hm⟩ : ∃ m : Nat, a1 % 40 = m := ⟨(a1 % 40).toNat, by omega⟩
  have hk30 : k < 30 := by omega
  have hm40 : m < 40 := by omega
  rw [hk, hm]
  clear hk hm
  go_wp2_with fail
  refine K3.out.mono ?_
  rintro e w1 ⟨D, rfl, hD, hu1, hF1⟩
  have hs1 : Solo w w1 D (DS.fresh 64) := Solo.of_new (Below.refl _ _) hD (DS.fresh_ok 64) hu1 hF1
  have K4 := Lib.hid (arm_any D (DS.fresh 64) k w1 hD)
  have HS1 := Lib.hid hs1
  clear hD hs1 hu1 hF1
  go_wp2_with fail
  refine K4.out.mono ?_
  rintro e w2 ⟨rfl, hD2, hu2⟩
  have hs2 : Solo w w2 D { DS.fresh 64 with armed := true, left := max (k : Int) 0 } := ⟨hD2, (DS.fresh_ok 64).flags _ _ _ _, HS1.out.new, HS1.out.below.trans (hu2.below HS1.out.below.size (fun j hj => HS1.out.new j (Or.inl hj)))⟩
  have hi2 : ArmsInv k 0 { DS.fresh 64 with armed := true, left := max (k : Int) 0 } := ⟨rfl, by simp [DS.fresh], by simp, by simp [DS.fresh], by simp [DS.fresh], by simp [DS.fresh]⟩
  have HS2 := Lib.hid hs2
  have HI2 := Lib.hid hi2
  clear hD2 hs2 hu2 hi2
  go_wp2_with fail
  go_loopw [9] (fun i wr => ∃ (j : Nat) (D' : DH) (S' : DS), j ≤ m ∧ i = .int .i64 j ∧ D'.b = D.b ∧ Solo w wr D' S' ∧ ArmsInv k j S') (fun i _ => m - (intOf i).toNat)
  case atStart => exact ⟨0, D, _, by omega, rfl, rfl, HS2.out, HI2.out⟩
  case round =>
    obtain ⟨j, D', S', hj, rfl, hb, hs, hi⟩ := hrel
    have HB := Lib.hid hb
    by_cases hlt : j < m
    · by_cases h3 : j % 3 = 2
      · have K5 := arms_flush hs hi (by omega) (by omega)
        rw [hb] at K5
        have K5 := Lib.hid K5
        have t1 : ((j : Int) % 3 == 2) = true := by simp; omega
        clear hb hs hi h3
        go_wp2_with fail
        refine K5.out.mono ?_
        rintro e w2 ⟨D2, S2, hb2, rfl, hs2, hi2⟩
        by_cases hjk : j < k
        · have K6 := arms_look_up hs2 hi2 hjk
          rw [if_pos hjk]
          rw [hb2] at K6
          have K6 := Lib.hid K6
          have HN := Lib.hid (And.intro hb2 (And.intro hs2 hi2))
          clear hb2 hs2 hi2
          go_wp2_with fail
          refine K6.out.1.mono ?_
          rintro e w3 ⟨rfl, rfl⟩
          go_wp2_with fail
          refine K6.out.2.mono ?_
          rintro e w3 ⟨⟨s, rfl⟩, hb3⟩
          have K7 := (arms_look_up (HN.out.2.1.quiet hb3) HN.out.2.2 hjk).1
          rw [HN.out.1] at K7
          have K7 := Lib.hid K7
          go_wp2_with fail
          refine K7.out.mono ?_
          rintro e w4 ⟨rfl, rfl⟩
          go_wp2_with fail
          go_roundw
          case rel => exact ⟨j + 1, D2, S2, by omega, by go_num, HN.out.1, HN.out.2.1.quiet hb3, HN.out.2.2⟩
          case measure => simp [intOf]; omega
        · have K6 := arms_look_down hs2 hi2 (by omega)
          rw [if_neg hjk]
          rw [hb2] at K6
          have K6 := Lib.hid K6
          have HN := Lib.hid (And.intro hb2 (And.intro hs2 hi2))
          clear hb2 hs2 hi2
          go_wp2_with fail
          refine K6.out.1.mono ?_
          rintro e w3 ⟨rfl, rfl⟩
          go_wp2_with fail
          refine K6.out.2.mono ?_
          rintro e w3 ⟨rfl, rfl⟩
          go_wp2_with fail
          refine K6.out.1.mono ?_
          rintro e w3 ⟨rfl, rfl⟩
          go_wp2_with fail
          go_roundw
          case rel => exact ⟨j + 1, D2, S2, by omega, by go_num, HN.out.1, HN.out.2.1, HN.out.2.2⟩
          case measure => simp [intOf]; omega
      · have K4 := Lib.hid (block_any 1 (by omega) wr)
        have t1 : ((j : Int) % 3 == 2) = false := by simp; omega
        have HS := Lib.hid hs
        have HI := Lib.hid hi
        clear hb hs hi h3
        go_wp2_with fail
        refine K4.out.mono ?_
        rintro e w1' ⟨rfl, hb1⟩
        have K5 := arms_write (HS.out.quiet hb1) HI.out (by omega) (by omega)
        rw [HB.out] at K5
        have K5 := Lib.hid K5
        go_wp2_with fail
        refine K5.out.mono ?_
        rintro e w2 ⟨D2, S2, hb2, rfl, hs2, hi2⟩
        by_cases hjk : j < k
        · have K6 := arms_look_up hs2 hi2 hjk
          rw [if_pos hjk]
          rw [hb2] at K6
          have K6 := Lib.hid K6
          have HN := Lib.hid (And.intro hb2 (And.intro hs2 hi2))
          clear hb2 hs2 hi2
          go_wp2_with fail
          refine K6.out.1.mono ?_
          rintro e w3 ⟨rfl, rfl⟩
          go_wp2_with fail
          refine K6.out.2.mono ?_
          rintro e w3 ⟨⟨s, rfl⟩, hb3⟩
          have K7 := (arms_look_up (HN.out.2.1.quiet hb3) HN.out.2.2 hjk).1
          rw [HN.out.1] at K7
          have K7 := Lib.hid K7
          go_wp2_with fail
          refine K7.out.mono ?_
          rintro e w4 ⟨rfl, rfl⟩
          go_wp2_with fail
          go_roundw
          case rel => exact ⟨j + 1, D2, S2, by omega, by go_num, HN.out.1, HN.out.2.1.quiet hb3, HN.out.2.2⟩
          case measure => simp [intOf]; omega
        · have K6 := arms_look_down hs2 hi2 (by omega)
          rw [if_neg hjk]
          rw [hb2] at K6
          have K6 := Lib.hid K6
          have HN := Lib.hid (And.intro hb2 (And.intro hs2 hi2))
          clear hb2 hs2 hi2
          go_wp2_with fail
          refine K6.out.1.mono ?_
          rintro e w3 ⟨rfl, rfl⟩
          go_wp2_with fail
          refine K6.out.2.mono ?_
          rintro e w3 ⟨rfl, rfl⟩
          go_wp2_with fail
          refine K6.out.1.mono ?_
          rintro e w3 ⟨rfl, rfl⟩
          go_wp2_with fail
          go_roundw
          case rel => exact ⟨j + 1, D2, S2, by omega, by go_num, HN.out.1, HN.out.2.1, HN.out.2.2⟩
          case measure => simp [intOf]; omega
    · have hj' : j = m := by omega
      subst hj'
      have K8 := ops_any D' S' wr hs.dev
      rw [hb, hi.ops] at K8
      have K8 := Lib.hid K8
      have K9 := crash_any D' S' [] none 0 wr hs.dev hs.ok (by have := hi.held; omega) (by simp) (fun j hj => by simp at hj)
      rw [hb] at K9
      have K9 := Lib.hid K9
      have HS := Lib.hid hs
      have HI := Lib.hid hi
      clear hb hs hi hlt hj
      go_wp2_with fail
      refine K8.out.mono ?_
      rintro e w2 ⟨rfl, rfl⟩
      go_wp2_with fail
      refine K9.out.mono ?_
      rintro e w2 p
      obtain ⟨D2, hb2, he, hs2⟩ := HS.out.step (HS.out.ok.crash []) p
      subst he
      have e1 : (S'.crash []).ops = (min j k : Nat) := (crash_ops _ _).trans HI.out.ops
      have e2 : (S'.crash []).safe.length = 64 := (crash_len _ _).trans HI.out.len
      obtain ⟨T, hT⟩ : ∃ T, S'.crash [] = T := ⟨_, rfl⟩
      have e3 : T.down = false := by rw [← hT]; rfl
      have e4 : T.armed = false := by rw [← hT]; rfl
      have e5 : T.held.length = 0 := by rw [← hT]; rfl
      rw [hT] at e1 e2 hs2
      have K10 := down_any D2 T w2 hs2.dev
      rw [e3, hb2.trans HB.out] at K10
      have K10 := Lib.hid K10
      have hg : T.goes = true := by unfold DS.goes; rw [e3, e4]; rfl
      have K11 := flush_any D2 T w2 hs2.dev (fun x hx => (hs2.ok.held x hx).1) (by omega)
      rw [if_pos hg, hb2.trans HB.out] at K11
      unfold DS.flush at K11
      rw [if_pos hg] at K11
      have K11 := Lib.hid K11
      obtain ⟨s1, s2, s3, s4, s5⟩ := settle_same { T with left := wrap64 (T.left - 1), ops := wrap64 (T.ops + 1) }
      have ho := (hs2.ok.flags (wrap64 (T.ops + 1)) (wrap64 (T.left - 1)) T.armed T.down).settle
      have g1 := s1.trans (show wrap64 (T.ops + 1) = ((min j k : Nat) : Int) + 1 by rw [e1]; unfold wrap64; omega)
      have g2 := s4.trans e3
      have g3 := s5.trans e2
      obtain ⟨U, hU⟩ : ∃ U, DS.settle { T with left := wrap64 (T.left - 1), ops := wrap64 (T.ops + 1) } = U := ⟨_, rfl⟩
      rw [hU] at K11 ho g1 g2 g3
      have hH : U.held.length = 0 := by rw [← hU]; rfl
      have HS2 := Lib.hid hs2
      have HB2 := Lib.hid (hb2.trans HB.out)
      have HO := Lib.hid (And.intro ho (And.intro g1 (And.intro g2 (And.intro g3 hH))))
      have hmin : ((min (k : Int) (j : Int)) = ((min j k : Nat) : Int)) := by omega
      clear p e1 e2 e3 e4 e5 hT hg s1 s2 s3 s4 s5 ho g1 g2 g3 hU hH hb2 hs2
      go_wp2_with fail
      refine K10.out.mono ?_
      rintro e w3 ⟨rfl, rfl⟩
      go_wp2_with fail
      refine K11.out.mono ?_
      rintro e w3 p
      obtain ⟨D3, hb3, he, hs3⟩ := HS2.out.step HO.out.1 p
      subst he
      have K12 := write_ok D3 U 0 0 ⟨#[]⟩ w3 hs3.dev rfl (by rw [HO.out.2.2.2.1]; omega) HO.out.2.2.1 (by rw [HO.out.2.2.2.2]; omega)
      rw [hb3.trans HB2.out] at K12
      have K12 := Lib.hid K12
      have HS3 := Lib.hid hs3
      have HB3 := Lib.hid (hb3.trans HB2.out)
      clear p hb3 hs3
      go_wp2_with fail
      refine K12.out.mono ?_
      rintro e w4 p
      obtain ⟨D4, hb4, he, hs4⟩ := HS3.out.step HO.out.1 p
      subst he
      have K13 := ops_any D4 U w4 hs4.dev
      rw [hb4.trans HB3.out, HO.out.2.1] at K13
      have K13 := Lib.hid K13
      have K14 := Lib.hid (wakes_any w4)
      have HS4 := Lib.hid hs4
      clear p hb4 hs4
      go_wp2_with fail
      refine K13.out.mono ?_
      rintro e w5 ⟨rfl, rfl⟩
      go_wp2_with fail
      refine K14.out.mono ?_
      rintro e w5 ⟨rfl, hb5⟩
      go_wp2_with fail
      go_ret
      exact ⟨by simp, HS4.out.below.trans (hb5.mono HS4.out.below.size)⟩

end Go.Proofs.Ytojcoambodedbaa
