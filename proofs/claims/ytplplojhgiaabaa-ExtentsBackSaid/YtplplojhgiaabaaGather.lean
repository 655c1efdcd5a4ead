/- gather: the extents of a table. -/
import Derived.Test.YtplplojhgiaabaaQ
import Derived.Test.YtplplojhgiaabaaM
set_option linter.unusedVariables false
set_option linter.unusedSimpArgs false
set_option linter.unnecessarySimpa false
namespace Go.Proofs.Ytplplojhgiaabaa
open Go.RowKit

/-- The last extent is one block longer. -/
def bump (o : List X) : List X := match o.getLast? with | none => [] | some p => o.dropLast ++ [⟨p.lba, p.num + 1, p.pos⟩]
theorem bump_snoc (o : List X) (p : X) : bump (o ++ [p]) = o ++ [⟨p.lba, p.num + 1, p.pos⟩] := by simp [bump]
/-- Block i goes on from the block ahead of it. -/
def Runs (f : Nat → Int) (i : Nat) : Prop := 0 < i ∧ 0 < f (i - 1) ∧ f i = f (i - 1) + 1
instance (f : Nat → Int) (i : Nat) : Decidable (Runs f i) := by unfold Runs; infer_instance
def gatherF (f : Nat → Int) : Nat → List X
  | 0 => []
  | i + 1 => if f i = 0 then gatherF f i else if Runs f i then bump (gatherF f i) else gatherF f i ++ [⟨i, 1, f i - 1⟩]

theorem bump_ne {o : List X} (h : o ≠ []) : bump o ≠ [] := by
  rcases List.eq_nil_or_concat o with rfl | ⟨o', p, rfl⟩
  · exact absurd rfl h
  · rw [List.concat_eq_append, bump_snoc]
    simp
theorem gather_ne (f : Nat → Int) (i : Nat) (h : 0 < f i) : gatherF f (i + 1) ≠ [] := by
  induction i with
  | zero =>
    rw [gatherF, if_neg (by omega)]
    rw [if_neg (by unfold Runs; omega)]
    simp
  | succ i ih =>
    rw [gatherF, if_neg (by omega)]
    split
    · rename_i hr
      exact bump_ne (ih (by have := hr.2.1; simpa using this))
    · simp
theorem gather_bound (f : Nat → Int) (hf : ∀ i, 0 ≤ f i ∧ f i ≤ 8192) (i : Nat) : (gatherF f i).length ≤ i ∧ ∀ p ∈ gatherF f i, 0 ≤ p.lba ∧ p.lba ≤ i ∧ 0 ≤ p.num ∧ p.num ≤ i ∧ -1 ≤ p.pos ∧ p.pos ≤ 8192 := by
  induction i with
  | zero => simp [gatherF]
  | succ i ih =>
    have hfi := hf i
    rw [gatherF]
    split
    · refine ⟨by omega, fun p hp => ?_⟩
      have := ih.2 p hp
      omega
    · split
      · generalize gatherF f i = o at ih
        rcases List.eq_nil_or_concat o with rfl | ⟨o', p, rfl⟩
        · simp [bump]
        · rw [List.concat_eq_append] at ih ⊢
          rw [bump_snoc]
          refine ⟨by have := ih.1; simp at this ⊢; omega, fun q hq => ?_⟩
          simp only [List.mem_append, List.mem_singleton] at hq
          rcases hq with hq | rfl
          · have := ih.2 q (by simp [hq])
            omega
          · have := ih.2 p (by simp)
            dsimp only
            omega
      · refine ⟨by have := ih.1; simp; omega, fun q hq => ?_⟩
        simp only [List.mem_append, List.mem_singleton] at hq
        rcases hq with hq | rfl
        · have := ih.2 q hq
          omega
        · dsimp only
          omega

theorem owns_len {W : World} {B n : Nat} {v : Value} {xs : List Value} (h : W.ownsRow B 32 3 v n xs) : ∃ a c, v = .slice a n c := by
  rcases h.2 with ⟨rfl, rfl⟩ | ⟨g, cap, cur, rfl, _⟩
  · exact ⟨_, _, rfl⟩
  · exact ⟨_, _, rfl⟩

set_option maxRecDepth 100000 in
set_option maxHeartbeats 4000000 in
theorem gather_any (f : Nat → Int) (hf : ∀ i, 0 ≤ f i ∧ f i ≤ 8192) (g : Nat) (w : World) (hT : Tab w g f) :
    Calls Try.prog 32 #[.slice (some ⟨g, 0, none⟩) 4096 4096] w fun e w' => ∃ v', e = .returned v' ∧ Lies w' v' (gatherF f 4096) ∧ Below w.heap.size w w' := by
  have hTh := Lib.hid hT
  have hfh := Lib.hid hf
  have hgl := hT.lt
  clear hT hf
  go_enter Try.func32, Try.ntmps32
  go_wp2
  go_loopw [4, 3] (fun i v wr => ∃ k : Nat, k ≤ 4096 ∧ i = .int .i64 k ∧ wr.ownsRow w.heap.size 32 3 v (gatherF f k).length (flat (gatherF f k)) ∧ (gatherF f k = [] → v = .slice none 0 0) ∧ Below w.heap.size w wr) (fun i _ _ => 4096 - (intOf i).toNat)
  case atStart => exact ⟨0, Nat.zero_le _, rfl, World.ownsRow_nil _ _ _ _, fun _ => rfl, Below.refl _ _⟩
  case round =>
    obtain ⟨k, hk, rfl, hown, hnil, hB⟩ := hrel
    have hBz := hB.size
    by_cases hlt : k < 4096
    · have hTk := (show Tab w g f from hTh).below hB hgl
      have c0 := hTk.cell hlt
      have hfk := hfh k
      have hbd := gather_bound f hfh k
      have hstep : gatherF f (k + 1) = if f k = 0 then gatherF f k else if Runs f k then bump (gatherF f k) else gatherF f k ++ [⟨k, 1, f k - 1⟩] := rfl
      have hown0 := hown
      by_cases hz : f k = 0
      · have hzb : (f k == 0) = true := by simp [hz]
        rw [if_pos hz] at hstep
        have hs' := Lib.hid hstep
        have ho' := Lib.hid hown
        have hn' := Lib.hid hnil
        have hTk' := Lib.hid hTk
        clear hz hstep hown hbd hnil hTk hTk'
        obtain ⟨va, vc, rfl⟩ := owns_len hown0
        obtain ⟨N, hN⟩ : ∃ N, (gatherF f k).length = N := ⟨_, rfl⟩
        rw [hN]
        have hNh := Lib.hid hN
        clear hN hown0
        generalize f k = fk at c0 hfk hzb
        go_wp2
        go_roundw
        case rel => exact ⟨k + 1, by omega, by simp, by rw [show gatherF f (k + 1) = _ from hs', ← (show (gatherF f k).length = N from hNh)]; exact ho', by rw [show gatherF f (k + 1) = _ from hs']; intro h; have := hn' h; rwa [show (gatherF f k).length = N from hNh] at this, hB⟩
        case measure => simp [intOf]; omega
      · have hzb : (f k == 0) = false := by simp [hz]
        rw [if_neg hz] at hstep
        by_cases hr : Runs f k
        · rw [if_pos hr] at hstep
          obtain ⟨r1, r2, r3⟩ := hr
          cases k with
          | zero => omega
          | succ j =>
            simp only [Nat.add_sub_cancel] at r2 r3
            have hne := gather_ne f j r2
            have cj := hTk.cell (show j < 4096 by omega)
            have hfj := hfh j
            rcases List.eq_nil_or_concat (gatherF f (j + 1)) with h0 | ⟨o, q, ho⟩
            · exact absurd h0 hne
            rw [List.concat_eq_append] at ho
            rw [ho, bump_snoc] at hstep
            rw [ho] at hown hbd
            have hq := hbd.2 q (by simp)
            have hol := hbd.1
            rw [List.length_append] at hol
            simp only [List.length_cons, List.length_nil] at hol
            have hs' := Lib.hid hstep
            clear hstep hne hbd hnil hTk ho hown0
            obtain ⟨M, hM⟩ : ∃ M, o.length = M := ⟨_, rfl⟩
            obtain ⟨g2, cap2, rfl, hlen2, hBg2, hg2, f0, f1, f2, ff⟩ := owns_facts hown
            rw [hM] at f0 f1 f2 ff hol hlen2
            rw [hlen2, hM] at hown
            rw [hM]
            have hown' := Lib.hid hown
            have hMh := Lib.hid hM
            clear hown hM hlen2
            obtain ⟨qa, qm, qp⟩ := q
            dsimp only at *
            obtain ⟨q1, q2, q3, q4, q5, q6⟩ := hq
            generalize f (j + 1) = fk at c0 hfk hzb r3 hz
            generalize f j = fj at cj hfj r2 r3
            have hr3 : (fk == fj + 1) = true := by simp [r3]
            have r3' := Lib.hid r3
            clear r3 hz
            go_wp2_with fail
            go_quiet (fail)
            have hW1 := below_drewN hB nq
            have hwo := owns_drewN hown' nq
            obtain ⟨W1, hW1e⟩ : ∃ W1, W1 = wr.drewN nq := ⟨_, rfl⟩
            have f1' : W1.cell? ⟨g2, M * 3 + 1, none⟩ = some (.int .i64 qm) := by rw [hW1e]; exact f1
            have ff' : W1.frozen? ⟨g2, M * 3 + 1, none⟩ = false := by rw [hW1e]; exact ff
            rw [← hW1e] at hW1 hwo ⊢
            clear hW1e f0 f1 f2 ff c0 cj
            have hset := owns_set (qm + 1) hwo
            rw [show o.length = M from hMh] at hset
            have hset' := Lib.hid hset
            clear hset hwo
            have hW2 := hW1.setCell (p := ⟨g2, M * 3 + 1, none⟩) hBg2 (.int .i64 (qm + 1))
            go_wp2
            go_roundw
            case rel =>
              refine ⟨j + 2, by omega, by simp; omega, ?_, fun h => ?_, hW2⟩
              · rw [show gatherF f (j + 2) = _ from hs', show (o ++ [⟨qa, qm + 1, qp⟩] : List X).length = M + 1 by simp [show o.length = M from hMh]]
                exact hset'
              · rw [show gatherF f (j + 2) = _ from hs'] at h
                simp at h
            case measure => simp [intOf]; omega
        · rw [if_neg hr] at hstep
          have hs' := Lib.hid hstep
          have ho' := Lib.hid hown
          have hn' := Lib.hid hnil
          obtain ⟨va, vc, rfl⟩ := owns_len hown0
          obtain ⟨N, hN⟩ : ∃ N, (gatherF f k).length = N := ⟨_, rfl⟩
          rw [hN] at ho' hbd
          rw [hN]
          have hNh := Lib.hid hN
          have hN4 : N ≤ 4096 := by have := hbd.1; omega
          cases k with
          | zero =>
            clear hstep hown hbd hnil hTk hN hown0 hr hn'
            generalize hfk0 : f 0 = fk at c0 hfk hzb hz
            have hfk1 := Lib.hid hfk0
            clear hfk0
            rw [show f 0 = fk from hfk1] at hs'
            go_wp2_with fail
            go_quiet (fail)
            have hW1 := below_drewN hB nq
            have hwo := Lib.hid (owns_drewN ho' nq)
            obtain ⟨W1, hW1e⟩ : ∃ W1, W1 = wr.drewN nq := ⟨_, rfl⟩
            have hcW : W1.cell? ⟨g, 0, none⟩ = some (.int .i64 fk) := by rw [hW1e]; exact c0
            rw [← hW1e] at hW1 hwo ⊢
            clear hW1e
            have hW1z := hW1.size
            go_wp2_with (at_builtin; refine push_row 0 1 (fk - 1) hwo hW1z (by omega) rfl (.tmp 14) (.tmp 22) rfl rfl rfl ?_; intro v' w' hown2 hb2)
            go_roundw
            case rel =>
              refine ⟨0 + 1, by omega, by simp, ?_, fun h => ?_, hW1.trans hb2⟩
              · rw [show gatherF f (0 + 1) = _ from hs', List.length_append, flat_append _ [_], flat_one, show (gatherF f 0).length = N from hNh]
                exact hown2
              · rw [show gatherF f (0 + 1) = _ from hs'] at h
                simp at h
            case measure => simp [intOf]
          | succ j =>
            have cj := hTk.cell (show j < 4096 by omega)
            have hfj := hfh j
            have hr' : ¬ (0 < f j ∧ f (j + 1) = f j + 1) := fun h => hr ⟨by omega, by simpa using h.1, by simpa using h.2⟩
            clear hstep hown hbd hnil hTk hN hown0 hr hn'
            generalize hfk0 : f (j + 1) = fk at c0 hfk hzb hr' hz
            have hfk1 := Lib.hid hfk0
            clear hfk0
            rw [show f (j + 1) = fk from hfk1] at hs'
            generalize f j = fj at cj hfj hr'
            by_cases r2 : 0 < fj
            · have r3 : (fk == fj + 1) = false := by
                simp only [beq_eq_false_iff_ne, ne_eq]
                exact fun h => hr' ⟨r2, h⟩
              clear hr'
              go_wp2_with fail
              go_quiet (fail)
              have hW1 := below_drewN hB nq
              have hwo := Lib.hid (owns_drewN ho' nq)
              obtain ⟨W1, hW1e⟩ : ∃ W1, W1 = wr.drewN nq := ⟨_, rfl⟩
              have hcW : W1.cell? ⟨g, (j + 1), none⟩ = some (.int .i64 fk) := by rw [hW1e]; exact c0
              rw [← hW1e] at hW1 hwo ⊢
              clear hW1e
              have hW1z := hW1.size
              go_wp2_with (at_builtin; refine push_row ((j : Int) + 1) 1 (fk - 1) hwo hW1z (by omega) rfl (.tmp 14) (.tmp 22) rfl rfl rfl ?_; intro v' w' hown2 hb2)
              go_roundw
              case rel =>
                refine ⟨(j + 1) + 1, by omega, by simp, ?_, fun h => ?_, hW1.trans hb2⟩
                · rw [show gatherF f (j + 1 + 1) = _ from hs', List.length_append, flat_append _ [_], flat_one, show (gatherF f (j + 1)).length = N from hNh]
                  exact hown2
                · rw [show gatherF f (j + 1 + 1) = _ from hs'] at h
                  simp at h
              case measure => simp [intOf]; omega
            · have r3 : decide (0 < fj) = false := by simp [r2]
              clear hr'
              go_wp2_with fail
              go_quiet (fail)
              have hW1 := below_drewN hB nq
              have hwo := Lib.hid (owns_drewN ho' nq)
              obtain ⟨W1, hW1e⟩ : ∃ W1, W1 = wr.drewN nq := ⟨_, rfl⟩
              have hcW : W1.cell? ⟨g, (j + 1), none⟩ = some (.int .i64 fk) := by rw [hW1e]; exact c0
              rw [← hW1e] at hW1 hwo ⊢
              clear hW1e
              have hW1z := hW1.size
              go_wp2_with (at_builtin; refine push_row ((j : Int) + 1) 1 (fk - 1) hwo hW1z (by omega) rfl (.tmp 14) (.tmp 22) rfl rfl rfl ?_; intro v' w' hown2 hb2)
              go_roundw
              case rel =>
                refine ⟨(j + 1) + 1, by omega, by simp, ?_, fun h => ?_, hW1.trans hb2⟩
                · rw [show gatherF f (j + 1 + 1) = _ from hs', List.length_append, flat_append _ [_], flat_one, show (gatherF f (j + 1)).length = N from hNh]
                  exact hown2
                · rw [show gatherF f (j + 1 + 1) = _ from hs'] at h
                  simp at h
              case measure => simp [intOf]; omega
    · obtain rfl : k = 4096 := by omega
      have hli := lies_owned hown
      have hli' := Lib.hid hli
      obtain ⟨va, vc, rfl⟩ := owns_len hown
      generalize (gatherF f 4096).length = N at hli' ⊢
      clear hown hnil hli
      go_wp2
      go_ret
      exact ⟨_, rfl, hli', hB⟩

end Go.Proofs.Ytplplojhgiaabaa
