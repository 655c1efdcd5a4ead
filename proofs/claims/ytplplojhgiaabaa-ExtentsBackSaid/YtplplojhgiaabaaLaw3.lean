/- Plain laws: what gather makes; the program's answer is the page's. -/
import Derived.Test.YtplplojhgiaabaaLaw2
set_option linter.unusedVariables false
set_option linter.unusedSimpArgs false
set_option linter.unnecessarySimpa false
namespace Go.Proofs.Ytplplojhgiaabaa

structure Upto (f : Nat → Int) (n : Nat) : Prop where
  ch : Ch (gatherF f n)
  look : ∀ j : Int, look (gatherF f n) j = if 0 ≤ j ∧ j < n ∧ f j.toNat ≠ 0 then some (f j.toNat - 1) else none
  last : ∀ (o : List X) (p : X), gatherF f n = o ++ [p] → p.lba + p.num ≤ n ∧ (p.lba + p.num = n → 0 < n ∧ 0 < f (n - 1) ∧ p.pos + p.num = f (n - 1)) ∧ (0 < n → 0 < f (n - 1) → p.lba + p.num = n)

theorem snoc_inj {o o' : List X} {p p' : X} (h : o ++ [p] = o' ++ [p']) : o = o' ∧ p = p' := by
  have := List.append_inj' h rfl
  exact ⟨this.1, by simpa using this.2⟩

theorem upto (f : Nat → Int) (hf : ∀ i, 0 ≤ f i ∧ f i ≤ 8192) : ∀ n, n ≤ 4096 → Upto f n := by
  intro n
  induction n with
  | zero =>
    intro _
    refine ⟨trivial, fun j => ?_, fun o p h => by simp [gatherF] at h⟩
    rw [if_neg (by omega)]
    rfl
  | succ n ih =>
    intro hn
    have h := ih (by omega)
    have hfn := hf n
    have hlook : ∀ j : Int, j ≠ n → (if 0 ≤ j ∧ j < (n : Int) ∧ f j.toNat ≠ 0 then some (f j.toNat - 1) else none) = (if 0 ≤ j ∧ j < ((n + 1 : Nat) : Int) ∧ f j.toNat ≠ 0 then some (f j.toNat - 1) else none) := by
      intro j hj
      by_cases e : 0 ≤ j ∧ j < (n : Int) ∧ f j.toNat ≠ 0
      · rw [if_pos e, if_pos ⟨e.1, by omega, e.2.2⟩]
      · rw [if_neg e, if_neg (fun e' => e ⟨e'.1, by omega, e'.2.2⟩)]
    have hnone : look (gatherF f n) n = none := by
      rw [h.look, if_neg (by omega)]
    by_cases hz : f n = 0
    · have hg : gatherF f (n + 1) = gatherF f n := by rw [gatherF, if_pos hz]
      refine ⟨by rw [hg]; exact h.ch, fun j => ?_, fun o p ho => ?_⟩
      · rw [hg]
        by_cases e : j = n
        · subst e
          rw [hnone, if_neg (by simp [hz])]
        · rw [h.look, hlook j e]
      · rw [hg] at ho
        have h1 := h.last o p ho
        simp only [Nat.add_sub_cancel]
        refine ⟨by omega, fun e => by omega, fun _ h0 => by omega⟩
    · by_cases hr : Runs f n
      · obtain ⟨r1, r2, r3⟩ := hr
        obtain ⟨k, rfl⟩ : ∃ k, n = k + 1 := ⟨n - 1, by omega⟩
        simp only [Nat.add_sub_cancel] at r2 r3
        rcases List.eq_nil_or_concat (gatherF f (k + 1)) with h0 | ⟨o, p, ho⟩
        · exact absurd h0 (gather_ne f k r2)
        rw [List.concat_eq_append] at ho
        have hg : gatherF f (k + 1 + 1) = o ++ [⟨p.lba, p.num + 1, p.pos⟩] := by
          rw [gatherF, if_neg hz, if_pos ⟨r1, by simpa using r2, by simpa using r3⟩, ho, bump_snoc]
        have hl := h.last o p ho
        simp only [Nat.add_sub_cancel] at hl
        have hend := hl.2.2 (by omega) r2
        have hpos := (hl.2.1 hend).2.2
        have hch := h.ch
        rw [ho] at hch
        have hc := ch_snoc.1 hch
        have hone := hc.2.1
        have hm : One ⟨p.lba, p.num + 1, p.pos⟩ := by
          unfold One at hone ⊢
          dsimp only
          omega
        refine ⟨by rw [hg]; exact ch_snoc.2 ⟨hc.1, hm, hc.2.2⟩, fun j => ?_, fun o' p' ho' => ?_⟩
        · have h1 := h.look j
          rw [ho, look_app, look_one] at h1
          rw [hg, look_app, look_one]
          dsimp only
          by_cases e : j = ((k + 1 : Nat) : Int)
          · subst e
            rw [ho, look_app, look_one] at hnone
            have h3 : look o ((k + 1 : Nat) : Int) = none := by
              cases hlo : look o ((k + 1 : Nat) : Int) with
              | none => rfl
              | some v => rw [hlo] at hnone; cases hnone
            unfold One at hone
            rw [h3, if_pos (by omega), if_pos ⟨by omega, by omega, by simpa using hz⟩]
            show some _ = some _
            congr 1
            simp only [Int.toNat_natCast]
            omega
          · rw [← hlook j e, ← h1]
            congr 1
            by_cases e1 : p.lba ≤ j ∧ j < p.lba + p.num
            · rw [if_pos e1, if_pos (by omega)]
            · rw [if_neg e1, if_neg (by omega)]
        · rw [hg] at ho'
          obtain ⟨_, rfl⟩ := snoc_inj ho'
          simp only [Nat.add_sub_cancel]
          refine ⟨by omega, fun _ => ⟨by omega, by omega, by omega⟩, fun _ _ => by omega⟩
      · have hg : gatherF f (n + 1) = gatherF f n ++ [⟨n, 1, f n - 1⟩] := by rw [gatherF, if_neg hz, if_neg hr]
        have hm : One ⟨n, 1, f n - 1⟩ := by
          unfold One
          dsimp only
          omega
        have hbe : ∀ p, (gatherF f n).getLast? = some p → Behind p ⟨n, 1, f n - 1⟩ := by
          intro p hp
          rcases List.eq_nil_or_concat (gatherF f n) with h0 | ⟨o, q, ho⟩
          · rw [h0] at hp; cases hp
          rw [List.concat_eq_append] at ho
          rw [ho] at hp
          simp at hp
          subst hp
          have hl := h.last o q ho
          refine ⟨hl.1, ?_⟩
          rintro ⟨h1, h2⟩
          dsimp only at h1 h2
          have h3 := hl.2.1 h1.symm
          exact hr ⟨h3.1, h3.2.1, by omega⟩
        refine ⟨by rw [hg]; exact ch_snoc.2 ⟨h.ch, hm, hbe⟩, fun j => ?_, fun o' p' ho' => ?_⟩
        · rw [hg, look_app, look_one]
          dsimp only
          by_cases e : j = n
          · subst e
            rw [hnone, if_pos (by omega), if_pos ⟨by omega, by omega, by simpa using hz⟩]
            show some _ = some _
            congr 1
            simp only [Int.toNat_natCast]
            omega
          · rw [if_neg (by omega), h.look, ← hlook j e]
            exact Option.or_none
        · rw [hg] at ho'
          obtain ⟨_, rfl⟩ := snoc_inj ho'
          simp only [Nat.add_sub_cancel]
          refine ⟨by omega, fun _ => ⟨by omega, by omega, by omega⟩, fun _ _ => by omega⟩

theorem gather_law (f : Nat → Int) (hf : ∀ i, 0 ≤ f i ∧ f i ≤ 8192) : Good (gatherF f 4096) ∧ ∀ j : Int, look (gatherF f 4096) j = if 0 ≤ j ∧ j < 4096 ∧ f j.toNat ≠ 0 then some (f j.toNat - 1) else none := by
  have h := upto f hf 4096 (Nat.le_refl _)
  exact ⟨good_iff.2 h.ch, fun j => h.look j⟩

theorem look_out {l : List X} (hg : Good l) {j : Int} (hj : ¬ (0 ≤ j ∧ j < 4096)) : look l j = none := by
  cases h : look l j with
  | none => rfl
  | some p => have := look_range hg h; omega

/-- Set, the program's and the page's. -/
theorem set_eq {l s : List X} {x : X} (hg : Good l) (ho : One x) (hp : s.Perm (x :: leftF x.lba (x.lba + x.num) l)) (hw : s.Pairwise (fun y z => y.lba ≤ z.lba)) : mergedF s = gatherF (setT x l) 4096 := by
  obtain ⟨g1, g2⟩ := set_law hg ho hp hw
  obtain ⟨k1, k2⟩ := gather_law (setT x l) (setT_bound hg ho)
  refine ch_unique _ _ (good_iff.1 g1) (good_iff.1 k1) fun j => ?_
  by_cases hj : 0 ≤ j ∧ j < 4096
  · obtain ⟨J, rfl⟩ : ∃ J : Nat, j = J := ⟨j.toNat, by omega⟩
    rw [g2, k2]
    unfold One at ho
    simp only [Int.toNat_natCast]
    by_cases e : x.lba ≤ (J : Int) ∧ (J : Int) < x.lba + x.num
    · have h1 : setT x l J = x.pos + J - x.lba + 1 := by unfold setT; rw [if_pos e]
      rw [if_pos e, if_pos ⟨by omega, by omega, by rw [h1]; omega⟩, h1]
      congr 1
      omega
    · have h1 : setT x l J = spreadF l J := by unfold setT; rw [if_neg e]
      rw [if_neg e, h1]
      unfold spreadF
      cases h : look l J with
      | none => simp
      | some p =>
        have := look_range hg h
        dsimp only
        rw [if_pos ⟨by omega, by omega, by omega⟩]
        congr 1
        omega
  · rw [look_out g1 hj, look_out k1 hj]
/-- Drop, the program's and the page's. -/
theorem drop_eq {l s : List X} {a m : Int} (hg : Good l) (hm : 0 ≤ m) (hp : s.Perm (leftF a (a + m) l)) (hw : s.Pairwise (fun y z => y.lba ≤ z.lba)) : mergedF s = gatherF (dropT a m l) 4096 := by
  obtain ⟨g1, g2⟩ := drop_law hg hm hp hw
  obtain ⟨k1, k2⟩ := gather_law (dropT a m l) (dropT_bound hg)
  refine ch_unique _ _ (good_iff.1 g1) (good_iff.1 k1) fun j => ?_
  by_cases hj : 0 ≤ j ∧ j < 4096
  · obtain ⟨J, rfl⟩ : ∃ J : Nat, j = J := ⟨j.toNat, by omega⟩
    rw [g2, k2]
    simp only [Int.toNat_natCast]
    by_cases e : a ≤ (J : Int) ∧ (J : Int) < a + m
    · have h1 : dropT a m l J = 0 := by unfold dropT; rw [if_pos e]
      rw [if_pos e, if_neg (by rw [h1]; simp)]
    · have h1 : dropT a m l J = spreadF l J := by unfold dropT; rw [if_neg e]
      rw [if_neg e, h1]
      unfold spreadF
      cases h : look l J with
      | none => simp
      | some p =>
        have := look_range hg h
        dsimp only
        rw [if_pos ⟨by omega, by omega, by omega⟩]
        congr 1
        omega
  · rw [look_out g1 hj, look_out k1 hj]
/-- Drop of no block. -/
theorem drop_none_eq {l : List X} {a : Int} (hg : Good l) : l = gatherF (dropT a 0 l) 4096 := by
  obtain ⟨k1, k2⟩ := gather_law (dropT a 0 l) (dropT_bound hg)
  refine ch_unique _ _ (good_iff.1 hg) (good_iff.1 k1) fun j => ?_
  by_cases hj : 0 ≤ j ∧ j < 4096
  · obtain ⟨J, rfl⟩ : ∃ J : Nat, j = J := ⟨j.toNat, by omega⟩
    rw [k2]
    simp only [Int.toNat_natCast]
    have h1 : dropT a 0 l J = spreadF l J := by unfold dropT; rw [if_neg (by omega)]
    rw [h1]
    unfold spreadF
    cases h : look l J with
    | none => simp
    | some p =>
      have := look_range hg h
      dsimp only
      rw [if_pos ⟨by omega, by omega, by omega⟩]
      congr 1
      omega
  · rw [look_out hg hj, look_out k1 hj]

end Go.Proofs.Ytplplojhgiaabaa
