/- merged: sorted, then run together. -/
import Derived.Deep.RegionLaw
import Derived.Test.YtplplojhgiaabaaI
set_option linter.unusedVariables false
set_option linter.unusedSimpArgs false
set_option linter.unnecessarySimpa false
namespace Go.Proofs.Ytplplojhgiaabaa
open Go.RowKit Go.Sort Go.Lib Go.Shelf

/-- y stands right behind p, in the blocks and in the sectors. -/
def Joins (p y : X) : Prop := p.lba + p.num = y.lba ∧ p.pos + p.num = y.pos
instance (p y : X) : Decidable (Joins p y) := by unfold Joins; infer_instance

/-- One more extent behind those that are run together. -/
def push (o : List X) (y : X) : List X :=
  match o.getLast? with
  | none => [y]
  | some p => if Joins p y then o.dropLast ++ [⟨p.lba, p.num + y.num, p.pos⟩] else o ++ [y]
def mergedF (l : List X) : List X := l.foldl push []

theorem push_nil (y : X) : push [] y = [y] := rfl
theorem push_snoc (o : List X) (p y : X) : push (o ++ [p]) y = if Joins p y then o ++ [⟨p.lba, p.num + y.num, p.pos⟩] else o ++ [p] ++ [y] := by
  simp [push]
theorem push_ne (o : List X) (y : X) : push o y ≠ [] := by
  rcases List.eq_nil_or_concat o with rfl | ⟨o', p, rfl⟩
  · simp [push_nil]
  · rw [List.concat_eq_append, push_snoc]
    split <;> simp
theorem mergedF_take {l : List X} {k : Nat} {x : X} (hx : l[k]? = some x) : mergedF (l.take (k + 1)) = push (mergedF (l.take k)) x := by
  rw [take_succ_of hx]
  simp [mergedF]

/-- What an extent of the program's bears, no wild number. -/
def Tame (x : X) : Prop := 0 ≤ x.lba ∧ x.lba ≤ 8192 ∧ 0 ≤ x.num ∧ x.num ≤ 8192 ∧ 0 ≤ x.pos ∧ x.pos ≤ 16384

theorem push_length (o : List X) (y : X) : (push o y).length ≤ o.length + 1 := by
  rcases List.eq_nil_or_concat o with rfl | ⟨o', p, rfl⟩
  · simp [push_nil]
  · rw [List.concat_eq_append, push_snoc]
    split <;> simp
theorem mergedF_bound {l : List X} (hl : ∀ (k : Nat) (x : X), l[k]? = some x → Tame x) (k : Nat) : (mergedF (l.take k)).length ≤ k ∧ ∀ p ∈ mergedF (l.take k), 0 ≤ p.lba ∧ p.lba ≤ 8192 ∧ 0 ≤ p.num ∧ p.num ≤ k * 8192 ∧ 0 ≤ p.pos ∧ p.pos ≤ 16384 := by
  induction k with
  | zero => simp [mergedF]
  | succ k ih =>
    by_cases hk : k < l.length
    · have hx : l[k]? = some l[k] := List.getElem?_eq_getElem hk
      have ht := hl k _ hx
      unfold Tame at ht
      rw [mergedF_take hx]
      refine ⟨Nat.le_trans (push_length _ _) (by omega), ?_⟩
      generalize mergedF (l.take k) = o at ih
      generalize l[k] = y at ht
      intro q hq
      rcases List.eq_nil_or_concat o with rfl | ⟨o', p, rfl⟩
      · rw [push_nil] at hq
        simp only [List.mem_singleton] at hq
        subst hq
        omega
      · rw [List.concat_eq_append] at ih hq
        have hp := ih.2 p (by simp)
        rw [push_snoc] at hq
        split at hq
        · simp only [List.mem_append, List.mem_singleton] at hq
          rcases hq with hq | rfl
          · have := ih.2 q (by simp [hq]); omega
          · dsimp only; omega
        · simp only [List.mem_append, List.mem_singleton] at hq
          rcases hq with (hq | rfl) | rfl
          · have := ih.2 q (by simp [hq]); omega
          · omega
          · omega
    · rw [List.take_of_length_le (by omega)]
      rw [List.take_of_length_le (by omega)] at ih
      refine ⟨by omega, fun p hp => ?_⟩
      have := ih.2 p hp
      omega

theorem set_flat (o : List X) (p : X) (q : Int) : (flat (o ++ [p])).set (o.length * 3 + 1) (.int .i64 q) = flat (o ++ [⟨p.lba, q, p.pos⟩]) := by
  rw [flat_append, flat_append, flat_one, flat_one, List.set_append_right _ _ (by rw [flat_length]; omega), flat_length]
  congr 1
  rw [show o.length * 3 + 1 - o.length * 3 = 1 by omega]
  rfl

theorem owns_set {W : World} {B g n cap : Nat} {o : List X} {p : X} (q : Int) (h : W.ownsRow B 32 3 (.slice (some ⟨g, 0, none⟩) n cap) n (flat (o ++ [p]))) :
    (W.setCell ⟨g, o.length * 3 + 1, none⟩ (.int .i64 q)).ownsRow B 32 3 (.slice (some ⟨g, 0, none⟩) n cap) n (flat (o ++ [⟨p.lba, q, p.pos⟩])) := by
  have hl := h.1
  refine ⟨by rw [← hl, flat_length, flat_length]; simp, ?_⟩
  rcases h.2 with ⟨h0, _⟩ | ⟨g', cap', cur, hv, hb, hg, hn, hm, hs, ht⟩
  · cases h0
  · cases hv
    refine .inr ⟨g, cap, cur.setIfInBounds (o.length * 3 + 1) (.int .i64 q), rfl, hb, ?_, hn, hm, by simp [hs], ?_⟩
    · simp [World.setCell, Array.getElem?_modify, hg]
    · rw [← set_flat, ← ht, Array.toList_setIfInBounds, List.take_set]

theorem owns_facts {W : World} {B n : Nat} {v : Value} {o : List X} {p : X} (h : W.ownsRow B 32 3 v n (flat (o ++ [p]))) : ∃ g cap, v = .slice (some ⟨g, 0, none⟩) (o.length + 1) cap ∧ n = o.length + 1 ∧ B ≤ g ∧ g < W.heap.size ∧
    W.cell? ⟨g, o.length * 3, none⟩ = some (.int .i64 p.lba) ∧ W.cell? ⟨g, o.length * 3 + 1, none⟩ = some (.int .i64 p.num) ∧ W.cell? ⟨g, o.length * 3 + 2, none⟩ = some (.int .i64 p.pos) ∧ W.frozen? ⟨g, o.length * 3 + 1, none⟩ = false := by
  have hl := h.1
  rw [flat_length] at hl
  have hn : n = o.length + 1 := by simp at hl; omega
  subst hn
  have hli := lies_owned (l := o ++ [p]) (by simpa using h)
  rcases h.2 with ⟨rfl, h0⟩ | ⟨g, cap, cur, rfl, hb, hg, _⟩
  · omega
  · refine ⟨g, cap, rfl, rfl, hb, lt_of_block hg, ?_⟩
    rcases hli with ⟨a0, c0, h0, _⟩ | ⟨b, off, cap', hv, _, hc⟩
    · simp at h0
    · simp only [Value.slice.injEq, Option.some.injEq, Addr.mk.injEq] at hv
      obtain ⟨⟨rfl, rfl, _⟩, _, _⟩ := hv
      have h3 := hc o.length p (by simp)
      simp only [Nat.zero_add] at h3
      exact ⟨h3.1, h3.2.1, h3.2.2, by simp [World.frozen?, hg]⟩


theorem holds_at {W : World} {blk : Nat} {d : Array Gd} (h : HoldsK encG 3 W blk 0 d) (k : Nat) (x : Gd) (hx : d.toList[k]? = some x) : At3 W blk (k * 3) x.1 := by
  have hk : k < d.size := by have := (List.getElem?_eq_some_iff.1 hx).1; simpa using this
  have hd : d[k]! = x := by rw [getElem!_pos d k hk]; have := (List.getElem?_eq_some_iff.1 hx).2; simpa using this
  have hc : ∀ i, i < 3 → W.cell? ⟨blk, k * 3 + i, none⟩ = some ((encG x)[i]!) := by
    intro i hi
    have h1 := (h (k * 3 + i) (by rw [size_flatK]; omega)).1
    rw [get_flatK _ _ _ _ (by omega), show (k * 3 + i) / 3 = k by omega, show (k * 3 + i) % 3 = i by omega, hd] at h1
    simpa using h1
  exact ⟨hc 0 (by omega), hc 1 (by omega), hc 2 (by omega)⟩

theorem holds_of_owned {W : World} {B g cap : Nat} {d : Array Gd} (h : W.ownsRow B 32 3 (.slice (some ⟨g, 0, none⟩) d.size cap) d.size (flat (d.toList.map Subtype.val))) : HoldsK encG 3 W g 0 d := by
  intro j hj
  rw [size_flatK] at hj
  rw [get_flatK _ _ _ _ hj]
  have hk : j / 3 < d.size := by omega
  rcases h.2 with ⟨h0, _⟩ | ⟨g', cap', cur, hv, hb, hg, hn, hm, hs, ht⟩
  · cases h0
  · cases hv
    have hx : (d.toList.map Subtype.val)[j / 3]? = some (d[j / 3]!).1 := by
      rw [List.getElem?_map, Array.getElem?_toList, Array.getElem?_eq_getElem hk, getElem!_pos d _ hk]
      rfl
    have h1 := flat_get hx (j % 3) (by omega)
    rw [show j / 3 * 3 + j % 3 = j by omega, ← ht, List.getElem?_take_of_lt (by omega), Array.getElem?_toList] at h1
    constructor
    · have h2 : W.cell? ⟨g, 0 + j, none⟩ = cur[j]? := by simp [World.cell?, hg]
      rw [h2, h1]
      have h3 : j % 3 < (encG d[j / 3]!).length := by show j % 3 < 3; omega
      rw [getElem!_pos (encG d[j / 3]!) (j % 3) h3]
      exact List.getElem?_eq_getElem h3
    · simp [World.frozen?, hg]

theorem cells_new3 (W : World) (a m p : Int) : ∀ (j : Nat) (u : Value), [Value.int .i64 a, .int .i64 m, .int .i64 p][j]? = some u → (W.alloc (.cells #[.int .i64 a, .int .i64 m, .int .i64 p] 32)).cell? ((⟨W.heap.size, 0, none⟩ : Addr).add j) = some u := by
  intro j u h
  rw [Addr.add_lit]
  simp only [World.cell?, heap_alloc_new, Nat.zero_add]
  rw [← h]
  simp

/-- 'out = append(out, x)' of a row of the call's own. -/
theorem push_row {W : World} {B k : Nat} {v : Value} {xs : List Value} (a m p : Int) (hown : W.ownsRow B 32 3 v k xs) (hB : B ≤ W.heap.size) (hk : k ≤ 20000)
    {ops : Array Oper} {rest : List Oper} {o : Oper} {act : Act} {Q : Exit → Act → World → Prop} (hgd : o.guard = none) (s x : Operand)
    (ho : o.op = .call { callee := .builtin .append, args := #[s, x], argTypes := #[22, 22] }) (hs : act.eval s = v) (hx : act.eval x = .slice (some ⟨W.heap.size, 0, none⟩) 1 1)
    (h : ∀ v' w', w'.ownsRow B 32 3 v' (k + 1) (xs ++ [.int .i64 a, .int .i64 m, .int .i64 p]) → Below B W w' → wpList Try.prog ops Q rest (act.put o.dst v') w') : wpList Try.prog ops Q (o :: rest) act (W.alloc (.cells #[.int .i64 a, .int .i64 m, .int .i64 p] 32)) := by
  obtain ⟨i0, hi, hz0, hz1, hz2⟩ := info_parts info32
  refine wpList_append_own _ hgd s x 22 ho B 32 i0 _ 3 24 Try.underlying22 hi hz0 hz1 hz2 rfl (by decide) v k xs hs (hown.alloc _) ⟨W.heap.size, 0, none⟩ 1 1 [.int .i64 a, .int .i64 m, .int .i64 p] hx rfl
    (cells_new3 W a m p) (by intro u hu; simp at hu; rcases hu with rfl | rfl | rfl <;> rfl) (by simp only [maxLen]; omega) (by omega) (by simp; omega) ?_
  intro v' w' h1 hg _
  refine h v' w' h1 (((Below.refl B W).alloc hB _).grown hg (by simp; omega) ?_)
  intro j hj
  exact (hown.lt j hj).1

theorem below_drew {n : Nat} {w W : World} (h : RowKit.Below n w W) : RowKit.Below n w W.drew := ⟨h.os, h.tape, h.output, h.size, h.block⟩
theorem owns_drewN {W : World} {B e size k : Nat} {v : Value} {xs : List Value} (h : W.ownsRow B e size v k xs) (n : Nat) : (W.drewN n).ownsRow B e size v k xs := h

set_option maxRecDepth 100000 in
set_option maxHeartbeats 4000000 in
theorem merged_any (B g cap n : Nat) (d : Array Gd) (hsz : d.size = n) (h1 : 1 ≤ n) (hn : n ≤ 10000) (hT : ∀ x ∈ d.toList, Tame x.1) (w : World) (hB : B ≤ w.heap.size) (hown : w.ownsRow B 32 3 (.slice (some ⟨g, 0, none⟩) n cap) n (flat (d.toList.map Subtype.val))) :
    Calls Try.prog 31 #[.slice (some ⟨g, 0, none⟩) n cap] w fun e w' => ∃ (l : List X) (v' : Value), l.Perm (d.toList.map Subtype.val) ∧ l.Pairwise (fun x y => x.lba ≤ y.lba) ∧ e = .returned v' ∧ Lies w' v' (mergedF l) ∧ Below B w w' ∧ w.grownBy w' (some g) := by
  subst hsz
  have hBg : B ≤ g := (hown.lt g rfl).1
  have hgl : g < w.heap.size := (hown.lt g rfl).2
  have hcon := Lib.hid (sort_any g cap d w (holds_of_owned hown) hgl (by omega))
  obtain ⟨n, hsz⟩ : ∃ n, d.size = n := ⟨_, rfl⟩
  rw [hsz] at h1 hn hcon ⊢
  have hszh := Lib.hid hsz
  have hTh := Lib.hid hT
  clear hown hsz hT
  go_enter Try.func31, Try.ntmps31
  go_wp2_with fail
  refine hcon.mono ?_
  rintro e ws ⟨rfl, d', hperm, hpw, hH, hgs, hbs, hgro⟩
  have hgro' := Lib.hid hgro
  have hgz := hgro.size
  clear hgro
  obtain ⟨l, hl⟩ : ∃ l, l = d'.toList.map Subtype.val := ⟨_, rfl⟩
  have hll : l.length = n := by rw [hl, List.length_map, hperm.length_eq, ← (show d.size = n from hszh), Array.length_toList]
  have hlT : ∀ (k : Nat) (x : X), l[k]? = some x → Tame x := by
    intro k x hx
    have hm := List.mem_of_getElem? hx
    rw [hl, List.mem_map] at hm
    obtain ⟨y, hy, rfl⟩ := hm
    exact hTh y (hperm.mem_iff.1 hy)
  have hla : ∀ (k : Nat) (x : X), l[k]? = some x → At3 ws g (k * 3) x := by
    intro k x hx
    rw [hl, List.getElem?_map] at hx
    cases hy : d'.toList[k]? with
    | none => rw [hy] at hx; cases hx
    | some y =>
      rw [hy] at hx
      cases hx
      exact holds_at hH k y hy
  have hres := Lib.hid (show l.Perm (d.toList.map Subtype.val) ∧ l.Pairwise (fun x y => x.lba ≤ y.lba) from ⟨by rw [hl]; exact hperm.map _, by rw [hl]; exact List.pairwise_map.2 hpw⟩)
  have hllh := Lib.hid hll
  have hlTh := Lib.hid hlT
  have hlah := Lib.hid hla
  have hBs := hbs B hBg
  have hBsz := hBs.size
  clear hl hll hlT hla hperm hpw hH hcon hTh hszh hbs
  obtain ⟨i0, hi, hz0, hz1, hz2⟩ := info_parts info32
  go_wp2
  go_loopw [11, 3] (fun i v wr => ∃ k : Nat, k ≤ n ∧ i = .int .i64 k ∧ wr.ownsRow ws.heap.size 32 3 v (mergedF (l.take k)).length (flat (mergedF (l.take k))) ∧ (k = 0 → v = .slice none 0 0) ∧ Below ws.heap.size ws wr) (fun i _ _ => n - (intOf i).toNat)
  case atStart => exact ⟨0, Nat.zero_le _, rfl, World.ownsRow_nil _ _ _ _, fun _ => rfl, Below.refl _ _⟩
  case round =>
    obtain ⟨k, hk, rfl, hown, hnil, hbw⟩ := hrel
    have hbwz := hbw.size
    by_cases hlt : k < n
    · have hkl : k < l.length := by have h2 : l.length = n := hllh; omega
      obtain ⟨x, hx⟩ : ∃ x, l[k]? = some x := ⟨_, List.getElem?_eq_getElem hkl⟩
      have hcx := (hlah k x hx).below hbw hgs
      have hxT := hlTh k x hx
      have hstep := Lib.hid (mergedF_take hx)
      have hbd := mergedF_bound hlTh k
      have hx' := Lib.hid hx
      clear hx
      have c0 := hcx.c0
      have c1 := hcx.c1
      have c2 := hcx.c2
      obtain ⟨a, m, p⟩ := x
      unfold Tame at hxT
      dsimp only at *
      obtain ⟨o1, o2, o3, o4, o5, o6⟩ := hxT
      obtain ⟨nx0, nx1, nx2⟩ := new3 wr a m p
      cases k with
      | zero =>
        obtain rfl := hnil rfl
        clear hown hnil hbd
        go_wp2_with fail
        go_quiet (fail)
        have hw1 := below_drewN (hbw.alloc hbwz (.cells #[.int .i64 a, .int .i64 m, .int .i64 p] 32)) nq
        obtain ⟨W1, hW1⟩ : ∃ W1, W1 = (wr.alloc (.cells #[.int .i64 a, .int .i64 m, .int .i64 p] 32)).drewN nq := ⟨_, rfl⟩
        rw [← hW1] at hw1 ⊢
        replace nx0 : W1.cell? ⟨wr.heap.size, 0, none⟩ = some (.int .i64 a) := by rw [hW1]; exact nx0
        replace nx1 : W1.cell? ⟨wr.heap.size, 1, none⟩ = some (.int .i64 m) := by rw [hW1]; exact nx1
        replace nx2 : W1.cell? ⟨wr.heap.size, 2, none⟩ = some (.int .i64 p) := by rw [hW1]; exact nx2
        clear hW1
        have hw1z := hw1.size
        have hp0 := Lib.hid (World.ownsRow_nil W1 ws.heap.size 32 3)
        go_wp2_with (at_builtin; refine push_row a m p hp0 hw1z (by omega) rfl (.tmp 66) (.tmp 68) rfl rfl rfl ?_; intro v' w' hown' hb')
        go_roundw
        case rel => exact ⟨1, by omega, by simp, by rw [show mergedF (l.take 1) = _ from hstep]; exact hown', fun h => by omega, hw1.trans hb'⟩
        case measure => simp [intOf]; omega
      | succ k =>
        have hne : mergedF (l.take (k + 1)) ≠ [] := by
          rw [mergedF_take (List.getElem?_eq_getElem (show k < l.length by omega))]
          exact push_ne _ _
        rcases List.eq_nil_or_concat (mergedF (l.take (k + 1))) with h0 | ⟨o, q, ho⟩
        · exact absurd h0 hne
        rw [List.concat_eq_append] at ho
        rw [ho] at hown hbd
        have hstep2 : mergedF (l.take (k + 1 + 1)) = if Joins q ⟨a, m, p⟩ then o ++ [⟨q.lba, q.num + m, q.pos⟩] else o ++ [q] ++ [⟨a, m, p⟩] := by
          rw [show mergedF (l.take (k + 1 + 1)) = _ from hstep, ho, push_snoc]
        have hq := hbd.2 q (by simp)
        have hol : o.length + 1 ≤ k + 1 := by have := hbd.1; simpa using this
        have hstep2' := Lib.hid hstep2
        clear hne hbd hnil hstep2 ho hstep
        obtain ⟨M, hM⟩ : ∃ M, o.length = M := ⟨_, rfl⟩
        obtain ⟨g2, cap2, rfl, hlen2, hBg2, hg2, f0, f1, f2, ff⟩ := owns_facts hown
        rw [hM] at f0 f1 f2 ff hol hlen2
        rw [hlen2, hM] at hown
        rw [hM]
        have hown' := Lib.hid hown
        have hMh := Lib.hid hM
        clear hown hM hlen2
        obtain ⟨qa, qm, qp⟩ := q
        dsimp only at *
        obtain ⟨q1, q2, q3, q4, q5, q6⟩ := hq
        have hb1 : RowKit.Below wr.heap.size wr (wr.alloc (.cells #[.int .i64 a, .int .i64 m, .int .i64 p] 32)) := (RowKit.Below.refl wr.heap.size wr).alloc (Nat.le_refl _) _
        have g0 := (hb1.cell (p := ⟨g2, M * 3, none⟩) hg2).trans f0
        have g1 := (hb1.cell (p := ⟨g2, M * 3 + 1, none⟩) hg2).trans f1
        have g2' := (hb1.cell (p := ⟨g2, M * 3 + 2, none⟩) hg2).trans f2
        by_cases e1 : qa + qm = a
        · by_cases e2 : qp + qm = p
          · have d1 : (qa + qm == a) = true := by simp [e1]
            have d2 : (qp + qm == p) = true := by simp [e2]
            have hj : Joins ⟨qa, qm, qp⟩ ⟨a, m, p⟩ := ⟨e1, e2⟩
            have e1' := Lib.hid e1
            have e2' := Lib.hid e2
            clear e1 e2
            go_wp2_with fail
            go_quiet (fail)
            have hw1 := below_drewN (hbw.alloc hbwz (.cells #[.int .i64 a, .int .i64 m, .int .i64 p] 32)) nq
            have hwo := owns_drewN (hown'.alloc (.cells #[.int .i64 a, .int .i64 m, .int .i64 p] 32)) nq
            obtain ⟨W1, hW1⟩ : ∃ W1, W1 = (wr.alloc (.cells #[.int .i64 a, .int .i64 m, .int .i64 p] 32)).drewN nq := ⟨_, rfl⟩
            rw [← hW1] at hw1 hwo ⊢
            replace nx0 : W1.cell? ⟨wr.heap.size, 0, none⟩ = some (.int .i64 a) := by rw [hW1]; exact nx0
            replace nx1 : W1.cell? ⟨wr.heap.size, 1, none⟩ = some (.int .i64 m) := by rw [hW1]; exact nx1
            replace nx2 : W1.cell? ⟨wr.heap.size, 2, none⟩ = some (.int .i64 p) := by rw [hW1]; exact nx2
            clear hW1 g0 g1 g2' hb1 f0 f1 f2 ff
            have hw1z := hw1.size
            have hwoh := Lib.hid hwo
            clear hwo
            have hif := Lib.hid ((show mergedF (l.take (k + 1 + 1)) = _ from hstep2').trans (if_pos hj))
            clear hj
            obtain ⟨g3, cap3, hv3, _, hBg3, hg3, f0, f1, f2, ff⟩ := owns_facts hwoh
            simp only [Value.slice.injEq, Option.some.injEq, Addr.mk.injEq] at hv3
            obtain ⟨⟨rfl, _, _⟩, _, rfl⟩ := hv3
            rw [show o.length = M from hMh] at f0 f1 f2 ff
            have hset := owns_set (qm + m) hwoh
            rw [show o.length = M from hMh] at hset
            have hset' := Lib.hid hset
            clear hset
            go_wp2_with fail
            go_region
            have hw2 := below_drew (hw1.setCell (p := ⟨g2, M * 3 + 1, none⟩) hBg2 (.int .i64 (qm + m)))
            go_wp2
            go_roundw
            case rel =>
              refine ⟨k + 2, by omega, by simp; omega, ?_, fun h => by omega, hw2⟩
              rw [show mergedF (l.take (k + 2)) = _ from hif, show (o ++ [⟨qa, qm + m, qp⟩] : List X).length = M + 1 by simp [show o.length = M from hMh], show o.length = M from hMh]
              exact hset'
            case measure => simp [intOf]; omega
          · have d1 : (qa + qm == a) = true := by simp [e1]
            have d2 : (qp + qm == p) = false := by simp [e2]
            have hnj : ¬ Joins ⟨qa, qm, qp⟩ ⟨a, m, p⟩ := fun h => e2 h.2
            have e1' := Lib.hid e1
            clear e1
            go_wp2_with fail
            go_quiet (fail)
            have hw1 := below_drewN (hbw.alloc hbwz (.cells #[.int .i64 a, .int .i64 m, .int .i64 p] 32)) nq
            have hwo := owns_drewN (hown'.alloc (.cells #[.int .i64 a, .int .i64 m, .int .i64 p] 32)) nq
            obtain ⟨W1, hW1⟩ : ∃ W1, W1 = (wr.alloc (.cells #[.int .i64 a, .int .i64 m, .int .i64 p] 32)).drewN nq := ⟨_, rfl⟩
            rw [← hW1] at hw1 hwo ⊢
            replace nx0 : W1.cell? ⟨wr.heap.size, 0, none⟩ = some (.int .i64 a) := by rw [hW1]; exact nx0
            replace nx1 : W1.cell? ⟨wr.heap.size, 1, none⟩ = some (.int .i64 m) := by rw [hW1]; exact nx1
            replace nx2 : W1.cell? ⟨wr.heap.size, 2, none⟩ = some (.int .i64 p) := by rw [hW1]; exact nx2
            clear hW1 g0 g1 g2' hb1 f0 f1 f2 ff
            have hw1z := hw1.size
            have hwoh := Lib.hid hwo
            clear hwo
            have hif := Lib.hid ((show mergedF (l.take (k + 1 + 1)) = _ from hstep2').trans (if_neg hnj))
            go_wp2_with (at_builtin; refine push_row a m p hwoh hw1z (by omega) rfl (.tmp 66) (.tmp 68) rfl rfl rfl ?_; intro v' w' hown2 hb2)
            go_roundw
            case rel =>
              refine ⟨k + 2, by omega, by simp; omega, ?_, fun h => by omega, hw1.trans hb2⟩
              rw [show mergedF (l.take (k + 2)) = _ from hif, show (o ++ [⟨qa, qm, qp⟩] ++ [⟨a, m, p⟩] : List X).length = M + 1 + 1 by simp [show o.length = M from hMh], flat_append _ [⟨a, m, p⟩], flat_one]
              exact hown2
            case measure => simp [intOf]; omega
        · have d1 : (qa + qm == a) = false := by simp [e1]
          have hnj : ¬ Joins ⟨qa, qm, qp⟩ ⟨a, m, p⟩ := fun h => e1 h.1
          go_wp2_with fail
          go_quiet (fail)
          have hw1 := below_drewN (hbw.alloc hbwz (.cells #[.int .i64 a, .int .i64 m, .int .i64 p] 32)) nq
          have hwo := owns_drewN (hown'.alloc (.cells #[.int .i64 a, .int .i64 m, .int .i64 p] 32)) nq
          obtain ⟨W1, hW1⟩ : ∃ W1, W1 = (wr.alloc (.cells #[.int .i64 a, .int .i64 m, .int .i64 p] 32)).drewN nq := ⟨_, rfl⟩
          rw [← hW1] at hw1 hwo ⊢
          replace nx0 : W1.cell? ⟨wr.heap.size, 0, none⟩ = some (.int .i64 a) := by rw [hW1]; exact nx0
          replace nx1 : W1.cell? ⟨wr.heap.size, 1, none⟩ = some (.int .i64 m) := by rw [hW1]; exact nx1
          replace nx2 : W1.cell? ⟨wr.heap.size, 2, none⟩ = some (.int .i64 p) := by rw [hW1]; exact nx2
          clear hW1 g0 g1 g2' hb1 f0 f1 f2 ff
          have hw1z := hw1.size
          have hwoh := Lib.hid hwo
          clear hwo
          have hif := Lib.hid ((show mergedF (l.take (k + 1 + 1)) = _ from hstep2').trans (if_neg hnj))
          go_wp2_with (at_builtin; refine push_row a m p hwoh hw1z (by omega) rfl (.tmp 66) (.tmp 68) rfl rfl rfl ?_; intro v' w' hown2 hb2)
          go_roundw
          case rel =>
            refine ⟨k + 2, by omega, by simp; omega, ?_, fun h => by omega, hw1.trans hb2⟩
            rw [show mergedF (l.take (k + 2)) = _ from hif, show (o ++ [⟨qa, qm, qp⟩] ++ [⟨a, m, p⟩] : List X).length = M + 1 + 1 by simp [show o.length = M from hMh], flat_append _ [⟨a, m, p⟩], flat_one]
            exact hown2
          case measure => simp [intOf]; omega
    · obtain rfl : k = n := by omega
      have hfin : l.take k = l := List.take_of_length_le (by have h2 : l.length = k := hllh; omega)
      rw [hfin] at hown
      have hli := lies_owned hown
      go_wp2
      go_ret
      exact ⟨l, _, hres.1, hres.2, rfl, hli, hBs.trans (hbw.mono (by omega)), ⟨hbw.os.trans hgro'.os, hbw.tape.trans hgro'.tape, hbw.output.trans hgro'.output, Nat.le_trans hgz hbwz, fun j hj hne => (hbw.block j (by omega)).trans (hgro'.block j hj hne)⟩⟩

end Go.Proofs.Ytplplojhgiaabaa
