/- What the small input comes to, as data; wakes. -/
import Derived.Test.YtojcoambodedbaaK
set_option linter.unusedVariables false
set_option linter.unusedSimpArgs false
set_option linter.unnecessarySimpa false
namespace Go.Proofs.Ytojcoambodedbaa
open Go.RowKit

theorem DS.fresh_ok (n : Nat) : (DS.fresh n).Ok :=
  ⟨by simp [DS.fresh], by intro s hs; simp [DS.fresh] at hs; exact Or.inl (by rw [hs.2]; rfl), by intro s hs; simp [DS.fresh] at hs; exact Or.inl (by rw [hs.2]; rfl), by simp [DS.fresh]⟩
theorem extract_full (s : ByteArray) (n : Nat) (h : s.size = n) : s.extract 0 n = s := by
  subst h
  exact ByteArray.extract_zero_size
theorem size_block (b : Nat) : (block b).size = 512 := size_blockN 512 b
theorem chunk_one (s : ByteArray) (h : s.size = 512) : chunk s 0 = s := by
  unfold chunk
  exact extract_full s 512 h
theorem reads_one (S : DS) (i : Nat) : (⟨(S.reads i 1).toArray⟩ : ByteArray) = S.sector i := by
  simp [DS.reads]
theorem isEmpty_of_size {s : ByteArray} (h : s.size = 512) : s.toList.isEmpty = false := by
  cases he : s.toList.isEmpty with
  | false => rfl
  | true => rw [(isEmpty_iff s).1 he] at h; cases h
theorem torn_zero (a b : ByteArray) : torn 0 a b = b := by
  unfold torn
  rw [ByteArray.extract_zero_size]
  apply ByteArray.ext
  simp
/-- Where a sector's text stands in 'now', it is what is seen. -/
theorem sector_now (S : DS) (i : Nat) (s : ByteArray) (h : S.now.getD i ByteArray.empty = s) (hs : s.size = 512) : S.sector i = s := by
  unfold DS.sector
  rw [h, isEmpty_of_size hs]
  rfl
theorem sector_safe (S : DS) (i : Nat) (h : S.now.getD i ByteArray.empty = ByteArray.empty) : S.sector i = S.kept i := by
  unfold DS.sector
  rw [h, if_pos ((isEmpty_iff _).2 rfl)]
theorem kept_safe (S : DS) (i : Nat) (s : ByteArray) (h : S.safe.getD i ByteArray.empty = s) (hs : s.size = 512) : S.kept i = s := by
  unfold DS.kept
  rw [h, isEmpty_of_size hs]
  rfl
theorem kept_zero (S : DS) (i : Nat) (h : S.safe.getD i ByteArray.empty = ByteArray.empty) : S.kept i = zeros 512 := by
  unfold DS.kept
  rw [h, if_pos ((isEmpty_iff _).2 rfl)]
theorem fresh_goes (n : Nat) : (DS.fresh n).goes = true := rfl

theorem settle1_same (S : DS) (i : Nat) : (S.settle1 i).ops = S.ops ∧ (S.settle1 i).armed = S.armed ∧ (S.settle1 i).left = S.left ∧ (S.settle1 i).down = S.down ∧ (S.settle1 i).safe.length = S.safe.length ∧ (S.settle1 i).now.length = S.now.length := by
  unfold DS.settle1
  split <;> simp
theorem settles_same (l : List (Nat × ByteArray)) : ∀ S : DS, (S.settles l).ops = S.ops ∧ (S.settles l).armed = S.armed ∧ (S.settles l).left = S.left ∧ (S.settles l).down = S.down ∧ (S.settles l).safe.length = S.safe.length ∧ (S.settles l).now.length = S.now.length := by
  induction l with
  | nil => exact fun S => ⟨rfl, rfl, rfl, rfl, rfl, rfl⟩
  | cons x l ih =>
    intro S
    obtain ⟨a, b, c, d, e, f⟩ := ih (S.settle1 x.1)
    obtain ⟨a', b', c', d', e', f'⟩ := settle1_same S x.1
    exact ⟨a.trans a', b.trans b', c.trans c', d.trans d', e.trans e', f.trans f'⟩
theorem crash_ops (S : DS) (ks : List Int) : (S.crash ks).ops = S.ops :=
  (settles_same (S.torn ks).held (S.torn ks)).1.trans ((DS.tears_same ks S.held 0 _).2.2.1.trans (DS.wipes_same S.held S).2.2.1)
theorem crash_len (S : DS) (ks : List Int) : (S.crash ks).safe.length = S.safe.length := by
  refine (settles_same (S.torn ks).held (S.torn ks)).2.2.2.2.1.trans ?_
  show ((S.wipes S.held).tears ks 0 S.held).safe.length = _
  rw [(DS.tears_same ks S.held 0 _).1, (DS.wipes_same S.held S).1]

/-- A new device with one sector's text held. -/
def wakeS (s : ByteArray) : DS := (DS.fresh 4).put1 1 s
theorem wake_wr (s : ByteArray) (hs : s.size = 512) : DS.wr 1 s 1 0 (DS.fresh 4) = (wakeS s, 0) := by
  rw [DS.wr_yes (fresh_goes 4), chunk_one _ hs]
  rfl
theorem wakeS_ok (s : ByteArray) (hs : s.size = 512) : (wakeS s).Ok := (DS.fresh_ok 4).put1 1 _ (by decide) hs
theorem wakeS_sector (s : ByteArray) (hs : s.size = 512) : (wakeS s).sector 1 = s := sector_now _ _ _ rfl hs
theorem wakeS_ops (s : ByteArray) : (wakeS s).ops = 1 := by
  show wrap64 (0 + 1) = 1
  unfold wrap64
  omega
theorem settle_one (S : DS) (i : Nat) (s : ByteArray) (h : S.now.getD i ByteArray.empty = s) (hs : s.size = 512) : S.settle1 i = { S with safe := S.safe.set i s, now := S.now.set i ByteArray.empty } := by
  unfold DS.settle1
  rw [h, isEmpty_of_size hs]
  rfl
theorem wake2_sector (s : ByteArray) : ((wakeS s).crash []).sector 1 = zeros 512 := by
  have h1 : ((wakeS s).wipe1 1).sector 1 = zeros 512 := (sector_safe _ _ rfl).trans (kept_zero _ _ rfl)
  have h3 : (wakeS s).torn [] = ((wakeS s).wipe1 1).tear1 0 1 s := rfl
  have h4 : ((wakeS s).torn []).now.getD 1 ByteArray.empty = zeros 512 := by
    rw [h3]
    show torn 0 s (((wakeS s).wipe1 1).sector 1) = _
    rw [torn_zero, h1]
  have hz := size_zeros 512
  generalize zeros 512 = z at *
  have h5 := settle_one _ 1 z h4 hz
  have h7 : ((wakeS s).torn []).held = [(1, s)] := rfl
  have h8 : ((wakeS s).torn []).safe.length = 4 := rfl
  have h9 : ((wakeS s).torn []).now.length = 4 := rfl
  unfold DS.crash
  generalize (wakeS s).torn [] = T at *
  have h6 : T.settle = { T.settle1 1 with held := [] } := by unfold DS.settle; rw [h7]; rfl
  rw [h6, h5]
  refine (sector_safe _ _ ?_).trans (kept_safe _ _ z ?_ hz)
  · simp [List.getD, h9]
  · simp [List.getD, h8]

theorem wakes_any (w : World) : Calls Try.prog 8 #[] w fun e w' => e = .returned (.bool true) ∧ Below w.heap.size w w' := by
  have K1 := Lib.hid (new_yes 4 w (by omega) (by omega))
  go_enter Try.func8, Try.ntmps8
  go_wp2_with fail
  refine K1.out.mono ?_
  rintro e w1 ⟨D, rfl, hD, hu1, hF1⟩
  have K2 := Lib.hid (block_any 97 (by omega) w1)
  have HD := Lib.hid hD
  clear hD
  go_wp2_with fail
  refine K2.out.mono ?_
  rintro e w2 ⟨rfl, hb2⟩
  have hD2 : DevAt w2 D (DS.fresh 4) := HD.out.keep (Upd.ofBelow (F := fun _ => False) hb2 (fun k hk h => by omega)) (fun _ _ h => h)
  have K3 := write_ok D (DS.fresh 4) 1 1 (block 97) w2 hD2 (size_block 97) (by decide) rfl (by decide)
  rw [wake_wr _ (size_block 97)] at K3
  have K3 := Lib.hid K3
  clear hD2
  go_wp2_with fail
  refine K3.out.mono ?_
  rintro e w3 ⟨D3, hb3, rfl, hD3, hu3, hF3⟩
  have HB3 := Lib.hid hb3
  have K4 := read_ok D3 (wakeS (block 97)) 1 1 w3 hD3 (wakeS_ok _ (size_block 97)) (by show 2 ≤ 4; decide) rfl
  rw [reads_one, wakeS_sector _ (size_block 97), hb3] at K4
  have K4 := Lib.hid K4
  have HD3 := Lib.hid hD3
  clear hb3 hD3
  go_wp2_with fail
  refine K4.out.mono ?_
  rintro e w4 ⟨rfl, hb4⟩
  have hD4 : DevAt w4 D3 (wakeS (block 97)) := HD3.out.keep (Upd.ofBelow (F := fun _ => False) hb4 (fun k hk h => by omega)) (fun _ _ h => h)
  have K5 := crash_any D3 (wakeS (block 97)) [] none 0 w4 hD4 (wakeS_ok _ (size_block 97)) (by show 1 ≤ 1000000; decide) (by decide) (fun j hj => by simp at hj)
  rw [HB3.out] at K5
  have K5 := Lib.hid K5
  clear hD4
  go_wp2_with fail
  refine K5.out.mono ?_
  rintro e w5 ⟨D5, hb5, rfl, hD5, hu5, hF5⟩
  have hb5' : D5.b = D.b := hb5.trans HB3.out
  have K6 := read_ok D5 ((wakeS (block 97)).crash []) 1 1 w5 hD5 ((wakeS_ok _ (size_block 97)).crash []) (by rw [crash_len]; show 2 ≤ 4; decide) rfl
  rw [reads_one, wake2_sector, hb5'] at K6
  have K6 := Lib.hid K6
  have HD5 := Lib.hid hD5
  have HB5 := Lib.hid hb5'
  clear hb5 hb5' hD5
  go_wp2_with fail
  refine K6.out.mono ?_
  rintro e w6 ⟨rfl, hb6⟩
  have hD6 : DevAt w6 D5 ((wakeS (block 97)).crash []) := HD5.out.keep (Upd.ofBelow (F := fun _ => False) hb6 (fun k hk h => by omega)) (fun _ _ h => h)
  have HD6 := Lib.hid hD6
  have K7 := Lib.hid (block_any 97 (by omega) w6)
  clear hD6
  go_wp2_with fail
  refine K7.out.mono ?_
  rintro e w7 ⟨rfl, hb7⟩
  have K8 := Lib.hid (zeros_any 512 (by omega) (by omega) w7)
  have hq1 : ((block 97).toList == (block 97).toList) = true := by simp
  go_wp2_with fail
  refine K8.out.mono ?_
  rintro e w8 ⟨rfl, hb8⟩
  have hD8 : DevAt w8 D5 ((wakeS (block 97)).crash []) := (HD6.out.keep (Upd.ofBelow (F := fun _ => False) hb7 (fun k hk h => by omega)) (fun _ _ h => h)).keep (Upd.ofBelow (F := fun _ => False) hb8 (fun k hk h => by omega)) (fun _ _ h => h)
  have K9 := ops_any D5 ((wakeS (block 97)).crash []) w8 hD8
  have K10 := held_any D5 ((wakeS (block 97)).crash []) w8 hD8
  rw [HB5.out] at K9 K10
  have e9 : ((wakeS (block 97)).crash []).ops = 1 := (crash_ops _ _).trans (wakeS_ops _)
  have e10 : ((wakeS (block 97)).crash []).held.length = 0 := rfl
  rw [e9] at K9
  rw [e10] at K10
  have K9 := Lib.hid K9
  have K10 := Lib.hid K10
  have hq2 : ((zeros 512).toList == (zeros 512).toList) = true := by simp
  clear e9 e10 hD8
  go_wp2_with fail
  refine K9.out.mono ?_
  rintro e w9 ⟨rfl, rfl⟩
  go_wp2_with fail
  refine K10.out.mono ?_
  rintro e w10 ⟨rfl, rfl⟩
  go_wp2_with fail
  go_ret
  have b1 : Below w.heap.size w w1 := hu1.below (Nat.le_refl _) (fun _ h => h.elim)
  have b2 : Below w.heap.size w w2 := b1.trans (hb2.mono b1.size)
  have b3 : Below w.heap.size w w3 := b2.trans (hu3.below b2.size hF1)
  have F3 : ∀ k, D3.foot k → w.heap.size ≤ k := fun k hk => (hF3 k hk).elim (hF1 k) (Nat.le_trans b2.size)
  have b4 : Below w.heap.size w w4 := b3.trans (hb4.mono b3.size)
  have b5 : Below w.heap.size w w5 := b4.trans (hu5.below b4.size F3)
  have b6 : Below w.heap.size w w6 := b5.trans (hb6.mono b5.size)
  have b7 : Below w.heap.size w w7 := b6.trans (hb7.mono b6.size)
  exact ⟨by simp, b7.trans (hb8.mono b7.size)⟩

end Go.Proofs.Ytojcoambodedbaa
