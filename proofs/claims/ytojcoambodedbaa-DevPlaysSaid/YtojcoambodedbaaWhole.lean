/- DevWhole: the plain law and the walk. -/
import Derived.Test.YtojcoambodedbaaQ
set_option linter.unusedVariables false
set_option linter.unusedSimpArgs false
set_option linter.unnecessarySimpa false
namespace Go.Proofs.Ytojcoambodedbaa
open Go.RowKit

/-- The texts of some sectors, one behind the other. -/
def allL (n : Nat) : List Nat → List UInt8
  | [] => []
  | f :: fs => List.replicate n (UInt8.ofNat f) ++ allL n fs
def allB (fs : List Nat) : ByteArray := strOf (allL 512 fs)
theorem allL_length (n : Nat) (fs : List Nat) : (allL n fs).length = fs.length * n := by
  induction fs with
  | nil => simp [allL]
  | cons f fs ih => simp only [allL, List.length_append, List.length_replicate, ih, List.length_cons, Nat.add_mul]; omega
theorem allL_append (n : Nat) (a b : List Nat) : allL n (a ++ b) = allL n a ++ allL n b := by
  induction a with
  | nil => rfl
  | cons f fs ih => simp only [List.cons_append, allL, ih, List.append_assoc]
theorem allL_chunk (n : Nat) (fs : List Nat) : ∀ i f, fs[i]? = some f → ((allL n fs).drop (i * n)).take n = List.replicate n (UInt8.ofNat f) := by
  induction fs with
  | nil => intro i f h; simp at h
  | cons g fs ih =>
    intro i f h
    cases i with
    | zero =>
      simp only [List.getElem?_cons_zero, Option.some.injEq] at h
      subst h
      rw [Nat.zero_mul, List.drop_zero, allL, List.take_append_of_le_length (by simp), List.take_of_length_le (by simp)]
    | succ i =>
      have e1 : (i + 1) * n = i * n + n := by rw [Nat.add_mul, Nat.one_mul]
      rw [allL, List.drop_append, List.length_replicate, e1, Nat.add_sub_cancel, List.drop_of_length_le (by simp), List.nil_append]
      exact ih i f (by simpa using h)
theorem size_strOf (l : List UInt8) : (strOf l).size = l.length := by
  show l.toArray.size = l.length
  simp
theorem size_allB (fs : List Nat) : (allB fs).size = fs.length * 512 := by rw [allB, size_strOf, allL_length]
theorem strOf_append (a b : List UInt8) : strOf a ++ strOf b = strOf (a ++ b) := by
  apply ByteArray.ext
  simp [strOf, ByteArray.data_append]
theorem allB_snoc (fs : List Nat) (f : Nat) : allB fs ++ block f = allB (fs ++ [f]) := by
  unfold allB block blockN
  rw [strOf_append, allL_append, allL, allL, List.append_nil]
theorem allB_chunk (fs : List Nat) (i f : Nat) (h : fs[i]? = some f) : chunk (allB fs) i = block f := by
  have hl := allL_chunk 512 fs i f h
  unfold chunk allB strOf block blockN strOf
  rw [ByteArray.extract_mk, show (i + 1) * 512 - i * 512 = 512 by omega, hl]

/-- Several writes of a sector, the lowest first. -/
def DS.puts (S : DS) (k : Nat) : List Nat → DS
  | [] => S
  | f :: fs => (S.put1 k (block f)).puts (k + 1) fs
theorem puts_snoc (l : List Nat) : ∀ (S : DS) (k f : Nat), S.puts k (l ++ [f]) = (S.puts k l).put1 (k + l.length) (block f) := by
  induction l with
  | nil => intro S k f; rfl
  | cons g l ih =>
    intro S k f
    show (S.put1 k (block g)).puts (k + 1) (l ++ [f]) = ((S.put1 k (block g)).puts (k + 1) l).put1 (k + (l.length + 1)) (block f)
    rw [ih, show k + (l.length + 1) = k + 1 + l.length by omega]
theorem puts_same (l : List Nat) : ∀ (S : DS) (k : Nat), (S.puts k l).down = S.down ∧ (S.puts k l).armed = S.armed ∧ (S.puts k l).held.length = S.held.length + l.length ∧ (S.puts k l).safe = S.safe := by
  induction l with
  | nil => intro S k; exact ⟨rfl, rfl, rfl, rfl⟩
  | cons g l ih =>
    intro S k
    obtain ⟨a, b, c, d⟩ := ih (S.put1 k (block g)) (k + 1)
    refine ⟨a, b, c.trans ?_, d⟩
    simp only [DS.put1, List.length_append, List.length_cons, List.length_nil]; omega
theorem puts_ok (l : List Nat) : ∀ (S : DS) (k : Nat), S.Ok → k + l.length ≤ S.safe.length → (S.puts k l).Ok := by
  induction l with
  | nil => intro S k h _; exact h
  | cons g l ih =>
    intro S k h hk
    simp only [List.length_cons] at hk
    exact ih _ _ (h.put1 k _ (by omega) (size_block g)) (by show k + 1 + l.length ≤ S.safe.length; omega)
theorem free_goes {S : DS} (h1 : S.down = false) (h2 : S.armed = false) : S.goes = true := by unfold DS.goes; rw [h1, h2]; rfl
theorem wr_puts (data : ByteArray) (at' : Nat) (l : List Nat) : ∀ (S : DS) (k : Nat), S.down = false → S.armed = false → (∀ j f, l[j]? = some f → chunk data (k + j) = block f) →
    DS.wr at' data l.length k S = (S.puts (at' + k) l, 0) := by
  induction l with
  | nil => intro S k _ _ _; rfl
  | cons g l ih =>
    intro S k h1 h2 hc
    rw [List.length_cons, DS.wr_yes (free_goes h1 h2), ih _ _ (by exact h1) (by exact h2) (fun j f hj => by rw [show k + 1 + j = k + (j + 1) by omega]; exact hc (j + 1) f (by simpa using hj)), show chunk data k = block g from hc 0 g rfl]
    rfl

/-- A slice of bytes that came in. -/
def ViewB (w : World) (v : Value) (fs : List Nat) : Prop :=
  (∀ f ∈ fs, f < 256) ∧ ∃ ao cap, v = .slice ao fs.length cap ∧ ∀ j, j < fs.length → ∃ b off, ao = some ⟨b, off, none⟩ ∧ b < w.heap.size ∧ w.cell? ⟨b, off + j, none⟩ = some (.int .u8 (fs.getD j 0 : Nat))

theorem getD_lt {fs : List Nat} (h : ∀ f ∈ fs, f < 256) (j : Nat) (hj : j < fs.length) : fs.getD j 0 < 256 := by
  have := h (fs[j]) (List.getElem_mem hj)
  simpa [List.getD, List.getElem?_eq_getElem hj] using this
theorem getD_some (fs : List Nat) (j : Nat) (hj : j < fs.length) : fs[j]? = some (fs.getD j 0) := by
  simp [List.getD, List.getElem?_eq_getElem hj]
theorem take_snoc (fs : List Nat) (j : Nat) (hj : j < fs.length) : fs.take (j + 1) = fs.take j ++ [fs.getD j 0] := by
  rw [List.take_succ_eq_append_getElem hj]
  simp [List.getD, List.getElem?_eq_getElem hj]

theorem crash_copy {D : DH} {S : DS} {W0 W : World} {ks : List Int} {ao : Option Addr} (kc : Nat) (h : DevAt W D S) (hok : S.Ok) (hm : S.held.length ≤ 1000000) (hks : ks.length * 8 ≤ 140737488351232) (hlt : ∀ k, D.foot k → k < W0.heap.size)
    (hc : ∀ j, j < ks.length → ∃ b off, ao = some ⟨b, off, none⟩ ∧ b < W.heap.size ∧ W0.heap.size ≤ b ∧ W.cell? ⟨b, off + j, none⟩ = some (.int .i64 (ks.getD j 0))) :
    Calls Try.prog 15 #[.pointer (some ⟨D.b, 0, none⟩), .slice ao ks.length kc] W (DPost D W (.tuple #[]) (S.crash ks)) :=
  crash_any D S ks ao kc W h hok hm (by omega) (fun j hj => by
    obtain ⟨b, off, h1, h2, h3, h4⟩ := hc j hj
    exact ⟨b, off, h1, h2, fun hf => by have := hlt b hf; omega, h4⟩)

set_option maxHeartbeats 1000000 in
theorem whole_walk (a0 : Int) (fv kv : Value) (fs : List Nat) (ks : List Int) (w : World) (hf : ViewB w fv fs) (hk : View .i64 w kv ks) (hfs : fs.length ≤ 140737488351232) (hks : ks.length * 8 ≤ 140737488351232) :
    Calls Try.prog 3 #[.int .i64 a0, fv, kv] w fun e w' => e = .returned (.bool true) ∧ Below w.heap.size w w' := by
  obtain ⟨hf256, ao, cap, rfl, hfc⟩ := hf
  by_cases h20 : 20 < fs.length
  · have K := Lib.hid (wakes_any w)
    clear hfc hk hf256
    go_enter Try.func3, Try.ntmps3
    go_wp2_with fail
    refine K.out.mono ?_
    rintro e w1 ⟨rfl, hb⟩
    go_wp2_with fail
    go_ret
    exact ⟨rfl, hb⟩
  · have h20' : fs.length ≤ 20 := by omega
    have K1 := Lib.hid (new_yes 32 w (by omega) (by omega))
    have HFC := Lib.hid hfc
    have HK := Lib.hid hk
    clear hfc hk h20
    go_enter Try.func3, Try.ntmps3
    go_wp2_with fail
    refine K1.out.mono ?_
    rintro e w1 ⟨D, rfl, hD, hu1, hF1⟩
    have hs1 : Solo w w1 D (DS.fresh 32) := Solo.of_new (Below.refl _ _) hD (DS.fresh_ok 32) hu1 hF1
    have K2 := Lib.hid (new_yes 32 w1 (by omega) (by omega))
    have HS1 := Lib.hid hs1
    clear hD hs1 hu1 hF1
    go_wp2_with fail
    refine K2.out.mono ?_
    rintro e w2 ⟨E, rfl, hE, hu2, hF2⟩
    have hp : Pair w w2 D E (DS.fresh 32) (DS.fresh 32) := ⟨HS1.out.upd hu2, Solo.of_new HS1.out.below hE (DS.fresh_ok 32) hu2 hF2, fun k hk hE2 => by have := HS1.out.dev.lt k hk; have := hF2 k hE2; omega⟩
    have HP := Lib.hid hp
    have K3 := Lib.hid (mod_any a0 (32 - (fs.length : Int) + 1) w2 (by omega) (by omega))
    obtain ⟨k, hk⟩ : ∃ k : Nat, a0 % (32 - (fs.length : Int) + 1) = k := ⟨(a0 % (32 - (fs.length : Int) + 1)).toNat, by have := Int.emod_nonneg a0 (show (32 - (fs.length : Int) + 1) ≠ 0 by omega); omega⟩
    have hk32 : k + fs.length ≤ 32 := by have := Int.emod_lt_of_pos a0 (show 0 < (32 - (fs.length : Int) + 1) by omega); omega
    have HKK := Lib.hid hk
    clear hE hp hu2 hF2 hk
    go_wp2_with fail
    refine K3.out.mono ?_
    rintro e w3 ⟨rfl, rfl⟩
    rw [HKK.out]
    go_wp2_with fail
    go_loopw [12, 13] (fun s i wr => ∃ (j : Nat) (E' : DH), j ≤ fs.length ∧ i = .int .i64 j ∧ s = .string (allB (fs.take j)) ∧ E'.b = E.b ∧ Pair w wr D E' (DS.fresh 32) ((DS.fresh 32).puts k (fs.take j))) (fun _ i _ => fs.length - (intOf i).toNat)
    case atStart => exact ⟨0, E, by omega, rfl, rfl, rfl, HP.out⟩
    case round =>
      obtain ⟨j, E', hj, rfl, rfl, hb, hp⟩ := hrel
      have HB := Lib.hid hb
      have HP' := Lib.hid hp
      by_cases hlt : j < fs.length
      · obtain ⟨b, off, hao, hbl, hcell⟩ := HFC.out j hlt
        have c0 : wr.cell? ⟨b, off + j, none⟩ = some (.int .u8 (fs.getD j 0 : Nat)) := (hp.d.below.cell (p := ⟨b, off + j, none⟩) hbl).trans hcell
        have hlen : (fs.take j).length = j := by simp; omega
        have hsz : (allB (fs.take j)).size = j * 512 := by rw [size_allB, hlen]
        have hf := getD_lt hf256 j hlt
        have HSN := Lib.hid (take_snoc fs j hlt)
        obtain ⟨f, hfe⟩ : ∃ f, fs.getD j 0 = f := ⟨_, rfl⟩
        rw [hfe] at c0 hf HSN
        have hsb := size_block f
        have hsum : ¬ (9223372036854775807 < (allB (fs.take j)).size + (block f).size) := by omega
        have K4 := fun W => block_any f hf W
        have K4 := Lib.hid K4
        have HLEN := Lib.hid hlen
        subst hao
        clear hb hp HFC hfe hsz hsb hcell hlen
        go_wp2_with fail
        refine (K4.out _).mono ?_
        rintro e w4 ⟨rfl, hb4⟩
        have hp4 := HP'.out.quiet hb4
        have c4 : w4.cell? ⟨b, off + j, none⟩ = some (.int .u8 f) := (hb4.cell (p := ⟨b, off + j, none⟩) (World.block_lt_of_cell? wr _ c0)).trans c0
        have HP4 := Lib.hid hp4
        clear hp4
        go_wp2_with fail
        refine (K4.out _).mono ?_
        rintro e w5 ⟨rfl, hb5⟩
        have hp5 := HP4.out.quiet hb5
        obtain ⟨q1, q2, q3, q4⟩ := puts_same (fs.take j) (DS.fresh 32) k
        have hle : ((DS.fresh 32).puts k (fs.take j)).safe.length = 32 := by rw [q4]; simp [DS.fresh]
        have hhe : ((DS.fresh 32).puts k (fs.take j)).held.length = j := by rw [q3, HLEN.out]; simp [DS.fresh]
        have K5 := write_ok E' ((DS.fresh 32).puts k (fs.take j)) (k + j) 1 (block f) w5 hp5.e.dev (size_block f) (by rw [hle]; omega) (q1.trans rfl) (by rw [hhe]; omega)
        rw [DS.wr_yes (free_goes (q1.trans rfl) (q2.trans rfl)), chunk_one _ (size_block f), HB.out, show ((k + j : Nat) : Int) = (k : Int) + j by omega] at K5
        have K5 := Lib.hid K5
        have HP5 := Lib.hid hp5
        have HO := Lib.hid (hp5.e.ok.put1 (k + j + 0) (block f) (by rw [hle]; omega) (size_block f))
        clear hp5 q1 q2 q3 q4 hle hhe
        go_wp2_with fail
        refine K5.out.mono ?_
        rintro e w6 p
        obtain ⟨E2, hb2, he, hp6⟩ := HP5.out.swap.step HO.out p
        subst he
        have HP6 := Lib.hid (And.intro (hb2.trans HB.out) hp6.swap)
        clear p hb2 hp6
        go_wp2_with fail
        go_roundw
        case rel =>
          refine ⟨j + 1, E2, by omega, by go_num, ?_, HP6.out.1, ?_⟩
          · rw [HSN.out, ← allB_snoc]
          · rw [HSN.out, puts_snoc, HLEN.out]
            exact HP6.out.2
        case measure => simp [intOf]; omega
      · have hj' : j = fs.length := by omega
        subst hj'
        rw [List.take_length] at hp ⊢
        have K6 := write_ok D (DS.fresh 32) k fs.length (allB fs) wr hp.d.dev (size_allB fs) (by simp [DS.fresh]; omega) rfl (by simp [DS.fresh]; omega)
        have hwr := wr_puts (allB fs) k fs (DS.fresh 32) 0 rfl rfl (fun j f hj => by rw [Nat.zero_add]; exact allB_chunk fs j f hj)
        rw [Nat.add_zero] at hwr
        rw [hwr] at K6
        have hto := puts_ok fs (DS.fresh 32) k (DS.fresh_ok 32) (by simp [DS.fresh]; omega)
        obtain ⟨q1, q2, q3, q4⟩ := puts_same fs (DS.fresh 32) k
        have hth : ((DS.fresh 32).puts k fs).held.length = fs.length := by rw [q3]; simp [DS.fresh]
        have htl : ((DS.fresh 32).puts k fs).safe.length = 32 := by rw [q4]; simp [DS.fresh]
        obtain ⟨T, hT⟩ : ∃ T, (DS.fresh 32).puts k fs = T := ⟨_, rfl⟩
        rw [hT] at K6 hp hto hth htl
        have K6 := Lib.hid K6
        have HP7 := Lib.hid hp
        have HTO := Lib.hid (And.intro hto (And.intro hth htl))
        clear hwr hb hp hto hth htl q1 q2 q3 q4 hT hlt hj HP' HP
        go_wp2_with fail
        refine K6.out.mono ?_
        rintro e w7 p
        obtain ⟨D2, hb2, he, hp8⟩ := HP7.out.step HTO.out.1 p
        subst he
        have K7 := ops_any D2 T w7 hp8.d.dev
        have K8 := ops_any E' T w7 hp8.e.dev
        have K9 := held_any D2 T w7 hp8.d.dev
        rw [hb2] at K7 K9
        rw [HB.out] at K8
        rw [HTO.out.2.1] at K9
        have K7 := Lib.hid K7
        have K8 := Lib.hid K8
        have K9 := Lib.hid K9
        have HP8 := Lib.hid hp8
        have HB2 := Lib.hid hb2
        obtain ⟨ops, hops⟩ : ∃ n, T.ops = n := ⟨_, rfl⟩
        rw [hops] at K7 K8
        clear p hp8 hb2 hops
        go_wp2_with fail
        refine K7.out.mono ?_
        rintro e w8 ⟨rfl, rfl⟩
        go_wp2_with fail
        refine K8.out.mono ?_
        rintro e w8 ⟨rfl, rfl⟩
        go_wp2_with fail
        refine K9.out.mono ?_
        rintro e w8 ⟨rfl, rfl⟩
        have hp9 := HP8.out.quiet (w' := w7.alloc (.cells #[] 3)) ((Below.refl _ _).alloc (Nat.le_refl _) _)
        obtain ⟨ao2, kc2, w9, hrun, hu9, hc9⟩ := copy_ints (w7.alloc (.cells #[] 3)) ⟨w7.heap.size, 0, none⟩ kv ks 23 (HK.out.below hp9.d.below) hks
        have hp10 := hp9.quiet (hu9.below (Nat.le_refl _) (fun _ h => h.elim))
        have K10 := crash_copy kc2 hp10.d.dev HTO.out.1 (by rw [HTO.out.2.1]; omega) hks hp9.d.dev.lt hc9
        rw [HB2.out] at K10
        have K10 := Lib.hid K10
        have HRUN := Lib.hid hrun
        have HP10 := Lib.hid hp10
        clear hp9 hrun hu9 hc9 hp10
        go_wp2_with (at_builtin; refine wpList_append_run rfl (.tmp 88) (.tmp 89) 23 23 rfl _ _ rfl rfl _ _ HRUN.out ?_)
        refine K10.out.mono ?_
        rintro e w10 p
        obtain ⟨D3, hb3, he, hp11⟩ := HP10.out.step (HTO.out.1.crash ks) p
        subst he
        have hp12 := hp11.quiet (w' := w10.alloc (.cells #[] 3)) ((Below.refl _ _).alloc (Nat.le_refl _) _)
        obtain ⟨ao3, kc3, w11, hrun, hu11, hc11⟩ := copy_ints (w10.alloc (.cells #[] 3)) ⟨w10.heap.size, 0, none⟩ kv ks 23 (HK.out.below hp12.d.below) hks
        have hp13 := hp12.quiet (hu11.below (Nat.le_refl _) (fun _ h => h.elim))
        have K11 := crash_copy kc3 hp13.e.dev HTO.out.1 (by rw [HTO.out.2.1]; omega) hks hp12.e.dev.lt hc11
        rw [HB.out] at K11
        have K11 := Lib.hid K11
        have HRUN2 := Lib.hid hrun
        have HP13 := Lib.hid hp13
        have HB3 := Lib.hid (hb3.trans HB2.out)
        clear hp11 hp12 hrun hu11 hc11 hp13 p hb3
        go_wp2_with (at_builtin; refine wpList_append_run rfl (.tmp 93) (.tmp 94) 23 23 rfl _ _ rfl rfl _ _ HRUN2.out ?_)
        refine K11.out.mono ?_
        rintro e w12 p
        obtain ⟨E3, hbe, he, hp14⟩ := HP13.out.swap.step (HTO.out.1.crash ks) p
        subst he
        have hU : (T.crash ks).safe.length = 32 := (crash_len T ks).trans HTO.out.2.2
        have hUo := HTO.out.1.crash ks
        have hUd : (T.crash ks).down = false := rfl
        obtain ⟨U, hUe⟩ : ∃ U, T.crash ks = U := ⟨_, rfl⟩
        rw [hUe] at hp14 hU hUo hUd
        have K12 := read_ok D3 U 0 32 w12 hp14.e.dev hUo (by rw [hU]; omega) hUd
        rw [HB3.out] at K12
        have K12 := Lib.hid K12
        have HP14 := Lib.hid hp14.swap
        have HBE := Lib.hid (hbe.trans HB.out)
        have HU := Lib.hid (And.intro hU (And.intro hUo hUd))
        clear p hbe hp14 hU hUo hUd hUe
        go_wp2_with fail
        refine K12.out.mono ?_
        rintro e w13 ⟨rfl, hb13⟩
        have hp15 := HP14.out.quiet hb13
        have HP15 := Lib.hid hp15
        clear hp15
        obtain ⟨wo, rfl⟩ : ∃ wo : World, wo = wr := ⟨_, rfl⟩
        go_wp2_with fail
        go_loopw [16, 17] (fun s i wr => ∃ (j : Nat), j ≤ 32 ∧ i = .int .i64 j ∧ s = .string ⟨(U.reads 0 j).toArray⟩ ∧ Pair w wr D3 E3 U U) (fun _ i _ => 32 - (intOf i).toNat)
        case atStart => exact ⟨0, by omega, rfl, rfl, HP15.out⟩
        case round =>
          obtain ⟨j, hj, rfl, rfl, hp⟩ := hrel
          have HP' := Lib.hid hp
          by_cases hlt : j < 32
          · have K13 := read_ok E3 U j 1 wr hp.e.dev HU.out.2.1 (by rw [HU.out.1]; omega) HU.out.2.2
            rw [HBE.out, reads_one] at K13
            have K13 := Lib.hid K13
            have z1 : (⟨(U.reads 0 j).toArray⟩ : ByteArray).size = j * 512 := by rw [← HU.out.2.1.reads_length 0 j]; show (U.reads 0 j).toArray.size = _; simp
            have z2 := HU.out.2.1.sector j
            have hsum : ¬ (9223372036854775807 < (U.reads 0 j).length + (U.sector j).size) := by rw [HU.out.2.1.reads_length]; omega
            clear hp z1 z2
            go_wp2_with fail
            refine K13.out.mono ?_
            rintro e w14 ⟨rfl, hb14⟩
            go_wp2_with fail
            go_roundw
            case rel =>
              refine ⟨j + 1, by omega, by go_num, ?_, HP'.out.quiet hb14⟩
              rw [DS.reads, Nat.zero_add]
              congr 1
            case measure => simp [intOf]; omega
          · have hj' : j = 32 := by omega
            subst hj'
            have K14 := Lib.hid (wakes_any wr)
            clear hp
            go_wp2_with fail
            refine K14.out.mono ?_
            rintro e w15 ⟨rfl, hb15⟩
            go_wp2_with fail
            go_ret
            exact ⟨by simp, HP'.out.d.below.trans (hb15.mono HP'.out.d.below.size)⟩

end Go.Proofs.Ytojcoambodedbaa
