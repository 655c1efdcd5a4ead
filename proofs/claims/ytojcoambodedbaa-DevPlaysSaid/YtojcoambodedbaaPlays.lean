/- Calls one behind the other, with crashes that lose, keep and tear, answer as the page says: the law walked. -/
import Derived.Deep.CutBlock
import Derived.Deep.RegionHeld3
import Derived.Deep.DeepCutAuto
import Derived.Outline
import Derived.Test.YtojcoambodedbaaRj
set_option linter.unusedVariables false
set_option linter.unusedSimpArgs false
set_option linter.unnecessarySimpa false
namespace Go.Proofs.Ytojcoambodedbaa
open Go.RowKit

/-- One step, as data; its slice lies as kv. -/
structure Stp where
  kind : Int
  at' : Int
  n : Int
  fill : Int
  data : ByteArray
  kv : Value
  ks : List Int
structure Stp.Ok (W : World) (x : Stp) : Prop where
  fill : 0 ≤ x.fill ∧ x.fill < 256
  keep : View .i64 W x.kv x.ks
  reach : x.ks.length * 8 ≤ 140737488351232
  kind : -9223372036854775808 ≤ x.kind ∧ x.kind ≤ 9223372036854775807
  size : x.data.size ≤ 140737488351232
structure At6 (W : World) (b o : Nat) (x : Stp) : Prop where
  c0 : W.cell? ⟨b, o, none⟩ = some (.int .i64 x.kind)
  c1 : W.cell? ⟨b, o + 1, none⟩ = some (.int .i64 x.at')
  c2 : W.cell? ⟨b, o + 2, none⟩ = some (.int .i64 x.n)
  c3 : W.cell? ⟨b, o + 3, none⟩ = some (.int .u8 x.fill)
  c4 : W.cell? ⟨b, o + 4, none⟩ = some (.string x.data)
  c5 : W.cell? ⟨b, o + 5, none⟩ = some x.kv
theorem At6.below {n : Nat} {A B : World} {b o : Nat} {x : Stp} (h : At6 A b o x) (hb : Below n A B) (hn : b < n) : At6 B b o x :=
  ⟨(hb.cell (p := ⟨b, o, none⟩) hn).trans h.c0, (hb.cell (p := ⟨b, o + 1, none⟩) hn).trans h.c1, (hb.cell (p := ⟨b, o + 2, none⟩) hn).trans h.c2, (hb.cell (p := ⟨b, o + 3, none⟩) hn).trans h.c3, (hb.cell (p := ⟨b, o + 4, none⟩) hn).trans h.c4, (hb.cell (p := ⟨b, o + 5, none⟩) hn).trans h.c5⟩
def stepCells (x : Stp) : Array Value := #[.int .i64 x.kind, .int .i64 x.at', .int .i64 x.n, .int .u8 x.fill, .string x.data, x.kv]
/-- The value v is a slice that holds the steps l. -/
def Steps (W : World) (v : Value) (l : List Stp) : Prop :=
  ∃ a c, v = .slice a l.length c ∧ ∀ k x, l[k]? = some x → ∃ b off, a = some ⟨b, off, none⟩ ∧ b < W.heap.size ∧ At6 W b (off + k * 6) x ∧ x.Ok W

structure Box6 (W : World) (b : Nat) (x : Stp) : Prop where
  c0 : W.cell? ⟨b, 0, none⟩ = some (.int .i64 x.kind)
  c1 : W.cell? ⟨b, 1, none⟩ = some (.int .i64 x.at')
  c2 : W.cell? ⟨b, 2, none⟩ = some (.int .i64 x.n)
  c3 : W.cell? ⟨b, 3, none⟩ = some (.int .u8 x.fill)
  c4 : W.cell? ⟨b, 4, none⟩ = some (.string x.data)
  c5 : W.cell? ⟨b, 5, none⟩ = some x.kv
theorem box_new (W : World) (x : Stp) : Box6 (W.alloc (.cells (stepCells x) 47)) W.heap.size x := by
  have h := heap_alloc_new W (.cells (stepCells x) 47)
  refine ⟨?_, ?_, ?_, ?_, ?_, ?_⟩ <;> (simp only [World.cell?, h]; rfl)
theorem Box6.upd {F : Nat → Prop} {w w' : World} {b : Nat} {x : Stp} (h : Box6 w b x) (u : Upd F w w') (hb : b < w.heap.size) (hF : ¬ F b) : Box6 w' b x := by
  have e := u.block b hb hF
  exact ⟨(World.cell?_of_block (a := ⟨b, 0, none⟩) e).trans h.c0, (World.cell?_of_block (a := ⟨b, 1, none⟩) e).trans h.c1, (World.cell?_of_block (a := ⟨b, 2, none⟩) e).trans h.c2, (World.cell?_of_block (a := ⟨b, 3, none⟩) e).trans h.c3, (World.cell?_of_block (a := ⟨b, 4, none⟩) e).trans h.c4, (World.cell?_of_block (a := ⟨b, 5, none⟩) e).trans h.c5⟩
theorem Box6.far {W w0 w w' : World} {b : Nat} {x : Stp} (h : Box6 w b x) (k : w.heap.size ≤ w'.heap.size ∧ FarKept W w0 w w') (hb : b < w.heap.size) (hf : Far W w0 b) : Box6 w' b x := by
  have e := k.2 b hb hf
  exact ⟨(World.cell?_of_block (a := ⟨b, 0, none⟩) e).trans h.c0, (World.cell?_of_block (a := ⟨b, 1, none⟩) e).trans h.c1, (World.cell?_of_block (a := ⟨b, 2, none⟩) e).trans h.c2, (World.cell?_of_block (a := ⟨b, 3, none⟩) e).trans h.c3, (World.cell?_of_block (a := ⟨b, 4, none⟩) e).trans h.c4, (World.cell?_of_block (a := ⟨b, 5, none⟩) e).trans h.c5⟩
theorem block_int (z : Int) (h0 : 0 ≤ z) (h1 : z < 256) (w : World) : Calls Try.prog 11 #[.int .u8 z] w fun e w' => ∃ t : ByteArray, e = .returned (.string t) ∧ t.size = 512 ∧ Below w.heap.size w w' := by
  obtain ⟨b, rfl⟩ : ∃ b : Nat, z = b := ⟨z.toNat, by omega⟩
  refine (block_any b (by omega) w).mono ?_
  rintro e w' ⟨rfl, hB⟩
  exact ⟨_, rfl, size_block b, hB⟩

set_option maxRecDepth 100000 in
set_option maxHeartbeats 16000000 in
theorem plays_walk (sectors : Int) (l : List Stp) (hl : l.length ≤ 140737488351232) (v : Value) (w : World) (h : Steps w v l) (hs : -9223372036854775808 ≤ sectors ∧ sectors ≤ 9223372036854775807) :
    Calls Try.prog 6 #[.int .i64 sectors, v] w fun e w' => e = .returned (.bool true) ∧ Below w.heap.size w w' := by
  obtain ⟨sa, sc, rfl, hst⟩ := h
  have hst' := Lib.hid hst
  clear hst
  obtain ⟨len, hlen⟩ : ∃ len, l.length = len := ⟨_, rfl⟩
  rw [hlen] at hl ⊢
  have hlen' := Lib.hid hlen
  clear hlen
  have cN := Lib.hid new_say
  go_enter Try.func6, Try.ntmps6
  go_upto_region 1 with fail
  go_cut [28] (fun s28 wx => ∃ b : Bool, s28 = .bool b ∧ w = wx)
  case first =>
    by_cases h1 : 200 < sectors
    · go_wp2
      all_goals (go_meet; exact ⟨_, rfl, rfl⟩)
    · have h1' : sectors ≤ 200 := by omega
      clear h1
      go_wp2
      all_goals (go_meet; exact ⟨_, rfl, rfl⟩)
  case rest =>
    obtain ⟨b, rfl, rfl⟩ := hcut
    go_upto_if 28 with fail
    go_cut [0] (fun s0 wx => ∃ n : Int, s0 = .int .i64 n ∧ w = wx)
    case first =>
      go_wp2
      all_goals (go_meet; exact ⟨_, rfl, rfl⟩)
    case rest =>
    obtain ⟨n, rfl, rfl⟩ := hcut
    go_wp2_with fail
    refine (cN.out n _).mono ?_
    rintro e w1 ⟨p, c, rfl, hB1, hN⟩
    have hN' := Lib.hid hN
    clear hN
    go_wp2_with fail
    refine (hN'.out _ (Upd.refl _ _)).mono ?_
    rintro e w2 ⟨p', m, rfl, hnn, hS⟩
    have hS' := Lib.hid hS
    have hz := Lib.hid (size_say hS)
    have hz' := Lib.hid (rsize_say hS)
    clear hS
    go_wp2_with fail
    refine hz.out.mono ?_
    rintro e w3 ⟨rfl, rfl⟩
    go_wp2_with fail
    refine hz'.out.mono ?_
    rintro e w3 ⟨rfl, rfl⟩
    go_wp2_with fail
    clear hz hz' hN' cN
    go_loopw [9] (fun i wr => ∃ k : Nat, k ≤ len ∧ k ≤ 60 ∧ i = .int .i64 k ∧ State w wr (.pointer p) (.pointer p') m (5 * k)) (fun i _ => len - (intOf i).toNat)
    case atStart => exact ⟨0, by omega, by omega, rfl, hS'.out⟩
    case round =>
      obtain ⟨k, hk, hk60, rfl, hR⟩ := hrel
      clear hS' hnn
      have HR := Lib.hid hR
      have hBz := hR.below.size
      have hRB := Lib.hid hR.below
      clear hR
      by_cases hlt : k < len ∧ k < 60
      · obtain ⟨hlt1, hlt2⟩ := hlt
        obtain ⟨x, hx⟩ : ∃ x, l[k]? = some x := ⟨_, List.getElem?_eq_getElem (by rw [hlen'.out]; exact hlt1)⟩
        obtain ⟨b, off, hsa, hb, h6, hok⟩ := hst'.out k x hx
        have h6' := h6.below hRB.out hb
        have c0 := h6'.c0
        have c1 := h6'.c1
        have c2 := h6'.c2
        have c3 := h6'.c3
        have c4 := h6'.c4
        have c5 := h6'.c5
        obtain ⟨ka, kc, hkv, hkc⟩ := hok.keep
        rw [hkv] at c5
        have hkc' := Lib.hid hkc
        have HOK := Lib.hid hok
        have hfill := hok.fill
        have hkind := hok.kind
        have hdsz := hok.size
        obtain ⟨f1, f2⟩ := hfill
        obtain ⟨d1, d2⟩ := hkind
        clear hx h6 h6' hok hkv hkc
        obtain ⟨xk, xa, xn, xf, xd, xv, ks⟩ := x
        dsimp only at *
        obtain ⟨F, rfl⟩ : ∃ F : Nat, xf = F := ⟨xf.toNat, by omega⟩
        subst hsa
        go_upto_block 2 with fail
        go_cut [12] (fun s12 wx => State w wx (.pointer p) (.pointer p') m (5 * (k + 1)))
        case first =>
          clear c0 c1 c2 c3 c4 c5
          by_cases k0 : xk = 0
          · subst k0
            obtain ⟨W0, hW0⟩ : ∃ W0, W0 = wr.alloc (.cells #[.int .i64 0, .int .i64 xa, .int .i64 xn, .int .u8 F, .string xd, .slice ka ks.length kc] 47) := ⟨_, rfl⟩
            have hbox := Lib.hid (show Box6 W0 wr.heap.size ⟨0, xa, xn, F, xd, .slice ka ks.length kc, ks⟩ from by rw [hW0]; exact box_new wr ⟨0, xa, xn, F, xd, .slice ka ks.length kc, ks⟩)
            have hU0 := Lib.hid (show Upd (fun _ => False) wr W0 from by rw [hW0]; exact (Upd.refl _ _).alloc _)
            have hlt0 := Lib.hid (show wr.heap.size < W0.heap.size from by rw [hW0]; simp)
            have bx0 := hbox.out.c0
            rw [← hW0]
            have hW0' := Lib.hid hW0
            clear hW0
            as_aux_lemma =>
              have b2 := hbox.out.c2
              have cM := Lib.hid (mod_any xn 6 W0 (by omega) (by omega))
              have hN0 : 0 ≤ xn % 6 := Int.emod_nonneg _ (by omega)
              have hN6 : xn % 6 < 6 := Int.emod_lt_of_pos _ (by omega)
              generalize xn % 6 = N0 at cM hN0 hN6
              obtain ⟨N, rfl⟩ : ∃ N : Nat, N0 = N := ⟨N0.toNat, by omega⟩
              go_wp2_with fail
              refine cM.out.mono ?_
              rintro e wm ⟨rfl, rfl⟩
              go_wp2_with fail
              obtain ⟨wo, hwo⟩ : ∃ wo : World, wo = wr := ⟨_, rfl⟩
              subst hwo
              go_loopw [12, 13] (fun sv i ws => ∃ (q : Nat) (d : ByteArray), q ≤ N ∧ i = .int .i64 q ∧ sv = .string d ∧ d.size = q * 512 ∧ Below W0.heap.size W0 ws) (fun _ i _ => N - (intOf i).toNat)
              case atStart => exact ⟨0, ⟨#[]⟩, by omega, rfl, rfl, rfl, Below.refl _ _⟩
              case round =>
                obtain ⟨q, d, hq, rfl, rfl, hd, hBs⟩ := hrel
                have hBs' := Lib.hid hBs
                have hbx := hbox.out.upd (Upd.ofBelow (F := fun _ => False) hBs (fun j hj h => by omega)) hlt0.out (fun h => h)
                have hds : d.size ≤ 2560 := by omega
                have hd' := Lib.hid hd
                clear hd hBs
                by_cases hlq : q < N
                · have b3 := hbx.c3
                  have cB := Lib.hid (fun (z : Int) (h0 : 0 ≤ z) (h1 : z < 256) (W : World) => block_int z h0 h1 W)
                  clear hbx
                  go_wp2_with fail
                  refine (cB.out _ (by omega) (by omega) _).mono ?_
                  rintro e wb ⟨t, rfl, ht, hBb⟩
                  have hsum : ¬ (9223372036854775807 < d.size + t.size) := by omega
                  have hcat := Lib.hid (show (d ++ t).size = (q + 1) * 512 by rw [ByteArray.size_append, hd'.out, ht]; omega)
                  have hB2 := Lib.hid (hBs'.out.trans (hBb.mono hBs'.out.size))
                  have ht' := Lib.hid ht
                  clear ht hBb
                  go_wp2_with fail
                  go_roundw
                  case rel => exact ⟨q + 1, _, by omega, by go_num, rfl, hcat.out, hB2.out⟩
                  case measure => simp [intOf]; omega
                · have b1 := hbx.c1
                  clear hbx
                  have u1 : Upd (fun _ => False) wo wr := (hU0.out).trans (Upd.ofBelow (F := fun _ => False) hBs'.out (fun j hj h => by omega)) (fun _ _ h => h)
                  have cW := Lib.hid (write_say HR.out u1.drew (by omega) xa d (by omega))
                  clear u1
                  go_wp2_with fail
                  have hltw : wo.heap.size < wr.heap.size := by have h1 := hlt0.out; have h2 := hBs'.out.size; omega
                  go_region_held3 (fun w' => w'.cell? ⟨wo.heap.size, 1, none⟩ = some (.int .i64 xa))
                    (first
                      | exact b1
                      | (have hz := hfw1.2 wo.heap.size hltw (Or.inr (Nat.le_refl _)); exact (World.cell?_of_block (a := ⟨wo.heap.size, 1, none⟩) hz).trans b1)
                      | (have hz := hfw1.2 wo.heap.size hltw (Or.inr (Nat.le_refl _)); have hy := hfq.2 wo.heap.size (Nat.lt_of_lt_of_le hltw hfw1.1) (Or.inr (Nat.le_refl _)); exact (World.cell?_of_block (a := ⟨wo.heap.size, 1, none⟩) (hy.trans hz)).trans b1))
                    (first
                      | (go_at_call 12; refine cW.out.mono ?_; rintro e wd ⟨vv, rfl, hbw1, hfw1, hth⟩)
                      | (go_at_call 24; refine (hth _ (Upd.refl _ _)).mono ?_; rintro e wq ⟨rfl, hSq, hfq⟩))
                  have hSq' := Lib.hid hSq
                  clear hSq hfq
                  go_wp2_with fail
                  go_meet
                  exact hSq'.out.more (by omega)
          · by_cases k1 : xk = 1
            · subst k1
              obtain ⟨W0, hW0⟩ : ∃ W0, W0 = wr.alloc (.cells #[.int .i64 1, .int .i64 xa, .int .i64 xn, .int .u8 F, .string xd, .slice ka ks.length kc] 47) := ⟨_, rfl⟩
              have hbox := Lib.hid (show Box6 W0 wr.heap.size ⟨1, xa, xn, F, xd, .slice ka ks.length kc, ks⟩ from by rw [hW0]; exact box_new wr ⟨1, xa, xn, F, xd, .slice ka ks.length kc, ks⟩)
              have hU0 := Lib.hid (show Upd (fun _ => False) wr W0 from by rw [hW0]; exact (Upd.refl _ _).alloc _)
              have hlt0 := Lib.hid (show wr.heap.size < W0.heap.size from by rw [hW0]; simp)
              have bx0 := hbox.out.c0
              rw [← hW0]
              have hW0' := Lib.hid hW0
              clear hW0
              as_aux_lemma =>
                have cR := Lib.hid (read_say HR.out hU0.out xa xn)
                have b1 := hbox.out.c1
                have b2 := hbox.out.c2
                go_wp2_with fail
                refine cR.out.mono ?_
                rintro e wd ⟨sv, vv, rfl, hbw1, hfw1, _, hth⟩
                have hbx := hbox.out.far hfw1 hlt0.out (Or.inr (Nat.le_refl _))
                have d1 := hbx.c1
                have d2 := hbx.c2
                have hth' := Lib.hid hth
                have hvv : (vv == vv) = true := by simp
                clear hbx hbw1 hfw1 hth b1 b2
                go_wp2_with fail
                refine (hth'.out _ (Upd.refl _ _)).mono ?_
                rintro e wq ⟨rfl, hSq, hfq⟩
                have hSq' := Lib.hid hSq
                clear hSq hfq
                go_wp2_with fail
                go_meet
                exact hSq'.out.more (by omega)
            · by_cases k2 : xk = 2
              · subst k2
                obtain ⟨W0, hW0⟩ : ∃ W0, W0 = wr.alloc (.cells #[.int .i64 2, .int .i64 xa, .int .i64 xn, .int .u8 F, .string xd, .slice ka ks.length kc] 47) := ⟨_, rfl⟩
                have hbox := Lib.hid (show Box6 W0 wr.heap.size ⟨2, xa, xn, F, xd, .slice ka ks.length kc, ks⟩ from by rw [hW0]; exact box_new wr ⟨2, xa, xn, F, xd, .slice ka ks.length kc, ks⟩)
                have hU0 := Lib.hid (show Upd (fun _ => False) wr W0 from by rw [hW0]; exact (Upd.refl _ _).alloc _)
                have hlt0 := Lib.hid (show wr.heap.size < W0.heap.size from by rw [hW0]; simp)
                have bx0 := hbox.out.c0
                rw [← hW0]
                have hW0' := Lib.hid hW0
                clear hW0
                as_aux_lemma =>
                  have cR := Lib.hid (flush_say (HR.out.quiet hU0.out) (by omega))
                  go_wp2_with fail
                  refine cR.out.mono ?_
                  rintro e wd ⟨vv, rfl, hbw1, hth⟩
                  have hth' := Lib.hid hth
                  clear hbw1 hth
                  go_wp2_with fail
                  refine (hth'.out _ (Upd.refl _ _)).mono ?_
                  rintro e wq ⟨rfl, hSq, hfq⟩
                  have hSq' := Lib.hid hSq
                  clear hSq hfq
                  go_wp2_with fail
                  go_meet
                  exact hSq'.out.more (by omega)
              · by_cases k3 : xk = 3
                · subst k3
                  obtain ⟨W0, hW0⟩ : ∃ W0, W0 = wr.alloc (.cells #[.int .i64 3, .int .i64 xa, .int .i64 xn, .int .u8 F, .string xd, .slice ka ks.length kc] 47) := ⟨_, rfl⟩
                  have hbox := Lib.hid (show Box6 W0 wr.heap.size ⟨3, xa, xn, F, xd, .slice ka ks.length kc, ks⟩ from by rw [hW0]; exact box_new wr ⟨3, xa, xn, F, xd, .slice ka ks.length kc, ks⟩)
                  have hU0 := Lib.hid (show Upd (fun _ => False) wr W0 from by rw [hW0]; exact (Upd.refl _ _).alloc _)
                  have hlt0 := Lib.hid (show wr.heap.size < W0.heap.size from by rw [hW0]; simp)
                  have bx0 := hbox.out.c0
                  rw [← hW0]
                  have hW0' := Lib.hid hW0
                  clear hW0
                  as_aux_lemma =>
                    have cR := Lib.hid (arm_say HR.out hU0.out xn)
                    have b2 := hbox.out.c2
                    go_wp2_with fail
                    refine cR.out.mono ?_
                    rintro e wd ⟨rfl, hbw1, hfw1, hth⟩
                    have hbx := hbox.out.far hfw1 hlt0.out (Or.inr (Nat.le_refl _))
                    have d2 := hbx.c2
                    have hth' := Lib.hid hth
                    clear hbx hbw1 hfw1 hth b2
                    go_wp2_with fail
                    refine (hth'.out _ (Upd.refl _ _)).mono ?_
                    rintro e wq ⟨rfl, hSq, hfq⟩
                    have hSq' := Lib.hid hSq
                    clear hSq hfq
                    go_wp2_with fail
                    go_meet
                    exact hSq'.out.more (by omega)
                · by_cases k4 : xk = 4
                  · subst k4
                    obtain ⟨W0, hW0⟩ : ∃ W0, W0 = wr.alloc (.cells #[.int .i64 4, .int .i64 xa, .int .i64 xn, .int .u8 F, .string xd, .slice ka ks.length kc] 47) := ⟨_, rfl⟩
                    have hbox := Lib.hid (show Box6 W0 wr.heap.size ⟨4, xa, xn, F, xd, .slice ka ks.length kc, ks⟩ from by rw [hW0]; exact box_new wr ⟨4, xa, xn, F, xd, .slice ka ks.length kc, ks⟩)
                    have hU0 := Lib.hid (show Upd (fun _ => False) wr W0 from by rw [hW0]; exact (Upd.refl _ _).alloc _)
                    have hlt0 := Lib.hid (show wr.heap.size < W0.heap.size from by rw [hW0]; simp)
                    have bx0 := hbox.out.c0
                    rw [← hW0]
                    have hW0' := Lib.hid hW0
                    clear hW0
                    as_aux_lemma =>
                      have b5 := hbox.out.c5
                      have hlt1 := hlt0.out
                      have hkw : KCells w ka ks := hkc'.out
                      have hVw : View .i64 w (.slice ka ks.length kc) ks := ⟨ka, kc, rfl, hkc'.out⟩
                      have hBW0 : Below w.heap.size w W0 := hRB.out.trans ((hU0.out.below (Nat.le_refl _) (fun _ h => h.elim)).mono hBz)
                      have hBW1 : Below w.heap.size w (W0.alloc (.cells #[] 3)) := hBW0.alloc hBW0.size _
                      obtain ⟨ao2, kc2, W2, hrun, hu2, hc2⟩ := copy_ints (W0.alloc (.cells #[] 3)) ⟨W0.heap.size, 0, none⟩ _ ks 23 (View.below hVw (hBW1.mono (Nat.le_refl _))) HOK.out.reach
                      have hUW1 : Upd (fun _ => False) wr (W0.alloc (.cells #[] 3)) := hU0.out.alloc _
                      have hUW2 := hUW1.trans hu2 (fun _ _ h => h)
                      have hk2 : KCells W2 ao2 ks := fun j hj => by
                        obtain ⟨b', off', h1, h2, h3, h4⟩ := hc2 j hj
                        exact ⟨b', off', h1, h2, h4⟩
                      have hf2 : 0 < ks.length → FarAddr w wr ao2 := by
                        intro hj b' off' e
                        obtain ⟨b2, off2, h1, h2, h3, h4⟩ := hc2 0 hj
                        rw [e] at h1
                        simp only [Option.some.injEq, Addr.mk.injEq] at h1
                        right
                        have := hUW1.size
                        omega
                      have hfk : 0 < ks.length → FarAddr w wr ka := by
                        intro hj b' off' e
                        obtain ⟨b2, off2, h1, h2, h3⟩ := hkw 0 hj
                        rw [e] at h1
                        simp only [Option.some.injEq, Addr.mk.injEq] at h1
                        left
                        omega
                      have hkW2 : KCells W2 ka ks := by
                        have hB : Below w.heap.size w W2 := hBW1.trans ((hu2.below (Nat.le_refl _) (fun _ h => h.elim)).mono hBW1.size)
                        intro j hj
                        obtain ⟨b', off', h1, h2, h3⟩ := hkw j hj
                        exact ⟨b', off', h1, Nat.lt_of_lt_of_le h2 hB.size, (hB.cell (p := ⟨b', off' + j, none⟩) h2).trans h3⟩
                      have hkl : ks.length ≤ 140737488351232 := by have := HOK.out.reach; dsimp only at this; omega
                      have cC := Lib.hid (crash_say HR.out hUW2 (by omega) ks (by omega) ao2 ka kc2 kc hk2 hf2 hkW2 hfk)
                      have hbox2 := Lib.hid ((hbox.out.upd ((Upd.refl (fun _ => False) W0).alloc (.cells #[] 3)) hlt1 (fun h => h)).upd hu2 (by rw [World.size_alloc]; omega) (fun h => h))
                      have hlt2 := Lib.hid (show wr.heap.size < W2.heap.size from by have := hu2.size; rw [World.size_alloc] at this; omega)
                      have HK2 := Lib.hid hk2
                      have HKW2 := Lib.hid hkW2
                      have HF2 := Lib.hid hf2
                      have HFK := Lib.hid hfk
                      have HRUN := Lib.hid hrun
                      clear hkw hVw hBW0 hBW1 hrun hu2 hc2 hUW1 hUW2 hk2 hf2 hfk hkW2
                      go_wp2_with (at_builtin; refine wpList_append_run rfl (.tmp 148) (.tmp 150) 23 23 rfl _ _ rfl rfl _ _ HRUN.out ?_)
                      refine cC.out.mono ?_
                      rintro e w3 ⟨rfl, hB3, hs3, hfk3, hth⟩
                      have hbox3 := Lib.hid (hbox2.out.far ⟨hs3, hfk3⟩ hlt2.out (Or.inr (Nat.le_refl _)))
                      have d5 := hbox3.out.c5
                      have HK3 := Lib.hid (HK2.out.far HF2.out hfk3 hs3)
                      have HKW3 := Lib.hid (HKW2.out.far HFK.out hfk3 hs3)
                      have hlt3 := Lib.hid (show wr.heap.size < w3.heap.size from by have := hlt2.out; omega)
                      have hth' := Lib.hid hth
                      clear hB3 hs3 hfk3 hth b5
                      go_wp2_with fail
                      refine (hth'.out _ (Upd.refl _ _)).mono ?_
                      rintro e w4 ⟨rfl, hS4, hs4, hfk4⟩
                      have hbox4 := hbox3.out.far ⟨hs4, hfk4⟩ hlt3.out (Or.inr (Nat.le_refl _))
                      have f5 := hbox4.c5
                      have cI := Lib.hid (ints_same ks (by omega) ao2 ka kc2 kc w4 (HK3.out.far HF2.out hfk4 hs4) (HKW3.out.far HFK.out hfk4 hs4))
                      have hS4' := Lib.hid hS4
                      clear hS4 hs4 hfk4 hbox4 d5
                      go_wp2_with fail
                      refine cI.out.mono ?_
                      rintro e w5 ⟨rfl, qd, rfl⟩
                      go_wp2_with fail
                      go_meet
                      exact (hS4'.out.quiet ((Upd.refl _ _).drewN qd)).more (by omega)
                  · by_cases k5 : xk = 5
                    · subst k5
                      obtain ⟨W0, hW0⟩ : ∃ W0, W0 = wr.alloc (.cells #[.int .i64 5, .int .i64 xa, .int .i64 xn, .int .u8 F, .string xd, .slice ka ks.length kc] 47) := ⟨_, rfl⟩
                      have hbox := Lib.hid (show Box6 W0 wr.heap.size ⟨5, xa, xn, F, xd, .slice ka ks.length kc, ks⟩ from by rw [hW0]; exact box_new wr ⟨5, xa, xn, F, xd, .slice ka ks.length kc, ks⟩)
                      have hU0 := Lib.hid (show Upd (fun _ => False) wr W0 from by rw [hW0]; exact (Upd.refl _ _).alloc _)
                      have hlt0 := Lib.hid (show wr.heap.size < W0.heap.size from by rw [hW0]; simp)
                      have bx0 := hbox.out.c0
                      rw [← hW0]
                      have hW0' := Lib.hid hW0
                      clear hW0
                      as_aux_lemma =>
                        have b1 := hbox.out.c1
                        have b4 := hbox.out.c4
                        by_cases hsz : xd.size ≤ 3000
                        · have hg : decide ((xd.size : Int) ≤ 3000) = true := by simp; omega
                          have cW := Lib.hid (write_say HR.out hU0.out.drew (by omega) xa xd hsz)
                          go_wp2_with fail
                          go_region_held3 (fun w' => w'.cell? ⟨wr.heap.size, 1, none⟩ = some (.int .i64 xa) ∧ w'.cell? ⟨wr.heap.size, 4, none⟩ = some (.string xd))
                            (first
                              | exact ⟨b1, b4⟩
                              | (have hz := hfw1.2 wr.heap.size hlt0.out (Or.inr (Nat.le_refl _)); exact ⟨(World.cell?_of_block (a := ⟨wr.heap.size, 1, none⟩) hz).trans b1, (World.cell?_of_block (a := ⟨wr.heap.size, 4, none⟩) hz).trans b4⟩)
                              | (have hz := hfw1.2 wr.heap.size hlt0.out (Or.inr (Nat.le_refl _)); have hy := hfq.2 wr.heap.size (Nat.lt_of_lt_of_le hlt0.out hfw1.1) (Or.inr (Nat.le_refl _)); exact ⟨(World.cell?_of_block (a := ⟨wr.heap.size, 1, none⟩) (hy.trans hz)).trans b1, (World.cell?_of_block (a := ⟨wr.heap.size, 4, none⟩) (hy.trans hz)).trans b4⟩))
                            (first
                              | (go_at_call 12; refine cW.out.mono ?_; rintro e wd ⟨vv, rfl, hbw1, hfw1, hth⟩)
                              | (go_at_call 24; refine (hth _ (Upd.refl _ _)).mono ?_; rintro e wq ⟨rfl, hSq, hfq⟩))
                          have hSq' := Lib.hid hSq
                          clear hSq hfq
                          go_wp2_with fail
                          go_meet
                          exact hSq'.out.more (by omega)
                        · have hg : decide ((xd.size : Int) ≤ 3000) = false := by simp; omega
                          have hSq' := Lib.hid (HR.out.quiet hU0.out)
                          go_wp2_with fail
                          go_quiet (fail)
                          go_wp2_with fail
                          go_meet
                          exact (hSq'.out.quiet ((Upd.refl _ _).drewN nq)).more (by omega)
                    · obtain ⟨W0, hW0⟩ : ∃ W0, W0 = wr.alloc (.cells #[.int .i64 xk, .int .i64 xa, .int .i64 xn, .int .u8 F, .string xd, .slice ka ks.length kc] 47) := ⟨_, rfl⟩
                      have hbox := Lib.hid (show Box6 W0 wr.heap.size ⟨xk, xa, xn, F, xd, .slice ka ks.length kc, ks⟩ from by rw [hW0]; exact box_new wr ⟨xk, xa, xn, F, xd, .slice ka ks.length kc, ks⟩)
                      have hU0 := Lib.hid (show Upd (fun _ => False) wr W0 from by rw [hW0]; exact (Upd.refl _ _).alloc _)
                      have hlt0 := Lib.hid (show wr.heap.size < W0.heap.size from by rw [hW0]; simp)
                      have bx0 := hbox.out.c0
                      rw [← hW0]
                      clear hW0
                      as_aux_lemma =>
                        have e0 : (xk == 0) = false := by simp [k0]
                        have e1 : (xk == 1) = false := by simp [k1]
                        have e2 : (xk == 2) = false := by simp [k2]
                        have e3 : (xk == 3) = false := by simp [k3]
                        have e4 : (xk == 4) = false := by simp [k4]
                        have e5 : (xk == 5) = false := by simp [k5]
                        have hSq' := Lib.hid (HR.out.quiet hU0.out)
                        clear k0 k1 k2 k3 k4 k5
                        go_wp2_with fail
                        go_meet
                        exact hSq'.out.more (by omega)
        case rest =>
          as_aux_lemma =>
            have hSc := Lib.hid hcut
            clear hcut
            obtain ⟨vo, ho1, ho2⟩ := ops_say hSc.out
            obtain ⟨vd, hd1, hd2⟩ := down_say hSc.out
            obtain ⟨vh, hh1, hh2⟩ := held_say hSc.out
            have HO1 := Lib.hid ho1
            have HO2 := Lib.hid ho2
            have HD1 := Lib.hid hd1
            have HD2 := Lib.hid hd2
            have HH1 := Lib.hid hh1
            have HH2 := Lib.hid hh2
            have eo : (vo == vo) = true := by simp
            have eh : (vh == vh) = true := by simp
            clear ho1 ho2 hd1 hd2 hh1 hh2
            go_wp2_with fail
            refine HO1.out.mono ?_
            rintro e wz ⟨rfl, rfl⟩
            go_wp2_with fail
            refine HO2.out.mono ?_
            rintro e wz ⟨rfl, rfl⟩
            go_wp2_with fail
            refine HD1.out.mono ?_
            rintro e wz ⟨rfl, rfl⟩
            go_wp2_with fail
            refine HD2.out.mono ?_
            rintro e wz ⟨rfl, rfl⟩
            go_wp2_with fail
            refine HH1.out.mono ?_
            rintro e wz ⟨rfl, rfl⟩
            go_wp2_with fail
            refine HH2.out.mono ?_
            rintro e wz ⟨rfl, rfl⟩
            go_wp2_with fail
            go_roundw
            case rel => exact ⟨k + 1, by omega, by omega, by go_num, hSc.out⟩
            case measure => simp [intOf]; omega
      · as_aux_lemma =>
          have hcr : Calls Try.prog 15 #[.pointer p, .slice none 0 0] wr _ := crash_say (w0 := wr) HR.out (Upd.refl _ wr) (by omega) [] (by simp) none none 0 0 (fun j hj => by simp at hj) (fun hj => by simp at hj) (fun j hj => by simp at hj) (fun hj => by simp at hj)
          have hcr' := Lib.hid hcr
          have hW := Lib.hid wakes_any
          clear hcr
          have hstop : len ≤ k ∨ (k < len ∧ 60 ≤ k) := by omega
          clear hlt
          rcases hstop with hstop | ⟨hstop, hstop2⟩
          all_goals
            go_wp2_with fail
            refine hcr'.out.mono ?_
            rintro e wa ⟨rfl, hBa, hsa, hfa, hth⟩
            have hth' := Lib.hid hth
            clear hBa hsa hfa hth
            go_wp2_with fail
            refine (hth'.out _ (Upd.refl _ _)).mono ?_
            rintro e wb ⟨rfl, hSb, hsb, hfb⟩
            have hSb' := Lib.hid hSb
            have hz1 := Lib.hid (size_say hSb)
            have hrd := Lib.hid (read_say hSb (Upd.refl _ wb) 0 m)
            clear hSb hsb hfb
            go_wp2_with fail
            refine hz1.out.mono ?_
            rintro e wz ⟨rfl, rfl⟩
            go_wp2_with fail
            refine hrd.out.mono ?_
            rintro e wc ⟨sv, vv, rfl, hBc, hfc, hSc, hthc⟩
            have hz2 := Lib.hid (rsize_say hSc)
            have hthc' := Lib.hid hthc
            clear hBc hfc hSc hthc
            go_wp2_with fail
            refine hz2.out.mono ?_
            rintro e wz ⟨rfl, rfl⟩
            go_wp2_with fail
            refine (hthc'.out _ (Upd.refl _ _)).mono ?_
            rintro e wd ⟨rfl, hSd, hsd, hfd⟩
            have hBd := Lib.hid hSd.below
            clear hSd hsd hfd
            go_wp2_with fail
            refine (hW.out _).mono ?_
            rintro e we ⟨rfl, hBe⟩
            have hBf := Lib.hid (hBd.out.trans (hBe.mono hBd.out.size))
            clear hBe
            go_wp2_with fail
            go_ret
            exact ⟨rfl, hBf.out⟩

end Go.Proofs.Ytojcoambodedbaa
