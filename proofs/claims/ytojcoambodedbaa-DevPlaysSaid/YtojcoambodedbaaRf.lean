/- The page's device: a new one. -/
import Derived.Outline
import Derived.Test.YtojcoambodedbaaRe
set_option linter.unusedVariables false
set_option linter.unusedSimpArgs false
set_option linter.unnecessarySimpa false
namespace Go.Proofs.Ytojcoambodedbaa
open Go.RowKit

theorem rnew_no (n : Int) (w : World) (h : n < 1 ∨ 8192 < n) :
    Calls Try.prog 21 #[.int .i64 n] w fun e w' => e = .returned (.tuple #[.pointer none, .int .i64 1]) ∧ w = w' := by
  rcases h with h | h
  · go_enter Try.func21, Try.ntmps21
    go_wp2
    go_ret2
    exact ⟨rfl, rfl⟩
  · have h' : 1 ≤ n := by omega
    go_enter Try.func21, Try.ntmps21
    go_wp2
    go_ret2
    exact ⟨rfl, rfl⟩

def zs (k : Nat) : List Value := (List.replicate k (zeros 512)).map Value.string
theorem zs_succ (k : Nat) : zs (k + 1) = zs k ++ [.string (zeros 512)] := by
  unfold zs
  rw [List.replicate_succ', List.map_append]
  rfl
structure NewRel (w : World) (b : Nat) (vs vn : Value) (k : Nat) : Prop where
  blk : Blk w b #[vs, vn, .slice none 0 0, .int .i64 0, .bool false, .int .i64 0, .bool false] 75
  s : w.ownsRow b 9 1 vs k (zs k)
  n : w.ownsRow b 9 1 vn k (zs k)
  ne : ∀ g, vs.ownBlock = some g → vn.ownBlock ≠ some g

structure Mid (w w2 : World) (b : Nat) (vs vn : Value) (g c k : Nat) : Prop where
  blk : Blk w2 b #[vs, vn, .slice none 0 0, .int .i64 0, .bool false, .int .i64 0, .bool false] 75
  s : w2.ownsRow b 9 1 (.slice (some ⟨g, 0, none⟩) (k + 1) c) (k + 1) (zs (k + 1))
  n : w2.ownsRow b 9 1 vn k (zs k)
  ne : vn.ownBlock ≠ some g
  up : Upd (fun j => vs.ownBlock = some j) w w2
structure Mid2 (w w2 : World) (b : Nat) (vs vn : Value) (g c g' c' k : Nat) : Prop where
  blk : Blk w2 b #[vs, vn, .slice none 0 0, .int .i64 0, .bool false, .int .i64 0, .bool false] 75
  s : w2.ownsRow b 9 1 (.slice (some ⟨g, 0, none⟩) (k + 1) c) (k + 1) (zs (k + 1))
  n : w2.ownsRow b 9 1 (.slice (some ⟨g', 0, none⟩) (k + 1) c') (k + 1) (zs (k + 1))
  ne : g ≠ g'
  up : Upd (fun j => vs.ownBlock = some j ∨ vn.ownBlock = some j) w w2

theorem new_first {wr W w2 : World} {b g c k : Nat} {vs vn : Value} (HR : NewRel wr b vs vn k) (U : Upd (fun _ => False) wr W) (ho : w2.ownsRow b 9 1 (.slice (some ⟨g, 0, none⟩) (k + 1) c) (k + 1) (zs (k + 1))) (hg : W.grownBy w2 vs.ownBlock) (hat : vs.ownBlock = some g ∨ g = W.heap.size) :
    Mid wr w2 b vs vn g c k := by
  have up : Upd (fun j => vs.ownBlock = some j) wr w2 := (U.mono (G := fun j => vs.ownBlock = some j) (fun _ _ h => h.elim)).grown hg (fun k hk _ => hk)
  refine ⟨up.blk HR.blk (ownBlock_ne HR.s HR.blk (by decide)), ho, up.owns HR.n (fun j hj h => HR.ne j h hj), ?_, up⟩
  rcases hat with h | h
  · exact HR.ne g h
  · intro e
    have := (HR.n.lt g e).2
    have := U.size
    omega
theorem new_second {wr w2 W w4 : World} {b g c g' c' k : Nat} {vs vn : Value} (M : Mid wr w2 b vs vn g c k) (U : Upd (fun _ => False) w2 W) (ho : w4.ownsRow b 9 1 (.slice (some ⟨g', 0, none⟩) (k + 1) c') (k + 1) (zs (k + 1))) (hg : W.grownBy w4 vn.ownBlock) (hat : vn.ownBlock = some g' ∨ g' = W.heap.size) :
    Mid2 wr w4 b vs vn g c g' c' k := by
  have up : Upd (fun j => vn.ownBlock = some j) w2 w4 := (U.mono (G := fun j => vn.ownBlock = some j) (fun _ _ h => h.elim)).grown hg (fun k hk _ => hk)
  refine ⟨up.blk M.blk (ownBlock_ne M.n M.blk (by decide)), up.owns M.s (fun j hj h => ?_), ho, ?_, ?_⟩
  · simp only [Value.ownBlock, Option.some.injEq] at hj
    subst hj
    exact M.ne h
  · rcases hat with h | h
    · rintro rfl
      exact M.ne h
    · have := (M.s.lt g rfl).2
      have := U.size
      omega
  · exact (M.up.mono (fun j _ h => Or.inl h)).trans up (fun j _ h => Or.inr h)
theorem new_done {wr w4 : World} {b g c g' c' k : Nat} {vs vn : Value} {B : Nat} {w : World} (HR : NewRel wr b vs vn k) (M : Mid2 wr w4 b vs vn g c g' c' k) (hB : Below B w wr) (hBb : B ≤ b) :
    NewRel ((w4.setCell ⟨b, 0, none⟩ (.slice (some ⟨g, 0, none⟩) (k + 1) c)).setCell ⟨b, 1, none⟩ (.slice (some ⟨g', 0, none⟩) (k + 1) c')) b (.slice (some ⟨g, 0, none⟩) (k + 1) c) (.slice (some ⟨g', 0, none⟩) (k + 1) c') (k + 1) ∧
      Below B w ((w4.setCell ⟨b, 0, none⟩ (.slice (some ⟨g, 0, none⟩) (k + 1) c)).setCell ⟨b, 1, none⟩ (.slice (some ⟨g', 0, none⟩) (k + 1) c')) := by
  have hu : Upd (fun j => j = b) w4 ((w4.setCell ⟨b, 0, none⟩ (.slice (some ⟨g, 0, none⟩) (k + 1) c)).setCell ⟨b, 1, none⟩ (.slice (some ⟨g', 0, none⟩) (k + 1) c')) := ((Upd.refl _ _).at1 _ _).at1 _ _
  refine ⟨⟨(M.blk.set 0 _).set 1 _, hu.owns M.s (fun j hj e => ownBlock_ne M.s M.blk (by decide) (e ▸ hj)), hu.owns M.n (fun j hj e => ownBlock_ne M.n M.blk (by decide) (e ▸ hj)), fun j hj e => ?_⟩, ?_⟩
  · simp only [Value.ownBlock, Option.some.injEq] at hj e
    exact M.ne (by omega)
  · have h4 : Below B wr w4 := by
      refine ⟨M.up.os, M.up.tape, M.up.output, M.up.size, fun j hj => ?_⟩
      have hlt : B ≤ wr.heap.size := by have := HR.blk.lt; omega
      refine M.up.block j (by omega) ?_
      rintro (h | h)
      · have := (HR.s.lt j h).1; omega
      · have := (HR.n.lt j h).1; omega
    exact ((hB.trans h4).setCell (p := ⟨b, 0, none⟩) hBb _).setCell (p := ⟨b, 1, none⟩) hBb _

/-- 'append(row, zero)' as one step of a region. -/
theorem step_push_zero {ops : Array Oper} {o : Oper} {a : Act} {W : World} {K : Act → World → Prop} {Q : Exit → Act → World → Prop} {E : Prop} (B k : Nat) (v : Value) (hown : W.ownsRow B 9 1 v k (zs k)) (A : Nat) (hA : W.cell? ⟨A, 0, none⟩ = some (.string (zeros 512)))
    (hgd : o.guard = none) (s x : Operand) (ho : o.op = .call { callee := .builtin .append, args := #[s, x], argTypes := #[53, 53] }) (hs : a.eval s = v) (hx : a.eval x = .slice (some ⟨A, 0, none⟩) 1 1) (hk : k ≤ 8192) (hB : B ≤ W.heap.size)
    (h : ∀ g c w', w'.ownsRow B 9 1 (.slice (some ⟨g, 0, none⟩) (k + 1) c) (k + 1) (zs (k + 1)) → W.grownBy w' v.ownBlock → (v.ownBlock = some g ∨ g = W.heap.size) → K (a.put o.dst (.slice (some ⟨g, 0, none⟩) (k + 1) c)) w') :
    if Region.wanted o (yielded ops a.tmps) = true then Oper.wp Try.prog o a W K Q else E := by
  obtain ⟨i0, hi, hz0, hz1, hz2⟩ := info_parts Try.info9
  refine step_append_lies _ hgd s x 53 ho B 9 i0 _ 1 16 Try.underlying53 hi hz0 hz1 hz2 rfl (by decide) v k (zs k) hs hown ⟨A, 0, none⟩ 1 1 [.string (zeros 512)] hx rfl (fun j u hu => ?_) (by intro u hu; simp at hu; subst hu; rfl) (by omega) (by unfold maxLen; omega) (by omega) hB W.heap.size rfl ?_
  · cases j with
    | zero =>
      rw [Addr.add_zero']
      simp only [List.getElem?_cons_zero, Option.some.injEq] at hu
      rw [hA, hu]
    | succ j => simp at hu
  · intro g c w' h1 h2 h3 _
    exact h g c w' (by rw [zs_succ]; exact h1) h2 h3
theorem news_cell (W : World) (n : Nat) (hn : W.heap.size = n) : (W.alloc (.cells #[.string (zeros 512)] 9)).cell? ⟨n, 0, none⟩ = some (.string (zeros 512)) := by
  subst hn
  simp only [World.cell?, heap_alloc_new]
  rfl
theorem news_cell2 (W : World) (X : Obj) : ((W.alloc (.cells #[.string (zeros 512)] 9)).alloc X).cell? ⟨W.heap.size, 0, none⟩ = some (.string (zeros 512)) := by
  rw [World.cell?_alloc_lt _ _ _ (by simp)]
  exact news_cell W _ rfl

set_option maxRecDepth 100000 in
set_option maxHeartbeats 16000000 in
theorem rnew_yes (n : Nat) (w : World) (h1 : 1 ≤ n) (h2 : n ≤ 8192) :
    Calls Try.prog 21 #[.int .i64 n] w fun e w' => ∃ vs vn, e = .returned (.tuple #[.pointer (some ⟨w.heap.size, 0, none⟩), .int .i64 0]) ∧ NewRel w' w.heap.size vs vn n ∧ Below w.heap.size w w' := by
  obtain ⟨i0, hi, hz0, hz1, hz2⟩ := info_parts Try.info9
  have hmk := make_bytes 512 (by omega) (by omega) (w.alloc (.cells #[.slice none 0 0, .slice none 0 0, .slice none 0 0, .int .i64 0, .bool false, .int .i64 0, .bool false] 75))
  have hcv := zrow_conv 512 (w.alloc (.cells #[.slice none 0 0, .slice none 0 0, .slice none 0 0, .int .i64 0, .bool false, .int .i64 0, .bool false] 75))
  rw [World.size_alloc] at hmk hcv
  have hb1 := Blk.new w #[.slice none 0 0, .slice none 0 0, .slice none 0 0, .int .i64 0, .bool false, .int .i64 0, .bool false] 75
  have h0 : NewRel ((w.alloc (.cells #[.slice none 0 0, .slice none 0 0, .slice none 0 0, .int .i64 0, .bool false, .int .i64 0, .bool false] 75)).alloc (.cells (zrow 512) 5)) w.heap.size (.slice none 0 0) (.slice none 0 0) 0 := ⟨hb1.alloc _, World.ownsRow_nil _ _ _ _, World.ownsRow_nil _ _ _ _, fun g hg => by simp [Value.ownBlock] at hg⟩
  have hB2 : Below w.heap.size w ((w.alloc (.cells #[.slice none 0 0, .slice none 0 0, .slice none 0 0, .int .i64 0, .bool false, .int .i64 0, .bool false] 75)).alloc (.cells (zrow 512) 5)) := ((Below.refl _ _).alloc (Nat.le_refl _) _).alloc (by simp) _
  have h0' := Lib.hid h0
  have hB2' := Lib.hid hB2
  clear hb1 h0 hB2
  go_enter Try.func21, Try.ntmps21
  go_wp2
  clear hmk hcv
  go_loopw [6] (fun i wr => ∃ (k : Nat) (vs vn : Value), k ≤ n ∧ i = .int .i64 k ∧ NewRel wr w.heap.size vs vn k ∧ Below w.heap.size w wr) (fun i _ => n - (intOf i).toNat)
  case atStart => exact ⟨0, _, _, by omega, rfl, h0'.out, hB2'.out⟩
  case round =>
    obtain ⟨k, vs, vn, hk, rfl, hR, hB⟩ := hrel
    by_cases hlt : k < n
    · have c0 : wr.cell? ⟨w.heap.size, 0, none⟩ = some vs := by rw [hR.blk.cell]; rfl
      have c1 : wr.cell? ⟨w.heap.size, 1, none⟩ = some vn := by rw [hR.blk.cell]; rfl
      have f0 := hR.blk.free 0
      have f1 := hR.blk.free 1
      have lb := hR.blk.lt
      have HR := Lib.hid hR
      have HB := Lib.hid hB
      clear hR hB
      go_wp2_with fail
      have lB : w.heap.size ≤ wr.heap.size := by omega
      have o1 := Lib.hid (HR.out.s.alloc (.cells #[.string (zeros 512)] 9))
      have o2 := Lib.hid ((HR.out.s.alloc (.cells #[.string (zeros 512)] 9)).alloc (.cells #[.string (zeros 512)] 9))
      have U1 := Lib.hid (((Upd.refl (fun _ => False) wr).alloc (.cells #[.string (zeros 512)] 9)).drew)
      have U2 := Lib.hid ((((Upd.refl (fun _ => False) wr).alloc (.cells #[.string (zeros 512)] 9)).alloc (.cells #[.string (zeros 512)] 9)).drew)
      have n1 := Lib.hid (news_cell wr _ rfl)
      have n2 := Lib.hid (news_cell2 wr (.cells #[.string (zeros 512)] 9))
      have n3 := Lib.hid (news_cell (wr.alloc (.cells #[.string (zeros 512)] 9)) (wr.heap.size + 1) (by simp))
      have nvs := Lib.hid (show ∀ j, wr.heap.size ≤ j → some j ≠ vs.ownBlock from fun j hj e => by have := (HR.out.s.lt j e.symm).2; omega)
      go_region_law (first
        | (refine step_push_zero w.heap.size k vs o1.out wr.heap.size n1.out rfl (.tmp 27) (.tmp 29) rfl rfl rfl (by omega) (by simp; omega) ?_; intro g c w2 ho hg hat; have M := Lib.hid (new_first HR.out U1.out ho hg hat); (have k1 : w2.cell? ⟨w.heap.size, 1, none⟩ = some vn := by (rw [M.out.blk.cell]; rfl)); (have lb2 := M.out.blk.lt); (have lB2 : w.heap.size ≤ w2.heap.size := by omega); (have oa := Lib.hid (M.out.n.alloc (.cells #[.string (zeros 512)] 9))); (have ob := Lib.hid M.out.n); (have Ua := Lib.hid ((Upd.refl (fun _ => False) w2).alloc (.cells #[.string (zeros 512)] 9))); (have na := Lib.hid (news_cell w2 _ rfl)); clear ho hg hat)
        | (refine step_push_zero w.heap.size k vs o2.out wr.heap.size n2.out rfl (.tmp 27) (.tmp 29) rfl rfl rfl (by omega) (by simp; omega) ?_; intro g c w2 ho hg hat; have M := Lib.hid (new_first HR.out U2.out ho hg hat); (have q := Lib.hid (hg.cell (a := ⟨wr.heap.size + 1, 0, none⟩) n3.out (nvs.out (wr.heap.size + 1) (by omega)))); (have Aq := Lib.hid (rfl : wr.heap.size + 1 = wr.heap.size + 1)); (have k1 : w2.cell? ⟨w.heap.size, 1, none⟩ = some vn := by (rw [M.out.blk.cell]; rfl)); (have lb2 := M.out.blk.lt); (have lB2 : w.heap.size ≤ w2.heap.size := by omega); (have oa := Lib.hid (M.out.n.alloc (.cells #[.string (zeros 512)] 9))); (have ob := Lib.hid M.out.n); (have Ua := Lib.hid ((Upd.refl (fun _ => False) w2).alloc (.cells #[.string (zeros 512)] 9))); (have na := Lib.hid (news_cell w2 _ rfl)); clear ho hg hat)
        | (refine step_push_zero w.heap.size k vs o2.out (wr.heap.size + 1) n3.out rfl (.tmp 27) (.tmp 29) rfl rfl rfl (by omega) (by simp; omega) ?_; intro g c w2 ho hg hat; have M := Lib.hid (new_first HR.out U2.out ho hg hat); (have q := Lib.hid (hg.cell (a := ⟨wr.heap.size, 0, none⟩) n2.out (nvs.out wr.heap.size (by omega)))); (have k1 : w2.cell? ⟨w.heap.size, 1, none⟩ = some vn := by (rw [M.out.blk.cell]; rfl)); (have lb2 := M.out.blk.lt); (have lB2 : w.heap.size ≤ w2.heap.size := by omega); (have oa := Lib.hid (M.out.n.alloc (.cells #[.string (zeros 512)] 9))); (have ob := Lib.hid M.out.n); (have Ua := Lib.hid ((Upd.refl (fun _ => False) w2).alloc (.cells #[.string (zeros 512)] 9))); (have na := Lib.hid (news_cell w2 _ rfl)); clear ho hg hat)
        | (refine step_push_zero w.heap.size k vn oa.out w2.heap.size na.out rfl (.tmp 34) (.tmp 36) rfl rfl rfl (by omega) (by first | omega | (simp; omega)) ?_; intro g' c' w4 ho hg hat; have M2 := Lib.hid (new_second M.out Ua.out ho hg hat); (have x0 : w4.cell? ⟨w.heap.size, 0, none⟩ = some vs := by (rw [M2.out.blk.cell]; rfl)); (have x1 : w4.cell? ⟨w.heap.size, 1, none⟩ = some vn := by (rw [M2.out.blk.cell]; rfl)); (have y0 := M2.out.blk.free 0); (have y1 := M2.out.blk.free 1); (have lb4 := M2.out.blk.lt); clear ho hg hat)
        | (refine step_push_zero w.heap.size k vn ob.out (wr.heap.size + 1) q.out rfl (.tmp 34) (.tmp 36) rfl rfl rfl (by omega) (by first | omega | (simp; omega)) ?_; intro g' c' w4 ho hg hat; have M2 := Lib.hid (new_second M.out (Upd.refl _ _) ho hg hat); (have x0 : w4.cell? ⟨w.heap.size, 0, none⟩ = some vs := by (rw [M2.out.blk.cell]; rfl)); (have x1 : w4.cell? ⟨w.heap.size, 1, none⟩ = some vn := by (rw [M2.out.blk.cell]; rfl)); (have y0 := M2.out.blk.free 0); (have y1 := M2.out.blk.free 1); (have lb4 := M2.out.blk.lt); clear ho hg hat)
        | (refine step_push_zero w.heap.size k vn ob.out wr.heap.size q.out rfl (.tmp 34) (.tmp 36) rfl rfl rfl (by omega) (by first | omega | (simp; omega)) ?_; intro g' c' w4 ho hg hat; have M2 := Lib.hid (new_second M.out (Upd.refl _ _) ho hg hat); (have x0 : w4.cell? ⟨w.heap.size, 0, none⟩ = some vs := by (rw [M2.out.blk.cell]; rfl)); (have x1 : w4.cell? ⟨w.heap.size, 1, none⟩ = some vn := by (rw [M2.out.blk.cell]; rfl)); (have y0 := M2.out.blk.free 0); (have y1 := M2.out.blk.free 1); (have lb4 := M2.out.blk.lt); clear ho hg hat))
      all_goals
        go_wp2
        have HD := Lib.hid (new_done HR.out M2.out HB.out (Nat.le_refl _))
        go_roundw
        case rel => exact ⟨k + 1, _, _, by omega, by go_num, HD.out.1, HD.out.2⟩
        case measure => simp [intOf]; omega
    · have hkn : k = n := by omega
      subst hkn
      have HR := Lib.hid hR
      clear hR
      go_wp2
      go_ret2
      exact ⟨vs, vn, rfl, HR.out, hB⟩

end Go.Proofs.Ytojcoambodedbaa
