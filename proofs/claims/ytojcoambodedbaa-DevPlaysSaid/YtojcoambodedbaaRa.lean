/- The page's device: where it lies, and its methods without a loop. -/
import Derived.Test.YtojcoambodedbaaS
import Derived.Laws.CopyOwn
set_option linter.unusedVariables false
set_option linter.unusedSimpArgs false
set_option linter.unnecessarySimpa false
namespace Go.Proofs.Ytojcoambodedbaa
open Go.RowKit

/-- Where the page's device lies: the struct's block, those of 'safe' and 'seen' and their capacities, the value of 'held'. -/
structure RH where
  b : Nat
  bs : Nat
  bn : Nat
  cs : Nat
  cn : Nat
  hv : Value
def RH.foot (D : RH) (k : Nat) : Prop := k = D.b ∨ k = D.bs ∨ k = D.bn ∨ D.hv.ownBlock = some k
def RH.cells (D : RH) (S : DS) : Array Value :=
  #[.slice (some ⟨D.bs, 0, none⟩) S.safe.length D.cs, .slice (some ⟨D.bn, 0, none⟩) S.safe.length D.cn, D.hv, .int .i64 S.ops, .bool S.armed, .int .i64 S.left, .bool S.down]

/-- Block b begins with a list's texts. -/
def SRow (w : World) (b : Nat) (l : List ByteArray) : Prop := ∃ arr : Array Value, Blk w b arr 9 ∧ arr.toList.take l.length = l.map Value.string
theorem SRow.lt {w : World} {b : Nat} {l : List ByteArray} (h : SRow w b l) : b < w.heap.size := by obtain ⟨arr, h, _⟩ := h; exact h.lt
theorem SRow.cell {w : World} {b : Nat} {l : List ByteArray} (h : SRow w b l) (i : Nat) (hi : i < l.length) : w.cell? ⟨b, i, none⟩ = some (.string (l.getD i ByteArray.empty)) := by
  obtain ⟨arr, h, ht⟩ := h
  rw [h.cell]
  have : (arr.toList.take l.length)[i]? = (l.map Value.string)[i]? := by rw [ht]
  rw [List.getElem?_take_of_lt hi] at this
  simpa [hi, List.getD] using this
theorem SRow.free {w : World} {b : Nat} {l : List ByteArray} (h : SRow w b l) (i : Nat) : w.frozen? ⟨b, i, none⟩ = false := by
  obtain ⟨arr, h, _⟩ := h
  exact h.free i
theorem SRow.set {w : World} {b : Nat} {l : List ByteArray} (h : SRow w b l) (i : Nat) (s : ByteArray) : SRow (w.setCell ⟨b, i, none⟩ (.string s)) b (l.set i s) := by
  obtain ⟨arr, h, ht⟩ := h
  refine ⟨_, h.set i _, ?_⟩
  rw [List.length_set, Array.toList_setIfInBounds, List.take_set, ht, List.map_set]
theorem SRow.upd {F : Nat → Prop} {w w' : World} {b : Nat} {l : List ByteArray} (h : SRow w b l) (u : Upd F w w') (hF : ¬ F b) : SRow w' b l := by
  obtain ⟨arr, h, ht⟩ := h
  exact ⟨arr, u.blk h hF, ht⟩
theorem SRow.ne_blk {w : World} {b b' : Nat} {l : List ByteArray} {cs : Array Value} {T : TypeId} (h : SRow w b l) (h' : Blk w b' cs T) (hT : 9 ≠ T) : b ≠ b' := by
  obtain ⟨arr, h, _⟩ := h
  exact h.ne h' hT

structure RefAt (w : World) (D : RH) (S : DS) : Prop where
  blk : Blk w D.b (D.cells S) 75
  safe : SRow w D.bs S.safe
  now : SRow w D.bn S.now
  held : w.ownsRow 0 77 2 D.hv S.held.length (heldCells S.held)
  ne : D.bs ≠ D.bn
  len : S.now.length = S.safe.length
  small : S.safe.length ≤ 8192
  caps : S.safe.length ≤ D.cs ∧ S.safe.length ≤ D.cn

theorem RefAt.lt {w : World} {D : RH} {S : DS} (h : RefAt w D S) : ∀ k, D.foot k → k < w.heap.size := by
  rintro k (rfl | rfl | rfl | hk)
  · exact h.blk.lt
  · exact h.safe.lt
  · exact h.now.lt
  · exact (h.held.lt k hk).2
theorem ownBlock_ne_row {w : World} {B : Nat} {e : TypeId} {z : Nat} {v : Value} {n : Nat} {xs : List Value} {b : Nat} {l : List ByteArray} (hown : w.ownsRow B e z v n xs) (hb : SRow w b l) (hTe : 9 ≠ e) : v.ownBlock ≠ some b := by
  obtain ⟨arr, hb, _⟩ := hb
  exact ownBlock_ne hown hb hTe
theorem RefAt.keep {w w' : World} {F : Nat → Prop} {D : RH} {S : DS} (h : RefAt w D S) (u : Upd F w w') (hF : ∀ k, D.foot k → ¬ F k) : RefAt w' D S :=
  ⟨u.blk h.blk (hF _ (Or.inl rfl)), h.safe.upd u (hF _ (Or.inr (Or.inl rfl))), h.now.upd u (hF _ (Or.inr (Or.inr (Or.inl rfl)))), u.owns h.held fun k hk => hF k (Or.inr (Or.inr (Or.inr hk))), h.ne, h.len, h.small, h.caps⟩
theorem RefAt.drewN {w : World} {D : RH} {S : DS} (h : RefAt w D S) (n : Nat) : RefAt (w.drewN n) D S := h.keep ((Upd.refl (fun _ => False) w).drewN n) (fun _ _ h => h)
theorem RefAt.drew {w : World} {D : RH} {S : DS} (h : RefAt w D S) : RefAt w.drew D S := h.keep ((Upd.refl (fun _ => False) w).drew) (fun _ _ h => h)
/-- New values in the struct's own cells. -/
theorem RefAt.restruct {w w' : World} {D : RH} {S : DS} (h : RefAt w D S) (ops left : Int) (armed down : Bool) (hb : Blk w' D.b (D.cells { S with ops := ops, left := left, armed := armed, down := down }) 75) (hu : Upd (fun k => k = D.b) w w') :
    RefAt w' D { S with ops := ops, left := left, armed := armed, down := down } := by
  have n1 : D.bs ≠ D.b := h.safe.ne_blk h.blk (by decide)
  have n2 : D.bn ≠ D.b := h.now.ne_blk h.blk (by decide)
  exact ⟨hb, h.safe.upd hu n1, h.now.upd hu n2, hu.owns h.held (fun k hk e => ownBlock_ne h.held h.blk (by decide) (e ▸ hk)), h.ne, h.len, h.small, h.caps⟩

theorem rsize_any (D : RH) (S : DS) (w : World) (h : RefAt w D S) :
    Calls Try.prog 23 #[.pointer (some ⟨D.b, 0, none⟩)] w fun e w' => e = .returned (.int .i64 S.safe.length) ∧ w = w' := by
  have c0 : w.cell? ⟨D.b, 1, none⟩ = some (.slice (some ⟨D.bn, 0, none⟩) S.safe.length D.cn) := by rw [h.blk.cell]; rfl
  clear h
  go_enter Try.func23, Try.ntmps23
  go_wp2
  go_ret
  exact ⟨rfl, rfl⟩
theorem rheld_any (D : RH) (S : DS) (w : World) (h : RefAt w D S) :
    Calls Try.prog 32 #[.pointer (some ⟨D.b, 0, none⟩)] w fun e w' => e = .returned (.int .i64 S.held.length) ∧ w = w' := by
  obtain ⟨ao, cap, hv⟩ : ∃ ao cap, D.hv = .slice ao S.held.length cap := by
    rcases h.held.2 with ⟨hv, h0⟩ | ⟨g, cap, cur, hv, _⟩
    · exact ⟨none, 0, by rw [hv, h0]⟩
    · exact ⟨_, _, hv⟩
  have c0 : w.cell? ⟨D.b, 2, none⟩ = some (.slice ao S.held.length cap) := by rw [h.blk.cell, ← hv]; rfl
  clear h hv
  go_enter Try.func32, Try.ntmps32
  go_wp2
  go_ret
  exact ⟨rfl, rfl⟩
theorem rdown_any (D : RH) (S : DS) (w : World) (h : RefAt w D S) :
    Calls Try.prog 31 #[.pointer (some ⟨D.b, 0, none⟩)] w fun e w' => e = .returned (.bool S.down) ∧ w = w' := by
  have c0 : w.cell? ⟨D.b, 6, none⟩ = some (.bool S.down) := by rw [h.blk.cell]; rfl
  clear h
  go_enter Try.func31, Try.ntmps31
  go_wp2
  go_ret
  exact ⟨rfl, rfl⟩
theorem rops_any (D : RH) (S : DS) (w : World) (h : RefAt w D S) :
    Calls Try.prog 30 #[.pointer (some ⟨D.b, 0, none⟩)] w fun e w' => e = .returned (.int .i64 S.ops) ∧ w = w' := by
  have c0 : w.cell? ⟨D.b, 3, none⟩ = some (.int .i64 S.ops) := by rw [h.blk.cell]; rfl
  clear h
  go_enter Try.func30, Try.ntmps30
  go_wp2
  go_ret
  exact ⟨rfl, rfl⟩

theorem rarm_any (D : RH) (S : DS) (n : Int) (w : World) (h : RefAt w D S) :
    Calls Try.prog 27 #[.pointer (some ⟨D.b, 0, none⟩), .int .i64 n] w fun e w' => e = .returned (.tuple #[]) ∧ RefAt w' D { S with armed := true, left := max n 0 } ∧ Upd (fun k => k = D.b) w w' := by
  have c4 : w.cell? ⟨D.b, 4, none⟩ = some (.bool S.armed) := by rw [h.blk.cell]; rfl
  have c5 : w.cell? ⟨D.b, 5, none⟩ = some (.int .i64 S.left) := by rw [h.blk.cell]; rfl
  have f4 := h.blk.free 4
  have f5 := h.blk.free 5
  have hb := (h.blk.set 4 (.bool true)).set 5 (.int .i64 (max n 0))
  have hu : Upd (fun k => k = D.b) w ((w.setCell ⟨D.b, 4, none⟩ (.bool true)).setCell ⟨D.b, 5, none⟩ (.int .i64 (max n 0))) := ((Upd.refl _ _).at1 _ _).at1 _ _
  have H := Lib.hid (And.intro (h.restruct S.ops (max n 0) true S.down hb hu) hu)
  clear h hb hu
  go_enter Try.func27, Try.ntmps27
  go_wp2
  go_end0
  exact ⟨rfl, H.out.1, H.out.2⟩

/-- One operation of the page's device that is done. -/
def DS.rop (S : DS) : DS := { S with left := if S.armed then wrap64 (S.left - 1) else S.left, ops := wrap64 (S.ops + 1) }

theorem one_no (D : RH) (S : DS) (w : World) (h : RefAt w D S) (hg : S.goes = false) :
    Calls Try.prog 40 #[.pointer (some ⟨D.b, 0, none⟩)] w fun e w' => e = .returned (.bool false) ∧ RefAt w' D { S with down := true } ∧ Upd (fun k => k = D.b) w w' := by
  have c4 : w.cell? ⟨D.b, 4, none⟩ = some (.bool S.armed) := by rw [h.blk.cell]; rfl
  have c5 : w.cell? ⟨D.b, 5, none⟩ = some (.int .i64 S.left) := by rw [h.blk.cell]; rfl
  have c6 : w.cell? ⟨D.b, 6, none⟩ = some (.bool S.down) := by rw [h.blk.cell]; rfl
  have f6 := h.blk.free 6
  have hb := h.blk.set 6 (.bool true)
  have hu : Upd (fun k => k = D.b) w (w.setCell ⟨D.b, 6, none⟩ (.bool true)) := (Upd.refl _ _).at1 _ _
  have H := Lib.hid (And.intro (h.restruct S.ops S.left S.armed true hb hu) hu)
  have H0 := Lib.hid h
  clear h hb hu
  unfold DS.goes at hg
  rcases S with ⟨sf, nw, hd, ops, armed, left, down⟩
  dsimp only at *
  cases down with
  | true =>
    clear hg
    go_enter Try.func40, Try.ntmps40
    go_wp2
    go_ret
    exact ⟨rfl, H0.out, Upd.refl _ _⟩
  | false =>
    cases armed with
    | false => simp at hg
    | true =>
      have h0 : (left == 0) = true := by simpa using hg
      clear hg
      go_enter Try.func40, Try.ntmps40
      go_wp2
      go_ret
      exact ⟨rfl, H.out.1, H.out.2⟩

theorem one_yes (D : RH) (S : DS) (w : World) (h : RefAt w D S) (hg : S.goes = true) :
    Calls Try.prog 40 #[.pointer (some ⟨D.b, 0, none⟩)] w fun e w' => e = .returned (.bool true) ∧ RefAt w' D S.rop ∧ Upd (fun k => k = D.b) w w' := by
  have c3 : w.cell? ⟨D.b, 3, none⟩ = some (.int .i64 S.ops) := by rw [h.blk.cell]; rfl
  have c4 : w.cell? ⟨D.b, 4, none⟩ = some (.bool S.armed) := by rw [h.blk.cell]; rfl
  have c5 : w.cell? ⟨D.b, 5, none⟩ = some (.int .i64 S.left) := by rw [h.blk.cell]; rfl
  have c6 : w.cell? ⟨D.b, 6, none⟩ = some (.bool S.down) := by rw [h.blk.cell]; rfl
  have f3 := h.blk.free 3
  have f5 := h.blk.free 5
  have hb := (h.blk.set 5 (.int .i64 (wrap64 (S.left - 1)))).set 3 (.int .i64 (wrap64 (S.ops + 1)))
  have hu : Upd (fun k => k = D.b) w ((w.setCell ⟨D.b, 5, none⟩ (.int .i64 (wrap64 (S.left - 1)))).setCell ⟨D.b, 3, none⟩ (.int .i64 (wrap64 (S.ops + 1)))) := ((Upd.refl _ _).at1 _ _).at1 _ _
  have H := Lib.hid (And.intro (h.restruct (wrap64 (S.ops + 1)) (wrap64 (S.left - 1)) S.armed S.down hb hu) hu)
  have hb' := h.blk.set 3 (.int .i64 (wrap64 (S.ops + 1)))
  have hu' : Upd (fun k => k = D.b) w (w.setCell ⟨D.b, 3, none⟩ (.int .i64 (wrap64 (S.ops + 1)))) := (Upd.refl _ _).at1 _ _
  have H' := Lib.hid (And.intro (h.restruct (wrap64 (S.ops + 1)) S.left S.armed S.down hb' hu') hu')
  clear h hb hu hb' hu'
  unfold DS.goes at hg
  rcases S with ⟨sf, nw, hd, ops, armed, left, down⟩
  unfold DS.rop
  dsimp only at *
  cases down with
  | true => simp at hg
  | false =>
    cases armed with
    | false =>
      clear hg
      go_enter Try.func40, Try.ntmps40
      go_wp2_with fail
      go_ret
      exact ⟨rfl, H'.out.1, H'.out.2⟩
    | true =>
      have h0 : (left == 0) = false := by simpa using hg
      clear hg
      go_enter Try.func40, Try.ntmps40
      go_wp2_with fail
      go_ret
      exact ⟨rfl, H.out.1, H.out.2⟩

/-- there's answer, as a proposition. -/
def There (i n : Int) (m : Nat) : Prop := 0 ≤ i ∧ 0 ≤ n ∧ i ≤ m ∧ n ≤ m - i
instance (i n : Int) (m : Nat) : Decidable (There i n m) := by unfold There; infer_instance
theorem there_yes (D : RH) (S : DS) (i n : Int) (w : World) (h : RefAt w D S) (ht : There i n S.safe.length) :
    Calls Try.prog 39 #[.pointer (some ⟨D.b, 0, none⟩), .int .i64 i, .int .i64 n] w fun e w' => e = .returned (.bool true) ∧ w = w' := by
  have c1 : w.cell? ⟨D.b, 1, none⟩ = some (.slice (some ⟨D.bn, 0, none⟩) S.safe.length D.cn) := by rw [h.blk.cell]; rfl
  have hs := h.small
  clear h
  generalize S.safe.length = m at *
  unfold There at ht
  obtain ⟨h1, h2, h3, h4⟩ := ht
  go_enter Try.func39, Try.ntmps39
  go_wp2
  go_ret
  exact ⟨rfl, rfl⟩
theorem there_no (D : RH) (S : DS) (i n : Int) (w : World) (h : RefAt w D S) (ht : ¬ There i n S.safe.length) :
    Calls Try.prog 39 #[.pointer (some ⟨D.b, 0, none⟩), .int .i64 i, .int .i64 n] w fun e w' => e = .returned (.bool false) ∧ w = w' := by
  have c1 : w.cell? ⟨D.b, 1, none⟩ = some (.slice (some ⟨D.bn, 0, none⟩) S.safe.length D.cn) := by rw [h.blk.cell]; rfl
  have hs := h.small
  clear h
  generalize S.safe.length = m at *
  unfold There at ht
  by_cases h1 : 0 ≤ i
  · by_cases h2 : 0 ≤ n
    · by_cases h3 : i ≤ m
      · have h4 : (m : Int) - i < n := by omega
        clear ht
        go_enter Try.func39, Try.ntmps39
        go_wp2
        go_ret
        exact ⟨congrArg (fun b => Ending.returned (Value.bool b)) (decide_eq_false (by omega)), rfl⟩
      · have h4 : (m : Int) < i := by omega
        clear ht h3
        go_enter Try.func39, Try.ntmps39
        go_wp2
        go_ret
        exact ⟨rfl, rfl⟩
    · have h4 : n < 0 := by omega
      clear ht h2
      go_enter Try.func39, Try.ntmps39
      go_wp2
      go_ret
      exact ⟨rfl, rfl⟩
  · have h4 : i < 0 := by omega
    clear ht h1
    go_enter Try.func39, Try.ntmps39
    go_wp2
    go_ret
    exact ⟨rfl, rfl⟩

/-! ### nobody made it -/
theorem rsize_nil (w : World) : Calls Try.prog 23 #[.pointer none] w fun e w' => e = .returned (.int .i64 0) ∧ w = w' := by
  go_enter Try.func23, Try.ntmps23
  go_wp2
  go_ret
  exact ⟨rfl, rfl⟩
theorem rops_nil (w : World) : Calls Try.prog 30 #[.pointer none] w fun e w' => e = .returned (.int .i64 0) ∧ w = w' := by
  go_enter Try.func30, Try.ntmps30
  go_wp2
  go_ret
  exact ⟨rfl, rfl⟩
theorem rheld_nil (w : World) : Calls Try.prog 32 #[.pointer none] w fun e w' => e = .returned (.int .i64 0) ∧ w = w' := by
  go_enter Try.func32, Try.ntmps32
  go_wp2
  go_ret
  exact ⟨rfl, rfl⟩
theorem rdown_nil (w : World) : Calls Try.prog 31 #[.pointer none] w fun e w' => e = .returned (.bool false) ∧ w = w' := by
  go_enter Try.func31, Try.ntmps31
  go_wp2
  go_ret
  exact ⟨rfl, rfl⟩
theorem rarm_nil (n : Int) (w : World) : Calls Try.prog 27 #[.pointer none, .int .i64 n] w fun e w' => e = .returned (.tuple #[]) ∧ w = w' := by
  go_enter Try.func27, Try.ntmps27
  go_wp2
  go_end0
  exact ⟨rfl, rfl⟩
theorem rcrash_nil (v : Value) (w : World) : Calls Try.prog 28 #[.pointer none, v] w fun e w' => e = .returned (.tuple #[]) ∧ w = w' := by
  go_enter Try.func28, Try.ntmps28
  go_wp2
  refine bodyPost_ret (results_none rfl _ _ _) rfl ?_
  exact ⟨rfl, rfl⟩
theorem rflush_nil (w : World) : Calls Try.prog 26 #[.pointer none] w fun e w' => e = .returned (.int .i64 1) ∧ w = w' := by
  go_enter Try.func26, Try.ntmps26
  go_wp2
  go_ret
  exact ⟨rfl, rfl⟩
theorem rwrite_nil (i : Int) (s : ByteArray) (w : World) : Calls Try.prog 24 #[.pointer none, .int .i64 i, .string s] w fun e w' => e = .returned (.int .i64 1) ∧ w = w' := by
  go_enter Try.func24, Try.ntmps24
  go_wp2
  go_ret
  exact ⟨rfl, rfl⟩
theorem rread_nil (i n : Int) (w : World) : Calls Try.prog 25 #[.pointer none, .int .i64 i, .int .i64 n] w fun e w' => e = .returned (.tuple #[.string ⟨#[]⟩, .int .i64 1]) ∧ w = w' := by
  go_enter Try.func25, Try.ntmps25
  go_wp2
  go_ret2
  exact ⟨rfl, rfl⟩

end Go.Proofs.Ytojcoambodedbaa
