/- The page's device: Read. -/
import Derived.Lib.AppendStr
import Derived.Test.YtojcoambodedbaaRb
set_option linter.unusedVariables false
set_option linter.unusedSimpArgs false
set_option linter.unnecessarySimpa false
namespace Go.Proofs.Ytojcoambodedbaa
open Go.RowKit

/-- What holds of the page's device at all times. -/
structure DS.Full (S : DS) : Prop where
  len : S.now.length = S.safe.length
  safe : ∀ s ∈ S.safe, s.size = 512
  now : ∀ s ∈ S.now, s.size = 512
  held : ∀ x ∈ S.held, x.1 < S.safe.length ∧ x.2.size = 512
/-- The bytes of k sectors from a place on. -/
def DS.rreads (S : DS) (i : Nat) : Nat → List UInt8
  | 0 => []
  | k + 1 => S.rreads i k ++ (S.now.getD (i + k) ByteArray.empty).data.toList
theorem getD_size {l : List ByteArray} (h : ∀ s ∈ l, s.size = 512) {i : Nat} (hi : i < l.length) : (l.getD i ByteArray.empty).size = 512 := by
  rw [List.getD, List.getElem?_eq_getElem hi]
  exact h _ (List.getElem_mem hi)
theorem rreads_length {S : DS} (h : S.Full) (i : Nat) : ∀ k, i + k ≤ S.safe.length → (S.rreads i k).length = k * 512
  | 0, _ => rfl
  | k + 1, hk => by
    rw [DS.rreads, List.length_append, rreads_length h i k (by omega)]
    have h1 : (S.now.getD (i + k) ByteArray.empty).size = 512 := getD_size h.now (by rw [h.len]; omega)
    have : (S.now.getD (i + k) ByteArray.empty).data.toList.length = (S.now.getD (i + k) ByteArray.empty).size := Array.length_toList
    rw [this, h1]
    omega

theorem owns_slice {W : World} {B T z n : Nat} {v : Value} {xs : List Value} (h : W.ownsRow B T z v n xs) : ∃ a c, v = .slice a n c := by
  rcases h.2 with ⟨rfl, h0⟩ | ⟨g, cap, cur, rfl, _⟩
  · exact ⟨none, 0, by rw [h0]⟩
  · exact ⟨_, _, rfl⟩
/-- string(b) of a row of bytes of the call's own, nil let in. -/
theorem conv_owned {w : World} {B n : Nat} {v : Value} {l : List UInt8} (h : w.ownsRow B 5 1 v n (Lib.byteCells l)) : (convert 22 9 v).run Try.prog w = .ok (.string ⟨l.toArray⟩) w := by
  have hl := h.1
  rw [Lib.byteCells_length, Nat.mul_one] at hl
  rcases h.2 with ⟨rfl, h0⟩ | ⟨g, cap, cur, rfl, _⟩
  · have : l = [] := List.eq_nil_of_length_eq_zero (by omega)
    subst this
    rw [run_convert_bytes_string w 22 9 5 _ _ _ Try.underlying22 Try.underlying5 Try.underlying9]
    rfl
  · have hc := h.cells (g := g) rfl
    rw [run_convert_bytes_string w 22 9 5 _ _ _ Try.underlying22 Try.underlying5 Try.underlying9]
    have e : Lib.byteCells l = (l.map fun b => (b.toNat : Int)).map (Value.int .u8) := by simp [Lib.byteCells]
    rw [e] at hc
    have hl2 := run_loadCells_list (P := Try.prog) w ⟨g, 0, none⟩ _ hc
    rw [List.length_map, List.length_map, hl] at hl2
    rw [run_bytesToString w ⟨g, 0, none⟩ _ _ _ hl2, fold_bytes]
    have e2 : ((l.map fun b => (b.toNat : Int)).map fun n => UInt8.ofNat n.toNat) = l := by
      rw [List.map_map]
      conv => rhs; rw [← List.map_id l]
      apply List.map_congr_left
      intro b _
      simp
    rw [e2]
    simp [strOf]

theorem rread_place (D : RH) (S : DS) (i n : Int) (w : World) (h : RefAt w D S) (ht : ¬ There i n S.safe.length) :
    Calls Try.prog 25 #[.pointer (some ⟨D.b, 0, none⟩), .int .i64 i, .int .i64 n] w fun e w' => e = .returned (.tuple #[.string ⟨#[]⟩, .int .i64 40]) ∧ w = w' := by
  have K := Lib.hid (there_no D S i n w h ht)
  clear h ht
  go_enter Try.func25, Try.ntmps25
  go_wp2_with fail
  refine K.out.mono ?_
  rintro e w' ⟨rfl, rfl⟩
  go_wp2
  go_ret2
  exact ⟨rfl, rfl⟩
theorem rread_down (D : RH) (S : DS) (i n : Int) (w : World) (h : RefAt w D S) (ht : There i n S.safe.length) (hd : S.down = true) :
    Calls Try.prog 25 #[.pointer (some ⟨D.b, 0, none⟩), .int .i64 i, .int .i64 n] w fun e w' => e = .returned (.tuple #[.string ⟨#[]⟩, .int .i64 41]) ∧ w = w' := by
  have K := Lib.hid (there_yes D S i n w h ht)
  have c6 : w.cell? ⟨D.b, 6, none⟩ = some (.bool true) := by rw [h.blk.cell, ← hd]; rfl
  clear h ht hd
  go_enter Try.func25, Try.ntmps25
  go_wp2_with fail
  refine K.out.mono ?_
  rintro e w' ⟨rfl, rfl⟩
  go_wp2
  go_ret2
  exact ⟨rfl, rfl⟩

set_option maxRecDepth 100000 in
set_option maxHeartbeats 1000000 in
theorem rread_ok (D : RH) (S : DS) (i n : Nat) (w : World) (h : RefAt w D S) (hok : S.Full) (ht : i + n ≤ S.safe.length) (hd : S.down = false) :
    Calls Try.prog 25 #[.pointer (some ⟨D.b, 0, none⟩), .int .i64 i, .int .i64 n] w fun e w' => e = .returned (.tuple #[.string ⟨(S.rreads i n).toArray⟩, .int .i64 0]) ∧ Below w.heap.size w w' := by
  have K := Lib.hid (there_yes D S i n w h (by unfold There; omega))
  have c6 : w.cell? ⟨D.b, 6, none⟩ = some (.bool false) := by rw [h.blk.cell, ← hd]; rfl
  have H := Lib.hid h
  have HF := Lib.hid hok
  have hs := h.small
  have hlen := Lib.hid (rreads_length hok i)
  have hlt0 := Lib.hid h.lt
  obtain ⟨i0, hi, hz0, hz1, hz2⟩ := info_parts Try.info5
  clear h hd hok
  go_enter Try.func25, Try.ntmps25
  go_wp2_with fail
  refine K.out.mono ?_
  rintro e w' ⟨rfl, rfl⟩
  go_wp2_with fail
  clear c6
  go_loopw [8, 9] (fun v j wr => ∃ k : Nat, k ≤ n ∧ j = .int .i64 k ∧ wr.ownsRow w.heap.size 5 1 v (k * 512) (Lib.byteCells (S.rreads i k)) ∧ Below w.heap.size w wr) (fun _ j _ => n - (intOf j).toNat)
  case atStart => exact ⟨0, by omega, rfl, World.ownsRow_nil _ _ _ _, Below.refl _ _⟩
  case round =>
    obtain ⟨k, hk, rfl, hown, hB⟩ := hrel
    have hBz := hB.size
    have ho' := Lib.hid hown
    by_cases hlt : k < n
    · have hD : RefAt wr D S := H.out.keep (Upd.ofBelow (F := fun j => w.heap.size ≤ j) hB (fun j _ hj => hj)) (fun j hj => by have := hlt0.out j hj; omega)
      have c1 : wr.cell? ⟨D.b, 1, none⟩ = some (.slice (some ⟨D.bn, 0, none⟩) S.safe.length D.cn) := by rw [hD.blk.cell]; rfl
      have cn := hD.now.cell (i + k) (by rw [hD.len]; omega)
      have hsz := getD_size HF.out.now (show i + k < S.now.length by rw [hD.len]; omega)
      have hst : S.rreads i (k + 1) = S.rreads i k ++ (S.now.getD (i + k) ByteArray.empty).data.toList := rfl
      have hst' := Lib.hid hst
      obtain ⟨va, vc, rfl⟩ := owns_slice hown
      clear hown hst hD
      generalize S.now.getD (i + k) ByteArray.empty = t at cn hsz hst'
      go_wp2_with (at_builtin; refine Lib.wpList_append_own_string _ rfl (.tmp 26) (.tmp 35) 22 9 rfl w.heap.size 5 i0 Try.underlying22 Try.underlying9 hi hz0 hz1 hz2 _ _ _ rfl ho'.out t rfl (by unfold maxLen; omega) (by omega) hBz ?_; intro v' w2 hown2 hgrow _)
      have hB2 := hB.grown hgrow hBz (fun j hj => (ho'.out.lt j hj).1)
      rw [hsz, Lib.strCells_eq, ← Lib.byteCells_append, ← hst'.out, show k * 512 + 512 = (k + 1) * 512 by omega] at hown2
      have ho2 := Lib.hid hown2
      clear hown2 hgrow
      go_roundw
      case rel => exact ⟨k + 1, by omega, by go_num, ho2.out, hB2⟩
      case measure => simp [intOf]; omega
    · obtain rfl : k = n := by omega
      have hcv := conv_owned hown
      clear hown
      go_wp2
      go_ret2
      exact ⟨rfl, hB⟩

end Go.Proofs.Ytojcoambodedbaa
