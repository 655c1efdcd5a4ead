/- Texts and extents, as plain lists: what was written is read as it was, what was read is written as it was. One sentence for each of Text and Parse. -/
import Derived.Test.YtplplojhgiaabaaTl
set_option linter.unusedVariables false
set_option linter.unusedSimpArgs false
set_option linter.unnecessarySimpa false
namespace Go.Proofs.Ytplplojhgiaabaa
open Go.RowKit Classical

theorem nb_strOf (L : List UInt8) (i : Nat) : nb (strOf L) i = (L.getD i 0).toNat := by simp [nb, strOf]
theorem byte_of (x : Nat) : (UInt8.ofNat (x % 256)).toNat = x % 256 := by simp
theorem nb_right (pre post : List UInt8) (j : Nat) : nb (strOf (pre ++ post)) (pre.length + j) = (post.getD j 0).toNat := by
  rw [nb_strOf]
  congr 1
  rw [List.getD, List.getD, List.getElem?_append_right (by omega), Nat.add_sub_cancel_left]
theorem num4_at (pre post : List UInt8) (v : Nat) (hv : v < 4294967296) (i : Nat) (hi : i = pre.length) : num4 (strOf (pre ++ (be4 v ++ post))) i = v := by
  subst hi
  have h0 := nb_right pre (be4 v ++ post) 0
  have h1 := nb_right pre (be4 v ++ post) 1
  have h2 := nb_right pre (be4 v ++ post) 2
  have h3 := nb_right pre (be4 v ++ post) 3
  simp only [be4, List.cons_append, List.nil_append, List.getD_cons_zero, List.getD_cons_succ, byte_of, Nat.add_zero] at h0 h1 h2 h3
  unfold num4
  simp only [be4, List.cons_append, List.nil_append]
  rw [h0, h1, h2, h3]
  omega

theorem textF_length (l : List X) : (textF l).length = 4 + 12 * l.length := by
  unfold textF
  rw [List.length_append, recs_length, be4_length]
theorem one_nat {x : X} (h : One x) : x.lba.toNat < 4294967296 ∧ x.num.toNat < 4294967296 ∧ x.pos.toNat < 4294967296 ∧ (x.lba.toNat : Int) = x.lba ∧ (x.num.toNat : Int) = x.num ∧ (x.pos.toNat : Int) = x.pos := by
  unfold One at h
  omega
theorem px_text {l : List X} (hg : Good l) {k : Nat} {x : X} (hx : l[k]? = some x) : px (strOf (textF l)) k = x := by
  have hk : k < l.length := (List.getElem?_eq_some_iff.1 hx).1
  have ho := one_nat (hg.one hx)
  have hsplit : textF l = (be4 l.length ++ recs (l.take k)) ++ (be4 x.lba.toNat ++ (be4 x.num.toNat ++ (be4 x.pos.toNat ++ recs (l.drop (k + 1))))) := by
    have e : l = l.take (k + 1) ++ l.drop (k + 1) := (List.take_append_drop _ _).symm
    have e2 : recs l = recs (l.take (k + 1)) ++ recs (l.drop (k + 1)) := by rw [← recs_append, ← e]
    unfold textF
    rw [e2, recs_succ hx]
    simp only [x12, List.append_assoc]
  have hlen : (be4 l.length ++ recs (l.take k)).length = 4 + 12 * k := by
    rw [List.length_append, be4_length, recs_length, List.length_take]
    omega
  have p0 := num4_at (be4 l.length ++ recs (l.take k)) (be4 x.num.toNat ++ (be4 x.pos.toNat ++ recs (l.drop (k + 1)))) x.lba.toNat ho.1 (4 + 12 * k) hlen.symm
  have p1 := num4_at (be4 l.length ++ recs (l.take k) ++ be4 x.lba.toNat) (be4 x.pos.toNat ++ recs (l.drop (k + 1))) x.num.toNat ho.2.1 (4 + 12 * k + 4) (by rw [List.length_append, hlen, be4_length])
  have p2 := num4_at (be4 l.length ++ recs (l.take k) ++ be4 x.lba.toNat ++ be4 x.num.toNat) (recs (l.drop (k + 1))) x.pos.toNat ho.2.2.1 (4 + 12 * k + 8) (by rw [List.length_append, List.length_append, hlen, be4_length, be4_length])
  simp only [List.append_assoc] at p0 p1 p2 hsplit
  unfold px
  rw [hsplit, p0, p1, p2]
  obtain ⟨a, b, c⟩ := x
  simp only [X.mk.injEq]
  exact ⟨ho.2.2.2.1, ho.2.2.2.2.1, ho.2.2.2.2.2⟩
theorem parsed_text {l : List X} (hg : Good l) : ∀ k, k ≤ l.length → parsed (strOf (textF l)) k = l.take k := by
  intro k
  induction k with
  | zero => intro _; simp [parsed]
  | succ k ih =>
    intro hk
    have hx : l[k]? = some l[k] := List.getElem?_eq_getElem (by omega)
    rw [parsed, ih (by omega), px_text hg hx, take_succ_of hx]
theorem num_text {l : List X} (hg : Good l) : num4 (strOf (textF l)) 0 = l.length := by
  have := num4_at [] (recs l) l.length (by have := hg.1; omega) 0 rfl
  simpa [textF] using this
theorem fit_text {l : List X} (hg : Good l) : Fit (strOf (textF l)) := by
  have h1 := hg.1
  unfold Fit
  rw [num_text hg, strOf_size, textF_length]
  omega

/-! ### what was read is written as it was -/
def byte (s : ByteArray) (i : Nat) : UInt8 := s.data.toList.getD i 0
theorem nb_byte (s : ByteArray) (i : Nat) : nb s i = (byte s i).toNat := rfl
theorem be4_num4 (s : ByteArray) (i : Nat) : be4 (num4 s i) = [byte s i, byte s (i + 1), byte s (i + 2), byte s (i + 3)] := by
  have h0 := nb_lt s i
  have h1 := nb_lt s (i + 1)
  have h2 := nb_lt s (i + 2)
  have h3 := nb_lt s (i + 3)
  have key : ∀ (x : Nat) (b : UInt8), x = b.toNat → UInt8.ofNat x = b := fun x b h => by rw [h]; simp
  unfold be4
  simp only [List.cons.injEq, and_true]
  refine ⟨key _ _ ?_, key _ _ ?_, key _ _ ?_, key _ _ ?_⟩
  all_goals
    rw [← nb_byte]
    unfold num4
    omega
theorem take4 {L : List UInt8} {i : Nat} (h : i + 4 ≤ L.length) : (L.drop i).take 4 = [L.getD i 0, L.getD (i + 1) 0, L.getD (i + 2) 0, L.getD (i + 3) 0] := by
  apply List.ext_getElem?
  intro j
  by_cases hj : j < 4
  · rw [List.getElem?_take_of_lt hj, List.getElem?_drop, List.getElem?_eq_getElem (by omega)]
    obtain rfl | rfl | rfl | rfl : j = 0 ∨ j = 1 ∨ j = 2 ∨ j = 3 := by omega
    all_goals
      simp [List.getD, List.getElem?_eq_getElem (show i < L.length by omega), List.getElem?_eq_getElem (show i + 1 < L.length by omega), List.getElem?_eq_getElem (show i + 2 < L.length by omega), List.getElem?_eq_getElem (show i + 3 < L.length by omega)]
  · rw [List.getElem?_eq_none (by rw [List.length_take, List.length_drop]; omega), List.getElem?_eq_none (by simp; omega)]
theorem be4_take (s : ByteArray) (i : Nat) (h : i + 4 ≤ s.size) : be4 (num4 s i) = (s.data.toList.drop i).take 4 := by
  rw [be4_num4, take4 (by rw [Array.length_toList]; exact h)]
  rfl
theorem take_more (L : List UInt8) (i a b : Nat) : (L.drop i).take (a + b) = (L.drop i).take a ++ (L.drop (i + a)).take b := by
  rw [List.take_add, List.drop_drop]
theorem x12_take (s : ByteArray) (k : Nat) (h : 4 + 12 * k + 12 ≤ s.size) : x12 (px s k) = (s.data.toList.drop (4 + 12 * k)).take 12 := by
  unfold x12 px
  dsimp only
  rw [Int.toNat_natCast, Int.toNat_natCast, Int.toNat_natCast, be4_take s _ (by omega), be4_take s _ (by omega), be4_take s _ (by omega)]
  rw [show (12 : Nat) = 4 + (4 + 4) from rfl, take_more, take_more]
theorem recs_parsed (s : ByteArray) : ∀ k, 4 + 12 * k ≤ s.size → recs (parsed s k) = (s.data.toList.drop 4).take (12 * k) := by
  intro k
  induction k with
  | zero => intro _; simp [parsed, recs]
  | succ k ih =>
    intro h
    rw [parsed, recs_append, ih (by omega)]
    have e : recs [px s k] = x12 (px s k) := by simp [recs]
    rw [e, x12_take s k (by omega), show 12 * (k + 1) = 12 * k + 12 by omega, take_more]
theorem text_parsed {s : ByteArray} (hf : Fit s) : strOf (textF (parsed s (num4 s 0))) = s := by
  obtain ⟨h1, h2, h3⟩ := hf
  have hL : s.data.toList.length = s.size := Array.length_toList
  have e : textF (parsed s (num4 s 0)) = s.data.toList := by
    unfold textF
    rw [parsed_length, recs_parsed s _ (by omega), be4_take s 0 (by omega)]
    rw [List.drop_zero, ← List.take_append_drop 4 s.data.toList]
    congr 1
    · simp
    · rw [List.take_append_drop, List.take_of_length_le]
      rw [List.length_drop]
      omega
  rw [e]
  rfl

/-! ### one sentence each -/
noncomputable def textOk (l : List X) : Bool := decide (Good l)
noncomputable def textOut (l : List X) : List UInt8 := if Good l then textF l else []
noncomputable def parseOk (s : ByteArray) : Bool := decide (Fit s ∧ Good (parsed s (num4 s 0)))
noncomputable def parseOut (s : ByteArray) : List X := if Fit s ∧ Good (parsed s (num4 s 0)) then parsed s (num4 s 0) else []

theorem text_say (l : List X) (hl : ∀ x ∈ l, x.Ok) (hn : l.length ≤ 1000000000) (v : Value) (w : World) (h : Lies w v l) :
    Calls Try.prog 23 #[v] w fun e w' => e = .returned (told (strOf (textOut l)) (textOk l)) ∧ Below w.heap.size w w' := by
  unfold textOut textOk
  by_cases hg : Good l
  · rw [if_pos hg, decide_eq_true hg]
    by_cases hp : 0 < l.length
    · exact text_cons l hp v w h hg
    · have : l = [] := List.eq_nil_of_length_eq_zero (by omega)
      subst this
      rcases h with ⟨a, c, rfl, _⟩ | ⟨b, off, cap, rfl, _⟩
      · exact text_nil a c w
      · exact text_nil _ cap w
  · rw [if_neg hg, decide_eq_false hg]
    exact text_no l hl hn v w h hg
theorem textRef_say (l : List X) (hl : ∀ x ∈ l, x.Ok) (hn : l.length ≤ 1000000000) (v : Value) (w : World) (h : Lies w v l) :
    Calls Try.prog 24 #[v] w fun e w' => e = .returned (told (strOf (textOut l)) (textOk l)) ∧ Below w.heap.size w w' := by
  unfold textOut textOk
  by_cases hg : Good l
  · rw [if_pos hg, decide_eq_true hg]
    by_cases hp : 0 < l.length
    · exact textRef_cons l hp v w h hg
    · have : l = [] := List.eq_nil_of_length_eq_zero (by omega)
      subst this
      rcases h with ⟨a, c, rfl, _⟩ | ⟨b, off, cap, rfl, _⟩
      · exact textRef_nil a c w
      · exact textRef_nil _ cap w
  · rw [if_neg hg, decide_eq_false hg]
    exact textRef_no l hl hn v w h hg

theorem parse_say (s : ByteArray) (hs : s.size ≤ 140737488351232) (w : World) :
    Calls Try.prog 25 #[.string s] w fun e w' => ∃ v', e = .returned (answer v' (parseOk s)) ∧ Lies w' v' (parseOut s) ∧ Below w.heap.size w w' := by
  by_cases hf : Fit s
  · obtain ⟨h1, h2, h3⟩ := id hf
    have := parse_fit s _ rfl h2 h3 w (decide (Good (parsed s (num4 s 0)))) (by simp)
    refine this.mono ?_
    rintro e w' ⟨v', he, hl, hB⟩
    refine ⟨v', ?_, ?_, hB⟩
    · rw [he]; unfold parseOk; simp [hf]
    · unfold parseOut
      by_cases hg : Good (parsed s (num4 s 0)) <;> simpa [hf, hg] using hl
  · have e1 : parseOk s = false := by unfold parseOk; simp [hf]
    have e2 : parseOut s = [] := by unfold parseOut; simp [hf]
    rw [e1, e2]
    have key : Calls Try.prog 25 #[.string s] w fun e w' => e = .returned (answer (.slice none 0 0) false) ∧ Below w.heap.size w w' := by
      by_cases h4 : s.size < 4
      · exact parse_short s w h4
      · by_cases h5 : 4096 < num4 s 0
        · exact parse_great s _ rfl (by omega) hs w h5 (num4_lt s 0)
        · exact parse_odd s _ rfl (by omega) hs w (by omega) (fun h => hf ⟨by omega, by omega, h⟩)
    refine key.mono ?_
    rintro e w' ⟨he, hB⟩
    exact ⟨_, he, .inl ⟨none, 0, rfl, rfl⟩, hB⟩
theorem parseRef_say (s : ByteArray) (hs : s.size ≤ 140737488351232) (w : World) :
    Calls Try.prog 26 #[.string s] w fun e w' => ∃ v', e = .returned (answer v' (parseOk s)) ∧ Lies w' v' (parseOut s) ∧ Below w.heap.size w w' := by
  by_cases hf : Fit s
  · obtain ⟨h1, h2, h3⟩ := id hf
    have := parseRef_fit s _ rfl h2 h3 w (decide (Good (parsed s (num4 s 0)))) (by simp)
    refine this.mono ?_
    rintro e w' ⟨v', he, hl, hB⟩
    refine ⟨v', ?_, ?_, hB⟩
    · rw [he]; unfold parseOk; simp [hf]
    · unfold parseOut
      by_cases hg : Good (parsed s (num4 s 0)) <;> simpa [hf, hg] using hl
  · have e1 : parseOk s = false := by unfold parseOk; simp [hf]
    have e2 : parseOut s = [] := by unfold parseOut; simp [hf]
    rw [e1, e2]
    have key : Calls Try.prog 26 #[.string s] w fun e w' => e = .returned (answer (.slice none 0 0) false) ∧ Below w.heap.size w w' := by
      by_cases h4 : s.size < 4
      · exact parseRef_short s w h4
      · by_cases h5 : 4096 < num4 s 0
        · exact parseRef_great s _ rfl (by omega) hs w h5 (num4_lt s 0)
        · exact parseRef_odd s _ rfl (by omega) hs w (by omega) (fun h => hf ⟨by omega, by omega, h⟩)
    refine key.mono ?_
    rintro e w' ⟨he, hB⟩
    exact ⟨_, he, .inl ⟨none, 0, rfl, rfl⟩, hB⟩

theorem parseOut_good (s : ByteArray) : Good (parseOut s) := by
  unfold parseOut
  split
  · rename_i h
    exact h.2
  · exact good_nil

end Go.Proofs.Ytplplojhgiaabaa
