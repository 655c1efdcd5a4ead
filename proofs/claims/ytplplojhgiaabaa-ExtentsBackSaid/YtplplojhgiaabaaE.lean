/- Used, twice, and the program's Find. -/
import Derived.Test.YtplplojhgiaabaaD
set_option linter.unusedVariables false
set_option linter.unusedSimpArgs false
set_option linter.unnecessarySimpa false
namespace Go.Proofs.Ytplplojhgiaabaa
open Go.RowKit

def total (l : List X) : Int := (l.map X.num).sum
/-- Where a block stands. -/
def look : List X → Int → Option Int
  | [], _ => none
  | x :: l, b => if x.lba ≤ b ∧ b < x.lba + x.num then some (x.pos + b - x.lba) else look l b

theorem Good.one {l : List X} (h : Good l) {k : Nat} {x : X} (hx : l[k]? = some x) : One x := by
  have hk : k < l.length := (List.getElem?_eq_some_iff.1 hx).1
  exact (h.2 k hk x hx).1
theorem take_succ_of {l : List X} {k : Nat} {x : X} (hx : l[k]? = some x) : l.take (k + 1) = l.take k ++ [x] := by
  rw [List.take_add_one, hx]; rfl
theorem total_bound {l : List X} (h : Good l) (k : Nat) : 0 ≤ total (l.take k) ∧ total (l.take k) ≤ k * 4096 := by
  induction k with
  | zero => simp [total]
  | succ k ih =>
    by_cases hk : k < l.length
    · have hx : l[k]? = some l[k] := List.getElem?_eq_getElem hk
      rw [take_succ_of hx]
      have h1 := h.one hx
      unfold One at h1
      simp only [total, List.map_append, List.sum_append, List.map_cons, List.map_nil, List.sum_cons, List.sum_nil] at ih ⊢
      omega
    · rw [List.take_of_length_le (by omega)]
      rw [List.take_of_length_le (by omega)] at ih
      omega
theorem total_succ {l : List X} {k : Nat} {x : X} (hx : l[k]? = some x) : total (l.take (k + 1)) = total (l.take k) + x.num := by
  rw [take_succ_of hx]
  simp [total]

set_option maxRecDepth 100000 in
set_option maxHeartbeats 4000000 in
theorem used_any (l : List X) (hl : ∀ x ∈ l, x.Ok) (hn : l.length ≤ 1000000000) (v : Value) (w : World) (h : Lies w v l) (r : Bool) (hr : r = true ↔ Good l) :
    Calls Try.prog 16 #[v] w fun e w' => e = .returned (.int .i64 (if r then total l else 0)) ∧ Below w.heap.size w w' := by
  have hg := Lib.hid (fun (w' : World) (h : Lies w' v l) => good_any l hl hn v w' h r hr)
  have hr' := Lib.hid hr
  have hl' := Lib.hid hl
  clear hr hl
  rcases h with ⟨a0, c0, rfl, rfl⟩ | ⟨b, off, cap, rfl, hb, hc⟩
  · have : r = true := hr'.2 good_nil
    subst this
    have hg0 := Lib.hid (hg w (.inl ⟨a0, c0, rfl, rfl⟩))
    go_enter Try.func16, Try.ntmps16
    go_wp2_with fail
    refine hg0.mono ?_
    rintro e w2 ⟨rfl, hB2⟩
    go_wp2
    refine wp_loop_rounds 1 ?_
    rw [rounds_succ]
    go_wp2
    go_ret
    exact ⟨rfl, hB2⟩
  · have hg0 := Lib.hid (hg w (.inr ⟨b, off, cap, rfl, hb, hc⟩))
    have hc3 := Lib.hid (show ∀ k x, l[k]? = some x → At3 w b (off + k * 3) x from fun k x hk => ⟨(hc k x hk).1, (hc k x hk).2.1, (hc k x hk).2.2⟩)
    clear hc hg
    obtain ⟨n, hnl⟩ : ∃ n, l.length = n := ⟨_, rfl⟩
    rw [hnl] at hn hg0 ⊢
    have hnl' := Lib.hid hnl
    clear hnl
    have hg1 := Lib.hid hg0
    clear hg0
    cases r with
    | false =>
      go_enter Try.func16, Try.ntmps16
      go_wp2_with fail
      refine hg1.mono ?_
      rintro e w2 ⟨rfl, hB2⟩
      go_wp2
      go_ret
      exact ⟨rfl, hB2⟩
    | true =>
      have hgood := Lib.hid (hr'.1 rfl)
      have hlen : n ≤ 4096 := by have h1 := (hr'.1 rfl).1; have h2 : l.length = n := hnl'; omega
      go_enter Try.func16, Try.ntmps16
      go_wp2_with fail
      refine hg1.mono ?_
      rintro e w2 ⟨rfl, hB2⟩
      have hb2 := hB2.size
      go_wp2
      go_loopw [10, 3] (fun i s wr => ∃ k : Nat, k ≤ n ∧ i = .int .i64 k ∧ s = .int .i64 (total (l.take k)) ∧ Below w.heap.size w wr) (fun i _ _ => n - (intOf i).toNat)
      case atStart => exact ⟨0, Nat.zero_le _, rfl, rfl, hB2⟩
      case round =>
        obtain ⟨k, hk, rfl, rfl, hB⟩ := hrel
        have htb := total_bound hgood k
        obtain ⟨t, ht⟩ : ∃ t, total (l.take k) = t := ⟨_, rfl⟩
        rw [ht] at htb ⊢
        by_cases hlt : k < n
        · have hkl : k < l.length := by have h2 : l.length = n := hnl'; omega
          obtain ⟨x, hx⟩ : ∃ x, l[k]? = some x := ⟨_, List.getElem?_eq_getElem hkl⟩
          have hcx := (hc3 k x hx).below hB hb
          have hxo := hgood.one hx
          have hts := total_succ hx
          rw [ht] at hts
          have hts' := Lib.hid hts
          have hx' := Lib.hid hx
          have ht' := Lib.hid ht
          clear hx hts ht
          have c0 := hcx.c0
          have c1 := hcx.c1
          have c2 := hcx.c2
          obtain ⟨a, m, p⟩ := x
          unfold One at hxo
          dsimp only at *
          obtain ⟨o1, o2, o3, o4, o5, o6⟩ := hxo
          have hB3 := hB.alloc hB.size (.cells #[.int .i64 a, .int .i64 m, .int .i64 p] 32)
          go_wp2
          go_roundw
          case rel => exact ⟨k + 1, by omega, by simp, congrArg _ hts'.symm, hB3⟩
          case measure => simp [intOf]; omega
        · obtain rfl : k = n := by omega
          have hfin : t = total l := by
            rw [← ht, List.take_of_length_le (by have h2 : l.length = k := hnl'; omega)]
          have hfin' := Lib.hid hfin
          clear hfin ht
          go_wp2
          go_ret
          exact ⟨congrArg (fun i => Ending.returned (Value.int .i64 i)) hfin', hB⟩

set_option maxRecDepth 100000 in
set_option maxHeartbeats 4000000 in
theorem usedRef_any (l : List X) (hl : ∀ x ∈ l, x.Ok) (hn : l.length ≤ 1000000000) (v : Value) (w : World) (h : Lies w v l) (r : Bool) (hr : r = true ↔ Good l) :
    Calls Try.prog 17 #[v] w fun e w' => e = .returned (.int .i64 (if r then total l else 0)) ∧ Below w.heap.size w w' := by
  have hg := Lib.hid (fun (w' : World) (h : Lies w' v l) => goodRef_any l hl hn v w' h r hr)
  have hr' := Lib.hid hr
  have hl' := Lib.hid hl
  clear hr hl
  rcases h with ⟨a0, c0, rfl, rfl⟩ | ⟨b, off, cap, rfl, hb, hc⟩
  · have : r = true := hr'.2 good_nil
    subst this
    have hg0 := Lib.hid (hg w (.inl ⟨a0, c0, rfl, rfl⟩))
    go_enter Try.func17, Try.ntmps17
    go_wp2_with fail
    refine hg0.mono ?_
    rintro e w2 ⟨rfl, hB2⟩
    go_wp2
    refine wp_loop_rounds 1 ?_
    rw [rounds_succ]
    go_wp2
    go_ret
    exact ⟨rfl, hB2⟩
  · have hg0 := Lib.hid (hg w (.inr ⟨b, off, cap, rfl, hb, hc⟩))
    have hc3 := Lib.hid (show ∀ k x, l[k]? = some x → At3 w b (off + k * 3) x from fun k x hk => ⟨(hc k x hk).1, (hc k x hk).2.1, (hc k x hk).2.2⟩)
    clear hc hg
    obtain ⟨n, hnl⟩ : ∃ n, l.length = n := ⟨_, rfl⟩
    rw [hnl] at hn hg0 ⊢
    have hnl' := Lib.hid hnl
    clear hnl
    have hg1 := Lib.hid hg0
    clear hg0
    cases r with
    | false =>
      go_enter Try.func17, Try.ntmps17
      go_wp2_with fail
      refine hg1.mono ?_
      rintro e w2 ⟨rfl, hB2⟩
      go_wp2
      go_ret
      exact ⟨rfl, hB2⟩
    | true =>
      have hgood := Lib.hid (hr'.1 rfl)
      have hlen : n ≤ 4096 := by have h1 := (hr'.1 rfl).1; have h2 : l.length = n := hnl'; omega
      go_enter Try.func17, Try.ntmps17
      go_wp2_with fail
      refine hg1.mono ?_
      rintro e w2 ⟨rfl, hB2⟩
      have hb2 := hB2.size
      go_wp2
      go_loopw [4, 3] (fun i s wr => ∃ k : Nat, k ≤ n ∧ i = .int .i64 k ∧ s = .int .i64 (total (l.take k)) ∧ Below w.heap.size w wr) (fun i _ _ => n - (intOf i).toNat)
      case atStart => exact ⟨0, Nat.zero_le _, rfl, rfl, hB2⟩
      case round =>
        obtain ⟨k, hk, rfl, rfl, hB⟩ := hrel
        have htb := total_bound hgood k
        obtain ⟨t, ht⟩ : ∃ t, total (l.take k) = t := ⟨_, rfl⟩
        rw [ht] at htb ⊢
        by_cases hlt : k < n
        · have hkl : k < l.length := by have h2 : l.length = n := hnl'; omega
          obtain ⟨x, hx⟩ : ∃ x, l[k]? = some x := ⟨_, List.getElem?_eq_getElem hkl⟩
          have hcx := (hc3 k x hx).below hB hb
          have hxo := hgood.one hx
          have hts := total_succ hx
          rw [ht] at hts
          have hts' := Lib.hid hts
          have hx' := Lib.hid hx
          have ht' := Lib.hid ht
          clear hx hts ht
          have c0 := hcx.c0
          have c1 := hcx.c1
          have c2 := hcx.c2
          obtain ⟨a, m, p⟩ := x
          unfold One at hxo
          dsimp only at *
          obtain ⟨o1, o2, o3, o4, o5, o6⟩ := hxo
          go_wp2
          go_roundw
          case rel => exact ⟨k + 1, by omega, by simp, congrArg _ hts'.symm, hB⟩
          case measure => simp [intOf]; omega
        · obtain rfl : k = n := by omega
          have hfin : t = total l := by
            rw [← ht, List.take_of_length_le (by have h2 : l.length = k := hnl'; omega)]
          have hfin' := Lib.hid hfin
          clear hfin ht
          go_wp2
          go_ret
          exact ⟨congrArg (fun i => Ending.returned (Value.int .i64 i)) hfin', hB⟩

theorem look_drop {l : List X} {k : Nat} {x : X} (hx : l[k]? = some x) (q : Int) : look (l.drop k) q = if x.lba ≤ q ∧ q < x.lba + x.num then some (x.pos + q - x.lba) else look (l.drop (k + 1)) q := by
  obtain ⟨hk, rfl⟩ := List.getElem?_eq_some_iff.1 hx
  rw [List.drop_eq_getElem_cons hk]
  rfl
/-- Find's two answers. -/
def found (o : Option Int) : Value := .tuple #[.int .i64 (o.getD 0), .bool o.isSome]

set_option maxRecDepth 100000 in
set_option maxHeartbeats 4000000 in
theorem find_any (l : List X) (hl : ∀ x ∈ l, x.Ok) (hn : l.length ≤ 1000000000) (v : Value) (w : World) (h : Lies w v l) (r : Bool) (hr : r = true ↔ Good l) (q : Int) (hq : fits q) :
    Calls Try.prog 12 #[v, .int .i64 q] w fun e w' => e = .returned (found (if r then look l q else none)) ∧ Below w.heap.size w w' := by
  have hg := Lib.hid (fun (w' : World) (h : Lies w' v l) => good_any l hl hn v w' h r hr)
  have hr' := Lib.hid hr
  have hl' := Lib.hid hl
  clear hr hl
  rcases h with ⟨a0, c0, rfl, rfl⟩ | ⟨b, off, cap, rfl, hb, hc⟩
  · have : r = true := hr'.2 good_nil
    subst this
    have hg0 := Lib.hid (hg w (.inl ⟨a0, c0, rfl, rfl⟩))
    go_enter Try.func12, Try.ntmps12
    go_wp2_with fail
    refine hg0.mono ?_
    rintro e w2 ⟨rfl, hB2⟩
    go_wp2
    refine wp_loop_rounds 1 ?_
    rw [rounds_succ]
    go_wp2
    go_ret2
    exact ⟨rfl, hB2⟩
  · have hg0 := Lib.hid (hg w (.inr ⟨b, off, cap, rfl, hb, hc⟩))
    have hc3 := Lib.hid (show ∀ k x, l[k]? = some x → At3 w b (off + k * 3) x from fun k x hk => ⟨(hc k x hk).1, (hc k x hk).2.1, (hc k x hk).2.2⟩)
    clear hc hg
    obtain ⟨hq1, hq2⟩ := hq
    obtain ⟨n, hnl⟩ : ∃ n, l.length = n := ⟨_, rfl⟩
    rw [hnl] at hn hg0 ⊢
    have hnl' := Lib.hid hnl
    clear hnl
    have hg1 := Lib.hid hg0
    clear hg0
    cases r with
    | false =>
      go_enter Try.func12, Try.ntmps12
      go_wp2_with fail
      refine hg1.mono ?_
      rintro e w2 ⟨rfl, hB2⟩
      go_wp2
      go_ret2
      exact ⟨rfl, hB2⟩
    | true =>
      have hgood := Lib.hid (hr'.1 rfl)
      have hlen : n ≤ 4096 := by have h1 := (hr'.1 rfl).1; have h2 : l.length = n := hnl'; omega
      go_enter Try.func12, Try.ntmps12
      go_wp2_with fail
      refine hg1.mono ?_
      rintro e w2 ⟨rfl, hB2⟩
      have hb2 := hB2.size
      go_wp2
      go_loopw [13] (fun i wr => ∃ k : Nat, k ≤ n ∧ i = .int .i64 k ∧ look l q = look (l.drop k) q ∧ Below w.heap.size w wr) (fun i _ => n - (intOf i).toNat)
      case atStart => exact ⟨0, Nat.zero_le _, rfl, rfl, hB2⟩
      case round =>
        obtain ⟨k, hk, rfl, hlo, hB⟩ := hrel
        have hlo' := Lib.hid hlo
        clear hlo
        by_cases hlt : k < n
        · have hkl : k < l.length := by have h2 : l.length = n := hnl'; omega
          obtain ⟨x, hx⟩ : ∃ x, l[k]? = some x := ⟨_, List.getElem?_eq_getElem hkl⟩
          have hcx := (hc3 k x hx).below hB hb
          have hxo := hgood.one hx
          have hdr := Lib.hid (look_drop hx q)
          have hx' := Lib.hid hx
          clear hx
          have c0 := hcx.c0
          have c1 := hcx.c1
          have c2 := hcx.c2
          obtain ⟨a, m, p⟩ := x
          unfold One at hxo
          dsimp only at *
          obtain ⟨o1, o2, o3, o4, o5, o6⟩ := hxo
          have hB3 := hB.alloc hB.size (.cells #[.int .i64 a, .int .i64 m, .int .i64 p] 32)
          by_cases hin : a ≤ q ∧ q < a + m
          · have hres := Lib.hid (hlo'.trans (hdr.trans (if_pos hin)))
            obtain ⟨i1, i2⟩ := hin
            go_wp2
            go_ret2
            refine ⟨?_, hB3⟩
            rw [show look l q = _ from hres]
            rfl
          · have hno : look l q = look (l.drop (k + 1)) q := hlo'.trans (hdr.trans (if_neg hin))
            have hno' := Lib.hid hno
            clear hno
            go_wp2
            all_goals first
              | (exfalso; omega)
              | exact ⟨⟨k + 1, by omega, by simp, hno', hB3⟩, by simp [intOf]; omega⟩
        · obtain rfl : k = n := by omega
          have hfin : look l q = none := by
            have h2 : l.length = k := hnl'
            rw [show look l q = _ from hlo', List.drop_of_length_le (by omega)]
            rfl
          have hfin' := Lib.hid hfin
          clear hfin
          go_wp2
          go_ret2
          refine ⟨?_, hB⟩
          rw [show look l q = _ from hfin']
          rfl

end Go.Proofs.Ytplplojhgiaabaa
