/- Set and Drop in one sentence each: the program's and the page's. -/
import Derived.Test.YtplplojhgiaabaaLaw3
set_option linter.unusedVariables false
set_option linter.unusedSimpArgs false
set_option linter.unnecessarySimpa false
namespace Go.Proofs.Ytplplojhgiaabaa
open Go.RowKit Classical

noncomputable def setOk (l : List X) (x : X) : Bool := decide (Good l ∧ One x)
noncomputable def setOut (l : List X) (x : X) : List X := if Good l ∧ One x then gatherF (setT x l) 4096 else []
noncomputable def dropOk (l : List X) (a m : Int) : Bool := decide (Good l ∧ Cut a m)
noncomputable def dropOut (l : List X) (a m : Int) : List X := if Good l ∧ Cut a m then gatherF (dropT a m l) 4096 else []

theorem setOut_good (l : List X) (x : X) : Good (setOut l x) := by
  unfold setOut
  split
  · rename_i h
    exact (gather_law _ (setT_bound h.1 h.2)).1
  · exact good_nil
theorem dropOut_good (l : List X) (a m : Int) : Good (dropOut l a m) := by
  unfold dropOut
  split
  · rename_i h
    exact (gather_law _ (dropT_bound h.1)).1
  · exact good_nil
theorem Good.oks {l : List X} (h : Good l) : ∀ x ∈ l, x.Ok := by
  intro y hy
  have := h.one_mem hy
  unfold One at this
  unfold X.Ok fits
  omega

theorem set_say (l : List X) (hl : ∀ x ∈ l, x.Ok) (hn : l.length ≤ 1000000000) (x : X) (hx : x.Ok) (v : Value) (w : World) (h : Lies w v l) :
    Calls Try.prog 19 #[v, x.agg] w fun e w' => ∃ v', e = .returned (answer v' (setOk l x)) ∧ Lies w' v' (setOut l x) ∧ Below w.heap.size w w' := by
  by_cases hg : Good l ∧ One x
  · refine (set_yes l hg.1.1 v w h x hg.1 hg.2).mono ?_
    rintro e w' ⟨s, v', hp, hw, he, hL, hB⟩
    have h1 : setOk l x = true := decide_eq_true hg
    have h2 : setOut l x = mergedF s := by unfold setOut; rw [if_pos hg]; exact (set_eq hg.1 hg.2 hp hw).symm
    exact ⟨v', by rw [h1]; exact he, by rw [h2]; exact hL, hB⟩
  · refine (set_no l hl hn v w h x hx hg).mono ?_
    rintro e w' ⟨he, hB⟩
    have h1 : setOk l x = false := decide_eq_false hg
    have h2 : setOut l x = [] := by unfold setOut; rw [if_neg hg]
    exact ⟨_, by rw [h1]; exact he, by rw [h2]; exact .inl ⟨none, 0, rfl, rfl⟩, hB⟩
theorem setRef_say (l : List X) (hl : ∀ x ∈ l, x.Ok) (hn : l.length ≤ 1000000000) (x : X) (hx : x.Ok) (v : Value) (w : World) (h : Lies w v l) :
    Calls Try.prog 20 #[v, x.agg] w fun e w' => ∃ v', e = .returned (answer v' (setOk l x)) ∧ Lies w' v' (setOut l x) ∧ Below w.heap.size w w' := by
  by_cases hg : Good l ∧ One x
  · refine (setRef_yes l hg.1.1 v w h x hg.1 hg.2).mono ?_
    rintro e w' ⟨v', he, hL, hB⟩
    have h1 : setOk l x = true := decide_eq_true hg
    have h2 : setOut l x = gatherF (setT x l) 4096 := by unfold setOut; rw [if_pos hg]
    exact ⟨v', by rw [h1]; exact he, by rw [h2]; exact hL, hB⟩
  · refine (setRef_no l hl hn v w h x hx hg).mono ?_
    rintro e w' ⟨he, hB⟩
    have h1 : setOk l x = false := decide_eq_false hg
    have h2 : setOut l x = [] := by unfold setOut; rw [if_neg hg]
    exact ⟨_, by rw [h1]; exact he, by rw [h2]; exact .inl ⟨none, 0, rfl, rfl⟩, hB⟩
theorem drop_say (l : List X) (hl : ∀ x ∈ l, x.Ok) (hn : l.length ≤ 100000000) (a m : Int) (ha : fits a) (hm : fits m) (v : Value) (w : World) (h : Lies w v l) :
    Calls Try.prog 21 #[v, .int .i64 a, .int .i64 m] w fun e w' => ∃ v', e = .returned (answer v' (dropOk l a m)) ∧ Lies w' v' (dropOut l a m) ∧ Below w.heap.size w w' := by
  by_cases hg : Good l ∧ Cut a m
  · have h1 : dropOk l a m = true := decide_eq_true hg
    have h2 : dropOut l a m = gatherF (dropT a m l) 4096 := by unfold dropOut; rw [if_pos hg]
    by_cases h0 : m = 0
    · subst h0
      refine (drop_zero l hl hn v w h a hg.1 hg.2).mono ?_
      rintro e w' ⟨v', he, hL, hB⟩
      exact ⟨v', by rw [h1]; exact he, by rw [h2, ← drop_none_eq hg.1]; exact hL, hB⟩
    · refine (drop_yes l hg.1.1 v w h a m hg.1 hg.2 h0).mono ?_
      rintro e w' ⟨s, v', hp, hw, he, hL, hB⟩
      exact ⟨v', by rw [h1]; exact he, by rw [h2, ← drop_eq hg.1 hg.2.2.1 hp hw]; exact hL, hB⟩
  · refine (drop_no l hl (by omega) v w h a m ha hm hg).mono ?_
    rintro e w' ⟨he, hB⟩
    have h1 : dropOk l a m = false := decide_eq_false hg
    have h2 : dropOut l a m = [] := by unfold dropOut; rw [if_neg hg]
    exact ⟨_, by rw [h1]; exact he, by rw [h2]; exact .inl ⟨none, 0, rfl, rfl⟩, hB⟩
theorem dropRef_say (l : List X) (hl : ∀ x ∈ l, x.Ok) (hn : l.length ≤ 100000000) (a m : Int) (ha : fits a) (hm : fits m) (v : Value) (w : World) (h : Lies w v l) :
    Calls Try.prog 22 #[v, .int .i64 a, .int .i64 m] w fun e w' => ∃ v', e = .returned (answer v' (dropOk l a m)) ∧ Lies w' v' (dropOut l a m) ∧ Below w.heap.size w w' := by
  by_cases hg : Good l ∧ Cut a m
  · have h1 : dropOk l a m = true := decide_eq_true hg
    have h2 : dropOut l a m = gatherF (dropT a m l) 4096 := by unfold dropOut; rw [if_pos hg]
    refine (dropRef_yes l hg.1.1 v w h a m hg.1 hg.2).mono ?_
    rintro e w' ⟨v', he, hL, hB⟩
    exact ⟨v', by rw [h1]; exact he, by rw [h2]; exact hL, hB⟩
  · refine (dropRef_no l hl (by omega) v w h a m ha hm hg).mono ?_
    rintro e w' ⟨he, hB⟩
    have h1 : dropOk l a m = false := decide_eq_false hg
    have h2 : dropOut l a m = [] := by unfold dropOut; rw [if_neg hg]
    exact ⟨_, by rw [h1]; exact he, by rw [h2]; exact .inl ⟨none, 0, rfl, rfl⟩, hB⟩

/-- Same, of two slices that hold the same. -/
theorem same_self (l : List X) (hl : ∀ x ∈ l, x.Ok) (hn : l.length ≤ 1000000000) (v v' : Value) (w : World) (h : Lies w v l) (h' : Lies w v' l) :
    Calls Try.prog 18 #[v, v'] w fun e w' => e = .returned (.bool true) ∧ Below w.heap.size w w' := by
  have := same_any l l hl hl hn hn v v' w h h'
  rwa [show decide (l = l) = true by simp] at this

end Go.Proofs.Ytplplojhgiaabaa
