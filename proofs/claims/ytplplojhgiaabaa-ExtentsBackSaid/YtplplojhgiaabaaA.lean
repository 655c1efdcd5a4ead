/- Words on memory and on lists of extents that the walks of this seat use. No walk. -/
import Derived.Test.YtplplojhgiaabaaRows
import Derived.WalkKit
import Derived.Deep.QuietTactic
import Derived.BigQuiet
import Derived.Lib.Hide
import Derived.Laws.AppendOwn
set_option linter.unusedVariables false
set_option linter.unusedSimpArgs false
set_option linter.unnecessarySimpa false
namespace Go.Proofs.Ytplplojhgiaabaa
open Go.RowKit

/-- One extent. -/
structure X where
  lba : Int
  num : Int
  pos : Int
deriving DecidableEq

def fits (n : Int) : Prop := -9223372036854775808 ≤ n ∧ n ≤ 9223372036854775807
def X.Ok (x : X) : Prop := fits x.lba ∧ fits x.num ∧ fits x.pos

def X.vs (x : X) : List Value := [.int .i64 x.lba, .int .i64 x.num, .int .i64 x.pos]
def X.agg (x : X) : Value := .agg #[.int .i64 x.lba, .int .i64 x.num, .int .i64 x.pos]

/-- An extent that may be. -/
def One (x : X) : Prop := 0 ≤ x.lba ∧ 0 ≤ x.pos ∧ 1 ≤ x.num ∧ x.num ≤ 4096 ∧ x.lba + x.num ≤ 4096 ∧ x.pos + x.num ≤ 8192
instance (x : X) : Decidable (One x) := by unfold One; infer_instance

/-- The extent y may stand right behind x. -/
def Behind (x y : X) : Prop := x.lba + x.num ≤ y.lba ∧ ¬ (y.lba = x.lba + x.num ∧ y.pos = x.pos + x.num)
instance (x y : X) : Decidable (Behind x y) := by unfold Behind; infer_instance

/-- What stands at place i of a list of extents may stand there. -/
def OkAt (l : List X) (i : Nat) : Prop := ∀ x, l[i]? = some x → One x ∧ ∀ p, 0 < i → l[i-1]? = some p → Behind p x

/-- The list is good. -/
def Good (l : List X) : Prop := l.length ≤ 4096 ∧ ∀ i, i < l.length → OkAt l i

/-- The value v is a slice that holds the extents l. -/
def Lies (W : World) (v : Value) (l : List X) : Prop :=
  (∃ a0 c0, v = .slice a0 0 c0 ∧ l = []) ∨
  ∃ b off cap, v = .slice (some ⟨b, off, none⟩) l.length cap ∧ b < W.heap.size ∧
    ∀ k x, l[k]? = some x → W.cell? ⟨b, off + k * 3, none⟩ = some (.int .i64 x.lba) ∧ W.cell? ⟨b, off + k * 3 + 1, none⟩ = some (.int .i64 x.num) ∧ W.cell? ⟨b, off + k * 3 + 2, none⟩ = some (.int .i64 x.pos)

theorem Lies.below {n : Nat} {A B : World} {v : Value} {l : List X} (h : Lies A v l) (hb : Below n A B) (hn : A.heap.size ≤ n) : Lies B v l := by
  rcases h with h | ⟨b, off, cap, rfl, hlt, hc⟩
  · exact .inl h
  · have hbn : b < n := Nat.lt_of_lt_of_le hlt hn
    have hs : A.heap.size ≤ B.heap.size := hb.size
    refine .inr ⟨b, off, cap, rfl, by omega, fun k x hk => ?_⟩
    obtain ⟨h1, h2, h3⟩ := hc k x hk
    exact ⟨(hb.cell (p := ⟨b, off + k * 3, none⟩) hbn).trans h1, (hb.cell (p := ⟨b, off + k * 3 + 1, none⟩) hbn).trans h2, (hb.cell (p := ⟨b, off + k * 3 + 2, none⟩) hbn).trans h3⟩

end Go.Proofs.Ytplplojhgiaabaa
