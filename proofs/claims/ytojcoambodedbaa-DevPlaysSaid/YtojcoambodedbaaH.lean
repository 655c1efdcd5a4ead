/- What a device keeps: every text a sector long or empty. Crash, as data. -/
import Derived.Test.YtojcoambodedbaaG
set_option linter.unusedVariables false
set_option linter.unusedSimpArgs false
set_option linter.unnecessarySimpa false
namespace Go.Proofs.Ytojcoambodedbaa
open Go.RowKit

def SecOk (s : ByteArray) : Prop := s.size = 0 ∨ s.size = 512

structure DS.Ok (S : DS) : Prop where
  len : S.now.length = S.safe.length
  safe : ∀ s ∈ S.safe, SecOk s
  now : ∀ s ∈ S.now, SecOk s
  held : ∀ x ∈ S.held, x.1 < S.safe.length ∧ x.2.size = 512

theorem size_zeros (n : Nat) : (zeros n).size = n := by
  show (List.replicate n (0 : UInt8)).toArray.size = n
  simp
theorem size_blockN (n b : Nat) : (blockN n b).size = n := by
  show (List.replicate n (UInt8.ofNat b)).toArray.size = n
  simp
theorem isEmpty_iff (s : ByteArray) : s.toList.isEmpty = true ↔ s.size = 0 := by
  rw [ByteArray.toList_eq]
  constructor
  · intro h
    have : s.data.toList = [] := by simpa using h
    show s.data.size = 0
    have := congrArg List.length this
    simpa using this
  · intro h
    have h' : s.data.size = 0 := h
    simp at h'
    simp [h']
theorem size_of_isEmpty_false {s : ByteArray} (h : s.toList.isEmpty = false) (hs : SecOk s) : s.size = 512 := by
  rcases hs with hs | hs
  · rw [(isEmpty_iff s).2 hs] at h; cases h
  · exact hs
theorem secOk_getD {l : List ByteArray} (h : ∀ s ∈ l, SecOk s) (i : Nat) : SecOk (l.getD i ByteArray.empty) := by
  rw [List.getD]
  cases hi : l[i]? with
  | none => exact Or.inl rfl
  | some s => exact h s (List.mem_of_getElem? hi)
theorem DS.Ok.kept {S : DS} (h : S.Ok) (i : Nat) : (S.kept i).size = 512 := by
  unfold DS.kept
  split
  · exact size_zeros 512
  · rename_i hn
    exact size_of_isEmpty_false (by simpa using hn) (secOk_getD h.safe i)
theorem DS.Ok.sector {S : DS} (h : S.Ok) (i : Nat) : (S.sector i).size = 512 := by
  unfold DS.sector
  split
  · exact h.kept i
  · rename_i hn
    exact size_of_isEmpty_false (by simpa using hn) (secOk_getD h.now i)
theorem secOk_set {l : List ByteArray} (h : ∀ s ∈ l, SecOk s) (i : Nat) (t : ByteArray) (ht : SecOk t) : ∀ s ∈ l.set i t, SecOk s := by
  intro s hs
  rcases List.mem_or_eq_of_mem_set hs with hs | rfl
  · exact h s hs
  · exact ht

theorem DS.Ok.nowSet {S : DS} (h : S.Ok) (i : Nat) (t : ByteArray) (ht : SecOk t) : DS.Ok { S with now := S.now.set i t } :=
  ⟨by simpa using h.len, h.safe, secOk_set h.now i t ht, h.held⟩
theorem DS.Ok.settle1 {S : DS} (h : S.Ok) (i : Nat) : (S.settle1 i).Ok := by
  unfold DS.settle1
  split
  · exact h
  · exact ⟨by simpa using h.len, secOk_set h.safe i _ (secOk_getD h.now i), secOk_set h.now i _ (Or.inl rfl), by simpa using h.held⟩
theorem DS.Ok.settles (l : List (Nat × ByteArray)) : ∀ {S : DS}, S.Ok → (S.settles l).Ok := by
  induction l with
  | nil => exact fun h => h
  | cons x l ih => exact fun h => ih (h.settle1 x.1)
theorem DS.Ok.settle {S : DS} (h : S.Ok) : S.settle.Ok := by
  have := DS.Ok.settles S.held h
  exact ⟨this.len, this.safe, this.now, by simp [DS.settle]⟩
theorem DS.Ok.put1 {S : DS} (h : S.Ok) (i : Nat) (s : ByteArray) (hi : i < S.safe.length) (hs : s.size = 512) : (S.put1 i s).Ok :=
  ⟨by simpa [DS.put1] using h.len, h.safe, secOk_set h.now i s (Or.inr hs), by
    intro x hx
    simp only [DS.put1, List.mem_append, List.mem_singleton] at hx
    rcases hx with hx | rfl
    · exact h.held x hx
    · exact ⟨hi, hs⟩⟩
theorem DS.Ok.flags {S : DS} (h : S.Ok) (o l : Int) (a d : Bool) : DS.Ok { S with ops := o, left := l, armed := a, down := d } := ⟨h.len, h.safe, h.now, h.held⟩

/-- What of the i-th write that is held stays. -/
def keepAt (ks : List Int) (i : Nat) : Nat := if i < ks.length then (min (max (ks.getD i 0) 0) 512).toNat else 0
theorem keepAt_le (ks : List Int) (i : Nat) : keepAt ks i ≤ 512 := by
  unfold keepAt
  split
  · omega
  · omega

def DS.wipe1 (S : DS) (i : Nat) : DS := { S with now := S.now.set i ByteArray.empty }
def DS.wipes (S : DS) : List (Nat × ByteArray) → DS
  | [] => S
  | x :: l => (S.wipe1 x.1).wipes l
def torn (n : Nat) (a b : ByteArray) : ByteArray := a.extract 0 n ++ b.extract n b.size
def DS.tear1 (S : DS) (n i : Nat) (s : ByteArray) : DS := { S with now := S.now.set i (torn n s (S.sector i)) }
def DS.tears (ks : List Int) (S : DS) : Nat → List (Nat × ByteArray) → DS
  | _, [] => S
  | i, x :: l => (S.tear1 (keepAt ks i) x.1 x.2).tears ks (i + 1) l
def DS.torn (S : DS) (ks : List Int) : DS := (S.wipes S.held).tears ks 0 S.held
def DS.crash (S : DS) (ks : List Int) : DS := { (S.torn ks).settle with down := false, armed := false }

theorem DS.wipes_same (l : List (Nat × ByteArray)) : ∀ S : DS, (S.wipes l).safe = S.safe ∧ (S.wipes l).held = S.held ∧ (S.wipes l).ops = S.ops ∧ (S.wipes l).armed = S.armed ∧ (S.wipes l).left = S.left ∧ (S.wipes l).down = S.down := by
  induction l with
  | nil => exact fun S => ⟨rfl, rfl, rfl, rfl, rfl, rfl⟩
  | cons x l ih => exact fun S => ih (S.wipe1 x.1)
theorem DS.tears_same (ks : List Int) (l : List (Nat × ByteArray)) : ∀ (i : Nat) (S : DS), (S.tears ks i l).safe = S.safe ∧ (S.tears ks i l).held = S.held ∧ (S.tears ks i l).ops = S.ops ∧ (S.tears ks i l).armed = S.armed ∧ (S.tears ks i l).left = S.left ∧ (S.tears ks i l).down = S.down := by
  induction l with
  | nil => exact fun i S => ⟨rfl, rfl, rfl, rfl, rfl, rfl⟩
  | cons x l ih => exact fun i S => ih (i + 1) (S.tear1 (keepAt ks i) x.1 x.2)
theorem size_torn (n : Nat) (a b : ByteArray) (hn : n ≤ 512) (ha : a.size = 512) (hb : b.size = 512) : (torn n a b).size = 512 := by
  unfold torn
  rw [ByteArray.size_append, ByteArray.size_extract, ByteArray.size_extract]
  omega
theorem DS.Ok.wipe1 {S : DS} (h : S.Ok) (i : Nat) : (S.wipe1 i).Ok := h.nowSet i _ (Or.inl rfl)
theorem DS.Ok.tear1 {S : DS} (h : S.Ok) (n i : Nat) (s : ByteArray) (hn : n ≤ 512) (hs : s.size = 512) : (S.tear1 n i s).Ok := h.nowSet i _ (Or.inr (size_torn n _ _ hn hs (h.sector i)))
theorem DS.Ok.wipes (l : List (Nat × ByteArray)) : ∀ {S : DS}, S.Ok → (S.wipes l).Ok := by
  induction l with
  | nil => exact fun h => h
  | cons x l ih => exact fun h => ih (h.wipe1 x.1)
theorem DS.Ok.tears (ks : List Int) (l : List (Nat × ByteArray)) : ∀ (i : Nat) {S : DS}, S.Ok → (∀ x ∈ l, x.2.size = 512) → (S.tears ks i l).Ok := by
  induction l with
  | nil => exact fun i S h _ => h
  | cons x l ih => exact fun i S h hl => ih (i + 1) (h.tear1 _ x.1 x.2 (keepAt_le ks i) (hl x (by simp))) (fun y hy => hl y (by simp [hy]))
theorem DS.Ok.torn {S : DS} (h : S.Ok) (ks : List Int) : (S.torn ks).Ok := DS.Ok.tears ks S.held 0 (DS.Ok.wipes S.held h) (fun x hx => (h.held x hx).2)
theorem DS.Ok.crash {S : DS} (h : S.Ok) (ks : List Int) : (S.crash ks).Ok := ⟨(h.torn ks).settle.len, (h.torn ks).settle.safe, (h.torn ks).settle.now, (h.torn ks).settle.held⟩

end Go.Proofs.Ytojcoambodedbaa
