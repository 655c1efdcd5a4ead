/- The program's device and the page's, side by side, as data: what one sees the other sees, through every call. -/
import Derived.Test.YtojcoambodedbaaRg
import Derived.Test.YtojcoambodedbaaS
set_option linter.unusedVariables false
set_option linter.unusedSimpArgs false
set_option linter.unnecessarySimpa false
namespace Go.Proofs.Ytojcoambodedbaa
open Go.RowKit

structure Twin (S Q : DS) : Prop where
  len : Q.safe.length = S.safe.length
  held : Q.held = S.held
  ops : Q.ops = S.ops
  armed : Q.armed = S.armed
  down : Q.down = S.down
  left : S.armed = true → Q.left = S.left
  seen : ∀ i, i < S.safe.length → Q.now.getD i ByteArray.empty = S.sector i
  kept : ∀ i, i < S.safe.length → Q.safe.getD i ByteArray.empty = S.kept i
  ok : S.Ok
  tidy : S.Tidy
  full : Q.Full

theorem Twin.goes {S Q : DS} (h : Twin S Q) : Q.goes = S.goes := by
  unfold DS.goes
  rw [h.down, h.armed]
  cases ha : S.armed with
  | false => rfl
  | true => rw [h.left ha]
theorem Twin.fall {S Q : DS} (h : Twin S Q) : Twin { S with down := true } { Q with down := true } :=
  ⟨h.len, h.held, h.ops, h.armed, rfl, h.left, h.seen, h.kept, h.ok.flags _ _ _ _, h.tidy, ⟨h.full.len, h.full.safe, h.full.now, h.full.held⟩⟩
theorem Twin.arm {S Q : DS} (h : Twin S Q) (n : Int) : Twin { S with armed := true, left := n } { Q with armed := true, left := n } :=
  ⟨h.len, h.held, h.ops, rfl, h.down, fun _ => rfl, h.seen, h.kept, h.ok.flags _ _ _ _, h.tidy, ⟨h.full.len, h.full.safe, h.full.now, h.full.held⟩⟩
/-- One operation that is done. -/
theorem Twin.op {S Q : DS} (h : Twin S Q) : Twin { S with left := wrap64 (S.left - 1), ops := wrap64 (S.ops + 1) } Q.rop := by
  refine ⟨h.len, h.held, ?_, h.armed, h.down, ?_, h.seen, h.kept, h.ok.flags _ _ _ _, h.tidy, ⟨h.full.len, h.full.safe, h.full.now, h.full.held⟩⟩
  · show wrap64 (Q.ops + 1) = wrap64 (S.ops + 1)
    rw [h.ops]
  · intro ha
    show (if Q.armed then wrap64 (Q.left - 1) else Q.left) = wrap64 (S.left - 1)
    have ha' : S.armed = true := ha
    rw [h.armed, ha', if_pos rfl, h.left ha']
theorem Twin.put {S Q : DS} (h : Twin S Q) (i : Nat) (s : ByteArray) (hi : i < S.safe.length) (hs : s.size = 512) : Twin (S.put1 i s) (Q.rput i s) := by
  have hS : i < S.now.length := by rw [h.ok.len]; exact hi
  have hQ : i < Q.now.length := by rw [h.full.len, h.len]; exact hi
  have o := h.op
  refine ⟨h.len, ?_, o.ops, h.armed, h.down, o.left, ?_, fun j hj => h.kept j hj, h.ok.put1 i s hi hs, h.tidy.put1 i s hS, ⟨?_, h.full.safe, ?_, ?_⟩⟩
  · show Q.held ++ [(i, s)] = S.held ++ [(i, s)]
    rw [h.held]
  · intro j hj
    rw [put1_sector i s hS hs j]
    show (Q.now.set i s).getD j ByteArray.empty = _
    rw [getD_set Q.now i j s hQ]
    split
    · rfl
    · exact h.seen j hj
  · show (Q.now.set i s).length = Q.safe.length
    rw [List.length_set]
    exact h.full.len
  · exact secs_set h.full.now i s hs
  · intro x hx
    have hx' : x ∈ Q.held ++ [(i, s)] := hx
    rw [List.mem_append, List.mem_singleton] at hx'
    rcases hx' with hx' | rfl
    · exact h.full.held x hx'
    · exact ⟨by show i < Q.safe.length; rw [h.len]; exact hi, hs⟩

theorem chunk_size {data : ByteArray} {m k : Nat} (hd : data.size = m * 512) (hk : k < m) : (chunk data k).size = 512 := by
  unfold chunk
  rw [ByteArray.size_extract]
  have := Nat.mul_le_mul_right 512 (show k + 1 ≤ m by omega)
  omega
theorem Twin.write {at' m : Nat} {data : ByteArray} (hd : data.size = m * 512) : ∀ (f k : Nat) {S Q : DS}, Twin S Q → k + f = m → at' + m ≤ S.safe.length →
    Twin (DS.wr at' data f k S).1 (DS.rwr at' data f k Q).1 ∧ (DS.rwr at' data f k Q).2 = (DS.wr at' data f k S).2 ∧ (DS.wr at' data f k S).1.safe.length = S.safe.length ∧ (DS.wr at' data f k S).1.held.length ≤ S.held.length + f := by
  intro f
  induction f with
  | zero => intro k S Q h _ _; exact ⟨h, rfl, rfl, by simp [DS.wr]⟩
  | succ f ih =>
    intro k S Q h hk ha
    cases hg : S.goes with
    | true =>
      rw [DS.wr_yes hg, DS.rwr_yes (by rw [h.goes, hg])]
      have := ih (k + 1) (h.put (at' + k) (chunk data k) (by omega) (chunk_size hd (by omega))) (by omega) (by exact ha)
      refine ⟨this.1, this.2.1, this.2.2.1, Nat.le_trans this.2.2.2 ?_⟩
      simp only [DS.put1, List.length_append, List.length_cons, List.length_nil]
      omega
    | false =>
      rw [DS.wr_no hg, DS.rwr_no (by rw [h.goes, hg])]
      exact ⟨h.fall, rfl, rfl, by simp⟩

theorem settle_len (S : DS) : S.settle.safe.length = S.safe.length := (settles_same S.held S).2.2.2.2.1
def DS.rflush (S : DS) : DS := if S.goes then { S.rop with safe := S.now, held := [] } else { S with down := true }
theorem Twin.settle {S Q : DS} (h : Twin S Q) : Twin S.settle { Q with safe := Q.now, held := [] } := by
  obtain ⟨s1, s2, s3, s4, s5, s6⟩ := settles_same S.held S
  have hl : Q.now.length = S.safe.length := h.full.len.trans h.len
  refine ⟨hl.trans s5.symm, rfl, h.ops.trans s1.symm, h.armed.trans s2.symm, h.down.trans s4.symm, ?_, ?_, ?_, h.ok.settle, settle_tidy h.ok h.tidy, ⟨rfl, h.full.now, h.full.now, by simp⟩⟩
  · intro ha
    have ha' : S.armed = true := by rw [← s2]; exact ha
    exact (h.left ha').trans s3.symm
  · intro i hi
    rw [(settle_sector h.ok h.tidy i).1]
    exact h.seen i (by rw [settle_len] at hi; exact hi)
  · intro i hi
    rw [(settle_sector h.ok h.tidy i).2.1]
    exact h.seen i (by rw [settle_len] at hi; exact hi)
theorem Twin.flush {S Q : DS} (h : Twin S Q) : Twin S.flush Q.rflush ∧ S.flush.safe.length = S.safe.length ∧ S.flush.held.length ≤ S.held.length := by
  unfold DS.flush DS.rflush
  rw [h.goes]
  cases hg : S.goes with
  | true =>
    rw [if_pos rfl, if_pos rfl]
    have := h.op.settle
    exact ⟨this, settle_len _, by simp [DS.settle]⟩
  | false =>
    rw [if_neg (by simp), if_neg (by simp)]
    exact ⟨h.fall, rfl, Nat.le_refl _⟩

theorem tearF_congr (ks : List Int) (n : Nat) : ∀ (l : List (Nat × ByteArray)) (i : Nat) (f g : Nat → ByteArray), (∀ j, j < n → f j = g j) → (∀ x ∈ l, x.1 < n) → ∀ j, j < n → tearF ks i l f j = tearF ks i l g j := by
  intro l
  induction l with
  | nil => intro i f g h _ j hj; exact h j hj
  | cons x l ih =>
    intro i f g h hl j hj
    refine ih (i + 1) _ _ (fun j hj => ?_) (fun y hy => hl y (by simp [hy])) j hj
    split
    · rw [h x.1 (hl x (by simp))]
    · exact h j hj
theorem rtears_get (ks : List Int) : ∀ (l : List (Nat × ByteArray)) (i : Nat) (Q : DS), (∀ x ∈ l, x.1 < Q.safe.length) → ∀ j, (rtears ks Q i l).safe.getD j ByteArray.empty = tearF ks i l (fun j => Q.safe.getD j ByteArray.empty) j := by
  intro l
  induction l with
  | nil => intro i Q _ j; rfl
  | cons x l ih =>
    intro i Q hl j
    show (rtears ks (rtear1 Q (keepAt ks i) x.1 x.2) (i + 1) l).safe.getD j ByteArray.empty = _
    rw [ih (i + 1) _ (fun y hy => by simp only [rtear1, List.length_set]; exact hl y (by simp [hy])) j]
    show tearF ks (i + 1) l _ j = tearF ks (i + 1) l _ j
    congr 1
    funext q
    show (Q.safe.set x.1 _).getD q ByteArray.empty = _
    rw [getD_set Q.safe x.1 q _ (hl x (by simp))]
theorem rtears_full (ks : List Int) : ∀ (l : List (Nat × ByteArray)) (i : Nat) (Q : DS), (∀ s ∈ Q.safe, s.size = 512) → (∀ x ∈ l, x.1 < Q.safe.length ∧ x.2.size = 512) → ∀ s ∈ (rtears ks Q i l).safe, s.size = 512 := by
  intro l
  induction l with
  | nil => intro i Q h _; exact h
  | cons x l ih =>
    intro i Q h hl
    have hx := hl x (by simp)
    refine ih (i + 1) (rtear1 Q (keepAt ks i) x.1 x.2) ?_ (fun y hy => by simp only [rtear1, List.length_set]; exact hl y (by simp [hy]))
    exact secs_set h x.1 _ (size_torn _ _ _ (keepAt_le ks i) hx.2 (getD_size h hx.1))
theorem Twin.crash {S Q : DS} (h : Twin S Q) (ks : List Int) : Twin (S.crash ks) (Q.rcrash ks) := by
  obtain ⟨t1, t2, t3, t4, t5, t6, t7⟩ := rtears_same ks Q.held 0 Q
  have hh : ∀ x ∈ Q.held, x.1 < Q.safe.length := fun x hx => (h.full.held x hx).1
  have key : ∀ j, j < S.safe.length → (rtears ks Q 0 Q.held).safe.getD j ByteArray.empty = tearF ks 0 S.held S.kept j := by
    intro j hj
    rw [rtears_get ks Q.held 0 Q hh j, h.held]
    exact tearF_congr ks S.safe.length S.held 0 _ _ (fun j hj => h.kept j hj) (fun x hx => (h.ok.held x hx).1) j hj
  have hf := rtears_full ks Q.held 0 Q h.full.safe h.full.held
  refine ⟨t2.trans (h.len.trans (crash_len S ks).symm), rfl, t4.trans (h.ops.trans (crash_ops S ks).symm), rfl, rfl, (fun ha => by cases ha), ?_, ?_, h.ok.crash ks, crash_tidy h.ok h.tidy ks, ⟨rfl, hf, hf, by simp [DS.rcrash]⟩⟩
  · intro i hi
    rw [(crash_sector h.ok h.tidy ks i).1]
    exact key i (by rw [crash_len] at hi; exact hi)
  · intro i hi
    rw [(crash_sector h.ok h.tidy ks i).2.1]
    exact key i (by rw [crash_len] at hi; exact hi)

theorem Twin.reads {S Q : DS} (h : Twin S Q) (i : Nat) : ∀ k, i + k ≤ S.safe.length → Q.rreads i k = S.reads i k := by
  intro k
  induction k with
  | zero => intro _; rfl
  | succ k ih =>
    intro hk
    rw [DS.rreads, DS.reads, ih (by omega), h.seen (i + k) (by omega)]

def DS.rfresh (n : Nat) : DS := { safe := List.replicate n (zeros 512), now := List.replicate n (zeros 512), held := [], ops := 0, armed := false, left := 0, down := false }
theorem Twin.fresh (n : Nat) : Twin (DS.fresh n) (DS.rfresh n) := by
  have hz : ∀ s ∈ List.replicate n (zeros 512), s.size = 512 := fun s hs => by rw [(List.mem_replicate.1 hs).2]; exact size_zeros 512
  have hg : ∀ i, i < n → (List.replicate n (zeros 512)).getD i ByteArray.empty = zeros 512 := by
    intro i hi
    simp [List.getD, hi]
  refine ⟨by simp [DS.fresh, DS.rfresh], rfl, rfl, rfl, rfl, fun _ => rfl, ?_, ?_, DS.fresh_ok n, fresh_tidy n, ⟨rfl, hz, hz, by simp [DS.rfresh]⟩⟩
  · intro i hi
    rw [(fresh_sector n i).1]
    exact hg i (by simpa [DS.fresh] using hi)
  · intro i hi
    rw [(fresh_sector n i).2]
    exact hg i (by simpa [DS.fresh] using hi)

end Go.Proofs.Ytojcoambodedbaa
