/-
  A log on a disk of noughts.
-/
import Derived.Test.YtieiopeblleheaaWalAll
namespace Go.Proofs.Ytieiopeblleheaa
set_option linter.unusedSimpArgs false
set_option linter.unusedVariables false
open Go.RowKit

theorem getN_zeros (n : Nat) : getN (List.replicate n (0 : UInt8)) = 0 := by
  induction n with
  | zero => rfl
  | succ n ih => rw [List.replicate_succ', getN_snoc, ih]; rfl
theorem nought_part (o n : Nat) : getN ((nought.drop o).take n) = 0 := by
  unfold nought
  rw [List.drop_replicate, List.take_replicate]
  exact getN_zeros _
theorem pGood_nought : pGood nought = false := by
  have : pN nought = 0 := by unfold pN nought; simp [List.getD]
  unfold pGood pOk
  rw [this]; rfl
theorem pGood_nil : pGood [] = false := by
  have : pN [] = 0 := rfl
  unfold pGood pOk
  rw [this]; rfl
/-- Nothing is on the disk. -/
def Bare (S : DS) : Prop := ∀ i, S.now.getD i [] = nought ∨ S.now.getD i [] = []
theorem Bare.new (n : Nat) : Bare (DS.new n) := by
  intro i
  rw [List.getD_eq_getElem?_getD]
  show ((List.replicate n nought)[i]?).getD [] = _ ∨ ((List.replicate n nought)[i]?).getD [] = _
  rw [List.getElem?_replicate]
  split
  · exact .inl rfl
  · exact .inr rfl
theorem Bare.good {S : DS} (h : Bare S) (i : Nat) : pGood (S.now.getD i []) = false := by
  rcases h i with e | e <;> rw [e]
  · exact pGood_nought
  · exact pGood_nil
theorem Bare.lsn {S : DS} (h : Bare S) (i : Nat) : hLsn (S.now.getD i []) = 0 := by
  rcases h i with e | e <;> rw [e]
  · exact nought_part 16 8
  · rfl
theorem Bare.head {S : DS} (h : Bare S) (L : LS) (i : Nat) : L.head (S.now.getD i []) = L := by
  unfold LS.head
  rw [if_neg (by rw [h.lsn]; omega)]
theorem Bare.readHead {S : DS} (h : Bare S) (L : LS) : L.readHead S = L := by
  unfold LS.readHead
  split
  · rfl
  · simp only [LS.heads, h.head]
theorem Bare.str {S : DS} (h : Bare S) (L : LS) (k : Nat) : (L.str S k).out = [] ∧ (L.str S k).ml = L.life := by
  induction k with
  | zero => exact ⟨rfl, rfl⟩
  | succ k ih =>
    simp only [LS.str]
    unfold St.step
    rw [if_neg (by rw [h.good]; rintro ⟨_, h, _⟩; cases h)]
    refine ⟨ih.1, ?_⟩
    show (if _ then _ else _) = _
    rw [if_neg (by rw [h.good]; decide)]
    exact ih.2
/-- A log that has nothing. -/
def LS.empty (at_ n : Nat) : LS := ⟨at_, n, 1, 1, 0, [], 0, 0, 1, 0, 48 * ((n : Int) - 8)⟩
theorem Bare.opHead {S : DS} (h : Bare S) (at_ n : Nat) : LS.opHead at_ n S = { LS.fresh at_ n with next := 1, room := 48 * ((n : Int) - 8) } := by
  unfold LS.opHead
  rw [h.readHead]; rfl
theorem Bare.opened {S : DS} (h : Bare S) (at_ n : Nat) : LS.opened at_ n S = LS.empty at_ n := by
  have hb : ∀ L : LS, L.bytes S = [] := fun L => by unfold LS.bytes; rw [(h.str L _).1]; simp
  have hs : ∀ L : LS, L.streamed S = L := fun L => by unfold LS.streamed; rw [(h.str L _).2]
  unfold LS.opened LS.opTake
  simp only [h.opHead, hb, hs]
  rfl
theorem Bare.cutB {S : DS} (h : Bare S) (L : LS) : L.cutB S = none := by
  unfold LS.cutB
  dsimp only
  rw [if_neg (by rw [h.good]; rintro ⟨h, _⟩; cases h)]
theorem Bare.trimmed {S : DS} (h : Bare S) (L : LS) : L.trimmed S = S ∧ L.trimCode S = 0 := by
  unfold LS.trimmed LS.trimCode
  rw [h.cutB]
  exact ⟨rfl, rfl⟩
theorem DS.new_facts (n : Nat) : (DS.new n).now.length = n ∧ (DS.new n).waits = [] ∧ (DS.new n).dead = false ∧ (DS.new n).settled = DS.new n := by
  refine ⟨?_, rfl, rfl, ?_⟩
  · show (List.replicate n nought).length = n; simp
  · unfold DS.settled
    rw [if_neg (by show ¬ 0 < ([] : List _).length; simp)]

/-- Opening a log on a new disk. -/
theorem Open_new {RD : Nat → Prop} {w : World} {d N : Nat} (at_ n : Nat) (h : DiskOk RD w d (DS.new N)) (h16 : 16 ≤ n) (hmost : n ≤ 32768) (hat : at_ + n ≤ N) :
    Calls Try.prog 31 #[.pointer (some ⟨d, 0, none⟩), .int .i64 at_, .int .i64 n] w fun e w' => ∃ p, e = .returned (.tuple #[.pointer (some ⟨p, 0, none⟩), .int .i64 0]) ∧ w.heap.size ≤ p ∧ Opened RD w w' p d (LS.empty at_ n) (DS.new N) := by
  obtain ⟨f1, f2, f3, f4⟩ := DS.new_facts N
  have hb := Bare.new N
  have := Open_good at_ n h h16 hmost (by rw [f1]; exact hat) (by rw [f2]; simp) f3 (by rw [f4]; exact f3) (by rw [f4, hb.opHead]; show (0 : Nat) < _; omega) (by rw [f4, hb.opHead]; show (1 : Nat) < _; omega) (by rw [f4]; exact (hb.trimmed _).2)
  rw [f4, hb.opened, (hb.trimmed _).1] at this
  exact this
end Go.Proofs.Ytieiopeblleheaa
