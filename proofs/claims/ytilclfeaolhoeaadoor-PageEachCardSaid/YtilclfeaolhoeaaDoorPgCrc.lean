/-
  CRC is linear; images of which some sectors are old and some new are told by their CRC (plain; a check over all numbers by the kernel).
-/
import Derived.Test.YtilclfeaolhoeaaDoorPgCalm
namespace Go.Proofs.YtilclfeaolhoeaaDoor
set_option linter.unusedSimpArgs false
set_option linter.unusedVariables false
open Go.RowKit

def TB : Nat := 0xbdbdf21ca00ae27886d3d2d49b64c2b0cb61b38cd6d6a3e8f00f9344edb883205005713c4db261586b6b51f476dc419026d930ac3b6e20c81db7106400000000
def tabN (k : Nat) : Nat := Nat.land (Nat.shiftRight TB (Nat.mul 32 k)) 4294967295
def hN (w : Nat) : Nat := Nat.xor (Nat.shiftRight w 4) (tabN (Nat.land w 15))
def stN (w b : Nat) : Nat := hN (hN (Nat.xor w b))
theorem tabN_lin : ∀ x, x < 16 → ∀ y, y < 16 → tabN (Nat.xor x y) = Nat.xor (tabN x) (tabN y) := by decide +kernel
theorem hN_lin (u v : Nat) : hN (u ^^^ v) = hN u ^^^ hN v := by
  have h1 : (u ^^^ v) >>> 4 = (u >>> 4) ^^^ (v >>> 4) := Nat.shiftRight_xor_distrib ..
  have h2 : (u ^^^ v) &&& 15 = (u &&& 15) ^^^ (v &&& 15) := Nat.and_xor_distrib_right ..
  have h3 : tabN ((u &&& 15) ^^^ (v &&& 15)) = tabN (u &&& 15) ^^^ tabN (v &&& 15) :=
    tabN_lin _ (Nat.lt_of_le_of_lt Nat.and_le_right (by omega)) _ (Nat.lt_of_le_of_lt Nat.and_le_right (by omega))
  show ((u ^^^ v) >>> 4) ^^^ tabN ((u ^^^ v) &&& 15) = ((u >>> 4) ^^^ tabN (u &&& 15)) ^^^ ((v >>> 4) ^^^ tabN (v &&& 15))
  rw [h1, h2, h3]
  generalize u >>> 4 = a; generalize v >>> 4 = b; generalize tabN (u &&& 15) = c; generalize tabN (v &&& 15) = d
  rw [Nat.xor_assoc, Nat.xor_assoc, ← Nat.xor_assoc b, Nat.xor_comm b c, Nat.xor_assoc c]
theorem stN_lin (u v a b : Nat) : stN (u ^^^ v) (a ^^^ b) = stN u a ^^^ stN v b := by
  have e : (u ^^^ v) ^^^ (a ^^^ b) = (u ^^^ a) ^^^ (v ^^^ b) := by
    rw [Nat.xor_assoc, Nat.xor_assoc, ← Nat.xor_assoc v, Nat.xor_comm v a, Nat.xor_assoc a]
  show hN (hN ((u ^^^ v) ^^^ (a ^^^ b))) = hN (hN (u ^^^ a)) ^^^ hN (hN (v ^^^ b))
  rw [e, hN_lin, hN_lin]
def foldN (s : Nat) (l : List Nat) : Nat := l.foldl stN s
def xorL : List Nat → List Nat → List Nat := List.zipWith (· ^^^ ·)
theorem foldN_lin : ∀ (a b : List Nat) (u v : Nat), a.length = b.length → foldN (u ^^^ v) (xorL a b) = foldN u a ^^^ foldN v b
  | [], [], _, _, _ => rfl
  | x :: a, y :: b, u, v, h => by
    show foldN (stN (u ^^^ v) (x ^^^ y)) (xorL a b) = foldN (stN u x) a ^^^ foldN (stN v y) b
    rw [stN_lin]
    exact foldN_lin a b _ _ (by simpa using h)
theorem foldN_append (s : Nat) (a b : List Nat) : foldN s (a ++ b) = foldN (foldN s a) b := List.foldl_append ..

/-! the model's words -/
theorem xor_u32 (a b : Nat) (ha : a < 4294967296) (hb : b < 4294967296) : bits .xor .u32 (a : Int) (b : Int) = ((a ^^^ b : Nat) : Int) := by
  show IntKind.u32.wrap ((BitVec.ofInt 32 a ^^^ BitVec.ofInt 32 b).toNat : Nat) = _
  have e1 : (BitVec.ofInt 32 (a : Int)).toNat = a := by rw [BitVec.toNat_ofInt]; omega
  have e2 : (BitVec.ofInt 32 (b : Int)).toNat = b := by rw [BitVec.toNat_ofInt]; omega
  rw [BitVec.toNat_xor, e1, e2, IntKind.wrap_u32]
  have : a ^^^ b < 2 ^ 32 := Nat.xor_lt_two_pow (by omega) (by omega)
  omega
theorem tabN_eq : ∀ k, k < 16 → tabI k = (tabN k : Int) := by decide +kernel
theorem tabN_lt (k : Nat) : tabN k < 4294967296 := Nat.lt_of_le_of_lt (Nat.and_le_right : _ &&& 4294967295 ≤ 4294967295) (by omega)
theorem hN_lt (w : Nat) (h : w < 4294967296) : hN w < 4294967296 := by
  have h1 : w >>> 4 < 2 ^ 32 := by rw [Nat.shiftRight_eq_div_pow]; omega
  have h2 : tabN (w &&& 15) < 2 ^ 32 := tabN_lt _
  have : (w >>> 4) ^^^ tabN (w &&& 15) < 2 ^ 32 := Nat.xor_lt_two_pow h1 h2
  exact this
theorem chalf_eq (w : Nat) (h : w < 4294967296) : chalf (w : Int) = (hN w : Int) := by
  unfold chalf
  have e1 : (w : Int) / 16 = ((w / 16 : Nat) : Int) := by omega
  have e2 : ((w : Int) % 16).toNat = w % 16 := by omega
  rw [e1, e2, tabN_eq _ (by omega), xor_u32 _ _ (by omega) (tabN_lt _)]
  show ((w / 16 ^^^ tabN (w % 16) : Nat) : Int) = ((w >>> 4 ^^^ tabN (w &&& 15) : Nat) : Int)
  rw [Nat.shiftRight_eq_div_pow, show (15 : Nat) = 2 ^ 4 - 1 from rfl, Nat.and_two_pow_sub_one_eq_mod]
theorem cstep_eq (w : Nat) (b : UInt8) (h : w < 4294967296) : cstep (w : Int) b = (stN w b.toNat : Int) := by
  unfold cstep
  have hb := UInt8.toNat_lt b
  have hx : w ^^^ b.toNat < 2 ^ 32 := Nat.xor_lt_two_pow (by omega) (by omega)
  rw [xor_u32 _ _ h (by omega), chalf_eq _ (by omega), chalf_eq _ (hN_lt _ (by omega))]; rfl
def nats (l : List UInt8) : List Nat := l.map UInt8.toNat
theorem stN_lt (w b : Nat) (h : w < 4294967296) (hb : b < 256) : stN w b < 4294967296 := by
  have hx : w ^^^ b < 2 ^ 32 := Nat.xor_lt_two_pow (by omega) (by omega)
  exact hN_lt _ (hN_lt _ (by have : Nat.xor w b = w ^^^ b := rfl; omega))
theorem fold_eq : ∀ (l : List UInt8) (w : Nat), w < 4294967296 → l.foldl cstep (w : Int) = (foldN w (nats l) : Int)
  | [], _, _ => rfl
  | b :: l, w, h => by
    show l.foldl cstep (cstep (w : Int) b) = (foldN (stN w b.toNat) (nats l) : Int)
    rw [cstep_eq w b h]
    exact fold_eq l _ (stN_lt w _ h (UInt8.toNat_lt b))
theorem foldN_lt : ∀ (l : List UInt8) (w : Nat), w < 4294967296 → foldN w (nats l) < 4294967296
  | [], _, h => h
  | b :: l, w, h => foldN_lt l _ (stN_lt w _ h (UInt8.toNat_lt b))
theorem crcN_inj {a b : List UInt8} (h : crcN a = crcN b) : foldN 4294967295 (nats a) = foldN 4294967295 (nats b) := by
  have e : ∀ l : List UInt8, crcN l = 4294967295 ^^^ foldN 4294967295 (nats l) := by
    intro l
    have h1 := crc_eq l
    have h2 : crcI l = (foldN 4294967295 (nats l) : Int) := fold_eq l 4294967295 (by omega)
    rw [h2, show IntKind.u32.max = ((4294967295 : Nat) : Int) from rfl, xor_u32 _ _ (by omega) (foldN_lt l _ (by omega))] at h1
    omega
  rw [e, e] at h
  have := congrArg (4294967295 ^^^ ·) h
  simpa [← Nat.xor_assoc] using this
/-- Rows of one length with one CRC. -/
theorem crc_diff {a b : List UInt8} (hl : a.length = b.length) (h : crcN a = crcN b) : foldN 0 (xorL (nats a) (nats b)) = 0 := by
  have := foldN_lin (nats a) (nats b) 4294967295 4294967295 (by unfold nats; rw [List.length_map, List.length_map, hl])
  rw [Nat.xor_self, crcN_inj h, Nat.xor_self] at this
  exact this

/-! blocks -/
def zrs (n : Nat) : List Nat := List.replicate n 0
theorem xorL_zero : ∀ (l : List Nat), xorL (zrs l.length) l = l
  | [] => rfl
  | x :: l => by
    show (0 ^^^ x) :: xorL (zrs l.length) l = _
    rw [Nat.zero_xor, xorL_zero l]
theorem foldN_zrs : ∀ n, foldN 0 (zrs n) = 0
  | 0 => rfl
  | n + 1 => by
    show foldN (stN 0 0) (zrs n) = 0
    rw [show stN 0 0 = 0 from by decide +kernel]
    exact foldN_zrs n
theorem foldN_split (s : Nat) (l : List Nat) : foldN s l = foldN s (zrs l.length) ^^^ foldN 0 l := by
  have := foldN_lin (zrs l.length) l s 0 (by simp [zrs])
  rw [Nat.xor_zero, xorL_zero] at this
  exact this
/-- Blocks one behind the other: what the CRC's line comes to, block by block. -/
def blocks : List (List Nat) → Nat
  | [] => 0
  | b :: r => foldN (foldN 0 b) (zrs r.flatten.length) ^^^ blocks r
theorem foldN_blocks : ∀ (bs : List (List Nat)), foldN 0 bs.flatten = blocks bs
  | [] => rfl
  | b :: r => by
    rw [List.flatten_cons, foldN_append, foldN_split, foldN_blocks r]; rfl

/-! the check -/
def force {α : Type} (w : Nat) (k : Nat → α) : α := Nat.rec (motive := fun _ => α) (k 0) (fun n _ => k (Nat.succ n)) w
theorem force_eq {α : Type} (w : Nat) (k : Nat → α) : force w k = k w := by cases w <;> rfl
def dN (n m i : Nat) : Nat := Nat.xor (Nat.mod (Nat.mul n (Nat.succ (Nat.mod i 7))) 256) (Nat.mod (Nat.mul m (Nat.succ (Nat.mod i 7))) 256)
noncomputable def blk (n m : Nat) (f : Nat) : Nat → Nat → Nat := Nat.rec (motive := fun _ => Nat → Nat → Nat) (fun _ w => w) (fun _ ih i w => force (stN w (dN n m i)) (fun w' => ih (Nat.succ i) w')) f
noncomputable def zr (f : Nat) : Nat → Nat := Nat.rec (motive := fun _ => Nat → Nat) (fun w => w) (fun _ ih w => force (stN w 0) ih) f
theorem zr_eq : ∀ f w, zr f w = foldN w (zrs f)
  | 0, _ => rfl
  | f + 1, w => by
    show force (stN w 0) (zr f) = foldN (stN w 0) (zrs f)
    rw [force_eq, zr_eq f]
theorem blk_eq (n m : Nat) : ∀ f i w, blk n m f i w = foldN w ((List.range f).map fun j => dN n m (i + j))
  | 0, _, _ => rfl
  | f + 1, i, w => by
    show force (stN w (dN n m i)) (fun w' => blk n m f (i + 1) w') = _
    rw [force_eq, blk_eq n m f, List.range_succ_eq_map, List.map_cons, List.map_map]
    show _ = foldN (stN w (dN n m (i + 0))) _
    congr 1
    refine List.map_congr_left (fun j _ => ?_)
    show dN n m (i + 1 + j) = dN n m (i + (j + 1))
    congr 1; omega
noncomputable def LN (n m j : Nat) : Nat := zr (Nat.mul 64 (Nat.sub 7 j)) (blk n m 64 (Nat.sub (Nat.mul 64 j) 32) 0)
/-- No nonempty choice of the numbers xors to nought. -/
def indep : List Nat → Bool → Nat → Bool
  | [], b, x => if b then !(Nat.beq x 0) else true
  | a :: l, b, x => indep l b x && force (Nat.xor a x) (fun y => indep l true y)
def xors : List (Bool × Nat) → Nat
  | [] => 0
  | (b, a) :: l => (if b then a else 0) ^^^ xors l
theorem indep_spec : ∀ (l : List (Bool × Nat)) (b : Bool) (x : Nat), indep (l.map (·.2)) b x = true → x ^^^ xors l = 0 → b = false ∧ ∀ y ∈ l, y.1 = false
  | [], b, x, h, hx => by
    refine ⟨?_, fun y hy => by simp at hy⟩
    cases b with
    | false => rfl
    | true =>
      have h' : (!(Nat.beq x 0)) = true := h
      have hx' : x = 0 := by simpa [xors] using hx
      subst hx'
      cases h'
  | (c, a) :: l, b, x, h, hx => by
    have h' : (indep (l.map (·.2)) b x && force (Nat.xor a x) (fun y => indep (l.map (·.2)) true y)) = true := h
    rw [Bool.and_eq_true, force_eq] at h'
    cases c with
    | false =>
      have hx' : x ^^^ xors l = 0 := by
        have : x ^^^ (0 ^^^ xors l) = 0 := hx
        rwa [Nat.zero_xor] at this
      obtain ⟨h1, h2⟩ := indep_spec l b x h'.1 hx'
      refine ⟨h1, fun y hy => ?_⟩
      rcases List.mem_cons.1 hy with rfl | hy
      · rfl
      · exact h2 y hy
    | true =>
      have hx' : (a ^^^ x) ^^^ xors l = 0 := by
        have : x ^^^ (a ^^^ xors l) = 0 := hx
        rw [Nat.xor_comm a x, Nat.xor_assoc]; exact this
      obtain ⟨h1, _⟩ := indep_spec l true (a ^^^ x) h'.2 hx'
      cases h1
noncomputable def chk (n m : Nat) : Bool := force (LN n m 1) fun a => force (LN n m 2) fun b => force (LN n m 3) fun c => force (LN n m 4) fun d => force (LN n m 5) fun e => force (LN n m 6) fun f => force (LN n m 7) fun g => indep [a,b,c,d,e,f,g] false 0
theorem chk_eq (n m : Nat) : chk n m = indep [LN n m 1, LN n m 2, LN n m 3, LN n m 4, LN n m 5, LN n m 6, LN n m 7] false 0 := by
  unfold chk
  simp only [force_eq]
noncomputable def chkTo (n : Nat) (f : Nat) : Nat → Bool := Nat.rec (motive := fun _ => Nat → Bool) (fun _ => true) (fun _ ih m => (Nat.beq n m || chk n m) && ih (Nat.succ m)) f
theorem chkTo_spec (n : Nat) : ∀ f m, chkTo n f m = true → ∀ k, m ≤ k → k < m + f → k ≠ n → chk n k = true
  | 0, _, _, k, h1, h2, _ => absurd h2 (by omega)
  | f + 1, m, h, k, h1, h2, h3 => by
    have h' : ((Nat.beq n m || chk n m) && chkTo n f (m + 1)) = true := h
    rw [Bool.and_eq_true, Bool.or_eq_true] at h'
    by_cases e : k = m
    · subst e
      rcases h'.1 with hb | hb
      · exact absurd (Nat.eq_of_beq_eq_true hb).symm h3
      · exact hb
    · exact chkTo_spec n f (m + 1) h'.2 k (by omega) (by omega) h3
set_option maxRecDepth 100000 in
theorem chk_1a : chkTo 1 64 0 = true := by decide +kernel
set_option maxRecDepth 100000 in
theorem chk_1b : chkTo 1 64 64 = true := by decide +kernel
set_option maxRecDepth 100000 in
theorem chk_1c : chkTo 1 64 128 = true := by decide +kernel
set_option maxRecDepth 100000 in
theorem chk_1d : chkTo 1 64 192 = true := by decide +kernel
set_option maxRecDepth 100000 in
theorem chk_2a : chkTo 2 64 0 = true := by decide +kernel
set_option maxRecDepth 100000 in
theorem chk_2b : chkTo 2 64 64 = true := by decide +kernel
set_option maxRecDepth 100000 in
theorem chk_2c : chkTo 2 64 128 = true := by decide +kernel
set_option maxRecDepth 100000 in
theorem chk_2d : chkTo 2 64 192 = true := by decide +kernel
theorem chk_all (n m : Nat) (hn : n = 1 ∨ n = 2) (hm : m < 256) (h : m ≠ n) : chk n m = true := by
  rcases hn with rfl | rfl
  · rcases (by omega : m < 64 ∨ (64 ≤ m ∧ m < 128) ∨ (128 ≤ m ∧ m < 192) ∨ (192 ≤ m ∧ m < 256)) with h1 | h1 | h1 | h1
    · exact chkTo_spec 1 64 0 chk_1a m (by omega) (by omega) h
    · exact chkTo_spec 1 64 64 chk_1b m (by omega) (by omega) h
    · exact chkTo_spec 1 64 128 chk_1c m (by omega) (by omega) h
    · exact chkTo_spec 1 64 192 chk_1d m (by omega) (by omega) h
  · rcases (by omega : m < 64 ∨ (64 ≤ m ∧ m < 128) ∨ (128 ≤ m ∧ m < 192) ∨ (192 ≤ m ∧ m < 256)) with h1 | h1 | h1 | h1
    · exact chkTo_spec 2 64 0 chk_2a m (by omega) (by omega) h
    · exact chkTo_spec 2 64 64 chk_2b m (by omega) (by omega) h
    · exact chkTo_spec 2 64 128 chk_2c m (by omega) (by omega) h
    · exact chkTo_spec 2 64 192 chk_2d m (by omega) (by omega) h
end Go.Proofs.YtilclfeaolhoeaaDoor
