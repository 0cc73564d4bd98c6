/-
  PgDataP, PgMix, PgCrash, PoolCrc, in one text.
-/
import Derived.Test.YtccmmnacejdeoaaGreatDoorMg20
import Derived.Test.YtccmmnacejdeoaaGreatDoorMg29
import Derived.Test.YtccmmnacejdeoaaGreatDoorMg22
/-
  480 bytes by a number (plain).
-/
namespace Go.Proofs.YtccmmnacejdeoaaGreatDoor
set_option linter.unusedSimpArgs false
set_option linter.unusedVariables false
open Go.RowKit

def dataAt (n i : Nat) : UInt8 := UInt8.ofNat (n * (i % 7 + 1))
/-- 480 bytes by a number. -/
def dataB (n : Nat) : List UInt8 := (List.range 480).map (dataAt n)
def dataK (n k : Nat) : List UInt8 := (List.range 480).map fun i => if i < k then dataAt n i else 0
theorem dataB_length (n : Nat) : (dataB n).length = 480 := by unfold dataB; rw [List.length_map, List.length_range]
theorem dataK_length (n k : Nat) : (dataK n k).length = 480 := by unfold dataK; rw [List.length_map, List.length_range]
theorem dataK_zero (n : Nat) : dataK n 0 = zeros 480 := by
  refine List.ext_getElem? (fun i => ?_)
  unfold dataK zeros
  rw [List.getElem?_map, List.getElem?_replicate]
  by_cases h : i < 480
  · rw [List.getElem?_range h, if_pos h]; rfl
  · rw [List.getElem?_eq_none (by rw [List.length_range]; omega), if_neg h]; rfl
theorem dataK_succ (n k : Nat) (h : k < 480) : dataK n (k + 1) = (dataK n k).set k (dataAt n k) := by
  refine List.ext_getElem? (fun i => ?_)
  rw [List.getElem?_set]
  unfold dataK
  rw [List.getElem?_map, List.getElem?_map, List.length_map, List.length_range]
  by_cases hi : i < 480
  · rw [List.getElem?_range hi]
    by_cases e : k = i
    · subst e; rw [if_pos rfl, if_pos hi]; simp
    · rw [if_neg e]
      have : (i < k + 1) ↔ (i < k) := by omega
      simp [this]
  · rw [List.getElem?_eq_none (by rw [List.length_range]; omega)]
    rw [if_neg (by omega)]; rfl
theorem dataK_full (n : Nat) : dataK n 480 = dataB n := by
  unfold dataK dataB
  refine List.map_congr_left (fun i hi => ?_)
  rw [List.mem_range] at hi
  rw [if_pos hi]
end Go.Proofs.YtccmmnacejdeoaaGreatDoor

/-
  An image of which some sectors are old and some new, and which is whole, is the one that its first sector is of (plain).
-/
namespace Go.Proofs.YtccmmnacejdeoaaGreatDoor
set_option linter.unusedSimpArgs false
set_option linter.unusedVariables false
open Go.RowKit

def secL (b : List UInt8) (t : Nat) : List UInt8 := (b.drop (64 * t)).take 64
def xchunks : Nat → List Nat → List Nat → List (List Nat)
  | 0, _, _ => []
  | k + 1, a, b => xorL (a.take 64) (b.take 64) :: xchunks k (a.drop 64) (b.drop 64)
theorem xorL_append : ∀ (a c b d : List Nat), a.length = b.length → xorL (a ++ c) (b ++ d) = xorL a b ++ xorL c d := by
  intro a c b d h
  unfold xorL
  exact List.zipWith_append h
theorem xchunks_flatten : ∀ (k : Nat) (a b : List Nat), a.length = 64 * k → b.length = 64 * k → (xchunks k a b).flatten = xorL a b
  | 0, a, b, ha, hb => by
    obtain rfl : a = [] := List.eq_nil_of_length_eq_zero (by omega)
    rfl
  | k + 1, a, b, ha, hb => by
    show xorL (a.take 64) (b.take 64) ++ (xchunks k (a.drop 64) (b.drop 64)).flatten = _
    rw [xchunks_flatten k _ _ (by rw [List.length_drop]; omega) (by rw [List.length_drop]; omega), ← xorL_append _ _ _ _ (by rw [List.length_take, List.length_take]; omega), List.take_append_drop, List.take_append_drop]
theorem nats_drop (l : List UInt8) (n : Nat) : (nats l).drop n = nats (l.drop n) := by unfold nats; rw [List.map_drop]
theorem nats_take (l : List UInt8) (n : Nat) : (nats l).take n = nats (l.take n) := by unfold nats; rw [List.map_take]
theorem nats_length (l : List UInt8) : (nats l).length = l.length := by unfold nats; rw [List.length_map]
theorem xchunks_sec (a b : List UInt8) : ∀ (k i : Nat), xchunks k ((nats a).drop (64 * i)) ((nats b).drop (64 * i)) = (List.range k).map fun j => xorL (nats (secL a (i + j))) (nats (secL b (i + j)))
  | 0, i => rfl
  | k + 1, i => by
    show xorL (((nats a).drop (64 * i)).take 64) (((nats b).drop (64 * i)).take 64) :: xchunks k (((nats a).drop (64 * i)).drop 64) (((nats b).drop (64 * i)).drop 64) = _
    rw [List.drop_drop, List.drop_drop, show 64 * i + 64 = 64 * (i + 1) from by omega, xchunks_sec a b k (i + 1), List.range_succ_eq_map, List.map_cons, List.map_map, nats_drop, nats_drop, nats_take, nats_take]
    congr 1
    refine List.map_congr_left (fun j _ => ?_)
    show xorL (nats (secL a (i + 1 + j))) (nats (secL b (i + 1 + j))) = xorL (nats (secL a (i + (j + 1)))) (nats (secL b (i + (j + 1))))
    rw [show i + 1 + j = i + (j + 1) from by omega]
theorem xorL_self : ∀ l : List Nat, xorL l l = zrs l.length
  | [] => rfl
  | x :: l => by
    show (x ^^^ x) :: xorL l l = 0 :: zrs l.length
    rw [Nat.xor_self, xorL_self l]
theorem foldN0_zrs (n k : Nat) : foldN (foldN 0 (zrs n)) (zrs k) = 0 := by rw [foldN_zrs, foldN_zrs]

/-- The data's part of an image. -/
theorem img_sec {x : PgV} {k t : Nat} (hd : x.d.length = 480) (ht : 1 ≤ t) : secL (imgB x k) t = (x.d.drop (64 * t - 32)).take 64 := by
  unfold secL
  have e : (imgB x k).drop (64 * t) = ((imgB x k).drop 32).drop (64 * t - 32) := by rw [List.drop_drop]; congr 1; omega
  rw [e, img_d x k hd]
theorem dataB_sec (n i : Nat) (hi : i + 64 ≤ 480) : nats (((dataB n).drop i).take 64) = (List.range 64).map fun j => (dataAt n (i + j)).toNat := by
  unfold nats dataB
  refine List.ext_getElem? (fun j => ?_)
  rw [List.getElem?_map, List.getElem?_take, List.getElem?_map]
  by_cases hj : j < 64
  · rw [if_pos hj, List.getElem?_drop, List.getElem?_map, List.getElem?_range (by omega), List.getElem?_range hj]; rfl
  · rw [if_neg hj, List.getElem?_eq_none (by rw [List.length_range]; omega)]; rfl
theorem LN_eq (n m j : Nat) : LN n m j = foldN (foldN 0 ((List.range 64).map fun i => dN n m (64 * j - 32 + i))) (zrs (64 * (7 - j))) := by
  unfold LN
  rw [zr_eq, blk_eq]; rfl
theorem sec_LN {x y : PgV} {k u n m j : Nat} (hx : x.d = dataB n) (hy : y.d = dataB m) (h1 : 1 ≤ j) (h2 : j < 8) : foldN (foldN 0 (xorL (nats (secL (imgB x k) j)) (nats (secL (imgB y u) j)))) (zrs (64 * (7 - j))) = LN n m j := by
  have lx : x.d.length = 480 := by rw [hx, dataB_length]
  have ly : y.d.length = 480 := by rw [hy, dataB_length]
  rw [img_sec lx h1, img_sec ly h1, hx, hy, dataB_sec n _ (by omega), dataB_sec m _ (by omega), LN_eq]
  congr 2
/-- An image whose sum is taken out. -/
def zc (b : List UInt8) : List UInt8 := splice b 28 (zeros 4)
theorem zc_length (b : List UInt8) (h : b.length = 512) : (zc b).length = 512 := by unfold zc; rw [length_splice _ _ _ (by rw [zeros_length]; omega), h]
theorem zc_sec (b : List UInt8) (h : b.length = 512) (t : Nat) (ht : 1 ≤ t) : secL (zc b) t = secL b t := by
  unfold secL zc
  exact splice_apart _ _ _ _ _ (by rw [zeros_length]; omega) (.inr (by rw [zeros_length]; omega))
theorem zc_img {x : PgV} {k : Nat} (hd : x.d.length = 480) : zc (imgB x k) = imgD x k := by
  have hl := imgD_length x k hd
  unfold zc imgB
  have hz : ((imgD x k).drop 28).take 4 = zeros 4 := by
    unfold imgD
    rw [splice_apart _ _ _ _ _ (by rw [imgT_length]; omega) (.inl (by omega))]
    unfold imgT
    rw [splice_apart _ _ _ _ _ (by rw [putB_length, imgL_length]; omega) (.inr (by rw [putB_length]; omega))]
    unfold imgL
    rw [splice_apart _ _ _ _ _ (by rw [putB_length, imgA_length]; omega) (.inr (by rw [putB_length]; omega))]
    unfold imgA
    rw [splice_apart _ _ _ _ _ (by rw [putB_length, imgM_length]; omega) (.inr (by rw [putB_length]; omega))]
    unfold imgM; rfl
  refine List.ext_getElem? (fun i => ?_)
  rw [splice_get _ _ _ _ (by rw [zeros_length, length_splice _ _ _ (by rw [putB_length]; omega)]; omega), splice_get _ _ _ _ (by rw [putB_length]; omega), zeros_length, putB_length]
  by_cases h1 : i < 28
  · rw [if_pos h1, if_pos h1]
  · rw [if_neg h1]
    by_cases h2 : i < 32
    · rw [if_pos h2, ← hz, List.getElem?_take, if_pos (by omega), List.getElem?_drop]
      congr 1; omega
    · rw [if_neg h2, if_neg h1, if_neg h2]
theorem img_sum {x : PgV} {k : Nat} (hd : x.d.length = 480) : ((imgB x k).drop 28).take 4 = putB 4 (crcN (zc (imgB x k))) := by
  rw [zc_img hd]
  have := splice_self (imgD x k) (putB 4 (crcN (imgD x k))) 28 (by rw [putB_length, imgD_length x k hd]; omega)
  rw [putB_length] at this
  exact this
theorem sec0_sum (b : List UInt8) : (b.drop 28).take 4 = ((secL b 0).drop 28).take 4 := by
  unfold secL
  rw [Nat.mul_zero, List.drop_zero, List.drop_take, List.take_take]; rfl
theorem bytes_of_secs {a b : List UInt8} (ha : a.length = 512) (hb : b.length = 512) (h : ∀ j, j < 8 → secL a j = secL b j) : a = b := by
  refine List.ext_getElem? (fun i => ?_)
  by_cases hi : i < 512
  · have := congrArg (fun l => l[i % 64]?) (h (i / 64) (by omega))
    simp only [secL] at this
    rw [List.getElem?_take, List.getElem?_take, if_pos (by omega), if_pos (by omega), List.getElem?_drop, List.getElem?_drop, show 64 * (i / 64) + i % 64 = i from by omega] at this
    exact this
  · rw [List.getElem?_eq_none (by omega), List.getElem?_eq_none (by omega)]
/-- The numbers' data are alike, or no choice of their sectors has the sum of noughts. -/
def Ind (n m : Nat) : Prop := dataB n = dataB m ∨ indep [LN n m 1, LN n m 2, LN n m 3, LN n m 4, LN n m 5, LN n m 6, LN n m 7] false 0 = true
theorem LN_comm (n m j : Nat) : LN n m j = LN m n j := by
  rw [LN_eq, LN_eq]
  congr 2
  refine List.map_congr_left (fun i _ => ?_)
  exact Nat.xor_comm _ _
theorem Ind.symm {n m : Nat} (h : Ind n m) : Ind m n := by
  rcases h with h | h
  · exact .inl h.symm
  · right
    rw [LN_comm m n 1, LN_comm m n 2, LN_comm m n 3, LN_comm m n 4, LN_comm m n 5, LN_comm m n 6, LN_comm m n 7]
    exact h
theorem dataB_mod (m : Nat) : dataB m = dataB (m % 256) := by
  unfold dataB
  refine List.map_congr_left (fun i _ => ?_)
  unfold dataAt
  refine UInt8.toNat_inj.1 ?_
  rw [UInt8.toNat_ofNat', UInt8.toNat_ofNat', Nat.mul_mod, Nat.mul_mod (m % 256) (i % 7 + 1), Nat.mod_mod]
theorem LN_mod (n m j : Nat) : LN n m j = LN n (m % 256) j := by
  rw [LN_eq, LN_eq]
  congr 2
  refine List.map_congr_left (fun i _ => ?_)
  have : ∀ k, (m * k) % 256 = ((m % 256) * k) % 256 := fun k => by rw [Nat.mul_mod, Nat.mul_mod (m % 256) k, Nat.mod_mod]
  show (n * (_ % 7 + 1)) % 256 ^^^ (m * (_ % 7 + 1)) % 256 = (n * (_ % 7 + 1)) % 256 ^^^ ((m % 256) * (_ % 7 + 1)) % 256
  rw [this]
theorem mix {P Q : PgV} {n m t u : Nat} {Z : List UInt8} (hP : P.d = dataB n) (hQ : Q.d = dataB m) (hI : Ind n m) (hZ : Z.length = 512) (h0 : secL Z 0 = secL (imgB P t) 0)
    (hj : ∀ j, 1 ≤ j → j < 8 → secL Z j = secL (imgB P t) j ∨ secL Z j = secL (imgB Q u) j) (hok : pgOk Z = true) : Z = imgB P t := by
  have lP : P.d.length = 480 := by rw [hP, dataB_length]
  have lQ : Q.d.length = 480 := by rw [hQ, dataB_length]
  have hX := imgB_length P t lP
  rcases hI with hI | hI
  · refine bytes_of_secs hZ hX (fun j hj8 => ?_)
    by_cases e : j = 0
    · subst e; exact h0
    · rcases hj j (by omega) hj8 with h | h
      · exact h
      · rw [h, img_sec lQ (by omega), img_sec lP (by omega), hP, hQ, hI]
  · have hZi : Z = imgB (pgX Z) (pgTurn Z) := by
      unfold pgOk at hok
      rw [Bool.and_eq_true] at hok
      exact (eq_of_beq hok.2).symm
    have hZd : (pgX Z).d.length = 480 := by show (Z.drop 32).length = 480; rw [List.length_drop, hZ]
    have s1 : (Z.drop 28).take 4 = putB 4 (crcN (zc Z)) := by
      have := img_sum (x := pgX Z) (k := pgTurn Z) hZd
      rwa [← hZi] at this
    have s2 := img_sum (x := P) (k := t) lP
    rw [sec0_sum, h0, ← sec0_sum, s2] at s1
    have hcr : crcN (zc (imgB P t)) = crcN (zc Z) := by
      have := congrArg getN s1
      rw [getN_putB 4 _ (by omega), getN_putB 4 _ (by omega)] at this
      have l1 := crcN_lt (zc (imgB P t))
      have l2 := crcN_lt (zc Z)
      rw [Nat.mod_eq_of_lt (by omega), Nat.mod_eq_of_lt (by omega)] at this
      exact this
    have hdf := crc_diff (by rw [zc_length _ hX, zc_length _ hZ]) hcr
    have hch := xchunks_flatten 8 (nats (zc (imgB P t))) (nats (zc Z)) (by rw [nats_length, zc_length _ hX]) (by rw [nats_length, zc_length _ hZ])
    have hsc := xchunks_sec (zc (imgB P t)) (zc Z) 8 0
    rw [Nat.mul_zero, List.drop_zero, List.drop_zero] at hsc
    rw [← hch, hsc, foldN_blocks] at hdf
    have hlen : ∀ j, j < 8 → (xorL (nats (secL (zc (imgB P t)) (0 + j))) (nats (secL (zc Z) (0 + j)))).length = 64 := by
      intro j hj8
      unfold xorL secL
      rw [List.length_zipWith, nats_length, nats_length, List.length_take, List.length_take, List.length_drop, List.length_drop, zc_length _ hX, zc_length _ hZ]
      omega
    have e0 : xorL (nats (secL (zc (imgB P t)) (0 + 0))) (nats (secL (zc Z) (0 + 0))) = zrs 64 := by
      have : secL (zc Z) 0 = secL (zc (imgB P t)) 0 := by
        refine List.ext_getElem? (fun i => ?_)
        have hi := congrArg (fun l => l[i]?) h0
        simp only [secL, Nat.mul_zero, List.drop_zero] at hi ⊢
        unfold zc
        rw [List.getElem?_take, List.getElem?_take] at hi ⊢
        by_cases hi64 : i < 64
        · rw [if_pos hi64, if_pos hi64] at hi ⊢
          rw [splice_get _ _ _ _ (by rw [zeros_length]; omega), splice_get _ _ _ _ (by rw [zeros_length]; omega), hi]
        · rw [if_neg hi64, if_neg hi64]
      rw [Nat.zero_add, this, xorL_self, nats_length]
      unfold secL
      rw [List.length_take, List.length_drop, zc_length _ hX]; rfl
    have hb : ∀ j, 1 ≤ j → j < 8 → foldN (foldN 0 (xorL (nats (secL (zc (imgB P t)) (0 + j))) (nats (secL (zc Z) (0 + j))))) (zrs (64 * (7 - j))) = if decide (secL Z j ≠ secL (imgB P t) j) = true then LN n m j else 0 := by
      intro j h1 h8
      rw [Nat.zero_add, zc_sec _ hX j h1, zc_sec _ hZ j h1]
      by_cases e : secL Z j = secL (imgB P t) j
      · rw [if_neg (by simp [e]), e, xorL_self, foldN0_zrs]
      · rw [if_pos (by simp [e])]
        rcases hj j h1 h8 with h | h
        · exact absurd h e
        · rw [h]; exact sec_LN hP hQ h1 h8
    have hx : xors [(decide (secL Z 1 ≠ secL (imgB P t) 1), LN n m 1), (decide (secL Z 2 ≠ secL (imgB P t) 2), LN n m 2), (decide (secL Z 3 ≠ secL (imgB P t) 3), LN n m 3), (decide (secL Z 4 ≠ secL (imgB P t) 4), LN n m 4), (decide (secL Z 5 ≠ secL (imgB P t) 5), LN n m 5), (decide (secL Z 6 ≠ secL (imgB P t) 6), LN n m 6), (decide (secL Z 7 ≠ secL (imgB P t) 7), LN n m 7)] = 0 := by
      rw [← hdf]
      have hr : (List.range 8) = [0, 1, 2, 3, 4, 5, 6, 7] := rfl
      rw [hr]
      simp only [List.map_cons, List.map_nil, blocks, List.flatten_cons, List.flatten_nil, List.length_append, List.length_nil, hlen 1 (by omega), hlen 2 (by omega), hlen 3 (by omega), hlen 4 (by omega), hlen 5 (by omega), hlen 6 (by omega), hlen 7 (by omega), Nat.add_zero]
      rw [e0, foldN0_zrs, Nat.zero_xor]
      have b1 := hb 1 (by omega) (by omega)
      have b2 := hb 2 (by omega) (by omega)
      have b3 := hb 3 (by omega) (by omega)
      have b4 := hb 4 (by omega) (by omega)
      have b5 := hb 5 (by omega) (by omega)
      have b6 := hb 6 (by omega) (by omega)
      have b7 := hb 7 (by omega) (by omega)
      simp only [show 64 * (7 - 1) = 64 + (64 + (64 + (64 + (64 + 64)))) from rfl, show 64 * (7 - 2) = 64 + (64 + (64 + (64 + 64))) from rfl, show 64 * (7 - 3) = 64 + (64 + (64 + 64)) from rfl, show 64 * (7 - 4) = 64 + (64 + 64) from rfl, show 64 * (7 - 5) = 64 + 64 from rfl, show 64 * (7 - 6) = 64 from rfl, show 64 * (7 - 7) = 0 from rfl] at b1 b2 b3 b4 b5 b6 b7
      rw [b1, b2, b3, b4, b5, b6, b7]; rfl
    have hI' : indep (([(decide (secL Z 1 ≠ secL (imgB P t) 1), LN n m 1), (decide (secL Z 2 ≠ secL (imgB P t) 2), LN n m 2), (decide (secL Z 3 ≠ secL (imgB P t) 3), LN n m 3), (decide (secL Z 4 ≠ secL (imgB P t) 4), LN n m 4), (decide (secL Z 5 ≠ secL (imgB P t) 5), LN n m 5), (decide (secL Z 6 ≠ secL (imgB P t) 6), LN n m 6), (decide (secL Z 7 ≠ secL (imgB P t) 7), LN n m 7)] : List (Bool × Nat)).map (·.2)) false 0 = true := hI
    have hsp := (indep_spec _ false 0 hI' (by rw [Nat.zero_xor]; exact hx)).2
    refine bytes_of_secs hZ hX (fun j hj8 => ?_)
    have k : ∀ j v, (decide (secL Z j ≠ secL (imgB P t) j), v) ∈ [(decide (secL Z 1 ≠ secL (imgB P t) 1), LN n m 1), (decide (secL Z 2 ≠ secL (imgB P t) 2), LN n m 2), (decide (secL Z 3 ≠ secL (imgB P t) 3), LN n m 3), (decide (secL Z 4 ≠ secL (imgB P t) 4), LN n m 4), (decide (secL Z 5 ≠ secL (imgB P t) 5), LN n m 5), (decide (secL Z 6 ≠ secL (imgB P t) 6), LN n m 6), (decide (secL Z 7 ≠ secL (imgB P t) 7), LN n m 7)] → secL Z j = secL (imgB P t) j := fun j v hm => by
      have := hsp _ hm
      simpa using this
    rcases (by omega : j = 0 ∨ j = 1 ∨ j = 2 ∨ j = 3 ∨ j = 4 ∨ j = 5 ∨ j = 6 ∨ j = 7) with rfl | rfl | rfl | rfl | rfl | rfl | rfl | rfl
    · exact h0
    · exact k 1 (LN n m 1) (.head _)
    · exact k 2 (LN n m 2) (.tail _ (.head _))
    · exact k 3 (LN n m 3) (.tail _ (.tail _ (.head _)))
    · exact k 4 (LN n m 4) (.tail _ (.tail _ (.tail _ (.head _))))
    · exact k 5 (LN n m 5) (.tail _ (.tail _ (.tail _ (.tail _ (.head _)))))
    · exact k 6 (LN n m 6) (.tail _ (.tail _ (.tail _ (.tail _ (.tail _ (.head _))))))
    · exact k 7 (LN n m 7) (.tail _ (.tail _ (.tail _ (.tail _ (.tail _ (.tail _ (.head _)))))))
end Go.Proofs.YtccmmnacejdeoaaGreatDoor

/-
  What a crash leaves of a Write that the disk died in, wherever it died, whatever is kept (plain).
-/
namespace Go.Proofs.YtccmmnacejdeoaaGreatDoor
set_option linter.unusedSimpArgs false
set_option linter.unusedVariables false
open Go.RowKit

abbrev Core := List (List UInt8) × List (List UInt8) × List (Nat × List UInt8)
def core (S : DS) : Core := (S.now, S.last, S.waits)
def exec1 (c : Core) : WOp → Core
  | .wr i s => (c.1.set i s, c.2.1, c.2.2 ++ [(i, s)])
  | .fl => (c.1, setAll c.2.1 c.2.2, [])
def exec (c : Core) (l : List WOp) : Core := l.foldl exec1 c
theorem core_next (S : DS) (o : WOp) : core (o.next S) = exec1 (core S) o := by
  cases o with
  | wr i s =>
    show core (S.wr i s) = _
    unfold DS.wr DS.burn
    split <;> rfl
  | fl =>
    show core S.flush = _
    unfold DS.flush DS.burn
    split <;> rfl
theorem run_prefix : ∀ (O : List WOp) (S : DS), ∃ k, k ≤ O.length ∧ core (runs S O).1 = exec (core S) (O.take k) ∧ ((k = O.length ∧ (runs S O).2 = 0) ∨ (k < O.length ∧ (runs S O).2 = 50))
  | [], S => ⟨0, by simp, rfl, .inl ⟨rfl, rfl⟩⟩
  | o :: l, S => by
    by_cases h : S.dead = true
    · have e : runs S (o :: l) = (S, 50) := by unfold runs; rw [if_pos h]
      rw [e]
      exact ⟨0, by simp, rfl, .inr ⟨by simp, rfl⟩⟩
    · have e : runs S (o :: l) = runs (o.next S) l := by conv => lhs; unfold runs; rw [if_neg h]
      rw [e]
      obtain ⟨k, k1, k2, k3⟩ := run_prefix l (o.next S)
      refine ⟨k + 1, by rw [List.length_cons]; omega, ?_, ?_⟩
      · rw [k2, core_next]; rfl
      · rcases k3 with ⟨a, b⟩ | ⟨a, b⟩
        · exact .inl ⟨by rw [List.length_cons, a], b⟩
        · exact .inr ⟨by rw [List.length_cons]; omega, b⟩
/-- The writes of a run. -/
def wrs : List WOp → List (Nat × List UInt8)
  | [] => []
  | .wr i s :: l => (i, s) :: wrs l
  | .fl :: l => wrs l
theorem wrs_append (a b : List WOp) : wrs (a ++ b) = wrs a ++ wrs b := by
  induction a with
  | nil => rfl
  | cons o l ih => cases o <;> simp [wrs, ih]
def noFl : List WOp → Prop
  | [] => True
  | .wr _ _ :: l => noFl l
  | .fl :: _ => False
theorem noFl_append : ∀ (a b : List WOp), noFl a → noFl b → noFl (a ++ b)
  | [], _, _, hb => hb
  | .wr _ _ :: l, b, ha, hb => noFl_append l b ha hb
theorem noFl_take : ∀ (a : List WOp) (k : Nat), noFl a → noFl (a.take k)
  | [], _, _ => by rw [List.take_nil]; trivial
  | _ :: _, 0, _ => trivial
  | .wr _ _ :: l, k + 1, h => noFl_take l k h
theorem noFl_sec (i : Nat) (b : List UInt8) : ∀ k, noFl (secOps i b k)
  | 0 => trivial
  | k + 1 => noFl_append _ _ (noFl_sec i b k) trivial
theorem noFl_plc (sp t : Nat) (l : List PgV) : ∀ k, noFl (plcOps sp t l k)
  | 0 => trivial
  | k + 1 => by
    cases hx : l[k]? with
    | some x => rw [plcOps_some hx]; exact noFl_append _ _ (noFl_plc sp t l k) (noFl_sec _ _ _)
    | none => rw [plcOps_none hx]; exact noFl_plc sp t l k
theorem noFl_lay (at0 : Nat) (l : List PgV) : ∀ k, noFl (layOps at0 l k)
  | 0 => trivial
  | k + 1 => by
    cases hx : l[k]? with
    | some x => rw [layOps_some hx]; exact noFl_append _ _ (noFl_lay at0 l k) (noFl_sec _ _ _)
    | none => rw [layOps_none hx]; exact noFl_lay at0 l k
theorem exec_wrs : ∀ (l : List WOp) (n m : List (List UInt8)) (w : List (Nat × List UInt8)), noFl l → exec (n, m, w) l = (nowOps n l, m, w ++ wrs l)
  | [], n, m, w, _ => by show (n, m, w) = (n, m, w ++ []); rw [List.append_nil]
  | .wr i s :: l, n, m, w, h => by
    show exec (n.set i s, m, w ++ [(i, s)]) l = (nowOps (n.set i s) l, m, w ++ ((i, s) :: wrs l))
    rw [exec_wrs l _ _ _ h, List.append_assoc]; rfl
theorem setAll_ops : ∀ (l : List WOp) (n : List (List UInt8)), setAll n (wrs l) = nowOps n l
  | [], _ => rfl
  | .wr i s :: l, n => setAll_ops l (n.set i s)
  | .fl :: l, n => setAll_ops l n
theorem exec_append (c : Core) (a b : List WOp) : exec c (a ++ b) = exec (exec c a) b := List.foldl_append ..
theorem mem_wrs_take {l : List WOp} {k : Nat} {y : Nat × List UInt8} (h : y ∈ wrs (l.take k)) : y ∈ wrs l := by
  have : wrs l = wrs (l.take k) ++ wrs (l.drop k) := by rw [← wrs_append, List.take_append_drop]
  rw [this]
  exact List.mem_append_left _ h
/-- Ahead of the first flush, or behind it. -/
theorem crash_cases {S : DS} (W L : List WOp) (hW : noFl W) (hL : noFl L) (hl : S.last = S.now) (hw : S.waits = []) (keep : List Int) :
    ((runs S ((W ++ [.fl]) ++ (L ++ [.fl]))).2 = 50 ∧ ∃ ys, (∀ y ∈ ys, y ∈ wrs W) ∧ ((runs S ((W ++ [.fl]) ++ (L ++ [.fl]))).1.crash keep).now = setAll S.now ys) ∨
    (((runs S ((W ++ [.fl]) ++ (L ++ [.fl]))).2 = 0 ∨ (runs S ((W ++ [.fl]) ++ (L ++ [.fl]))).2 = 50) ∧ ∃ ys, (∀ y ∈ ys, y ∈ wrs L) ∧ ((runs S ((W ++ [.fl]) ++ (L ++ [.fl]))).1.crash keep).now = setAll (nowOps S.now W) ys) := by
  obtain ⟨k, k1, k2, k3⟩ := run_prefix ((W ++ [.fl]) ++ (L ++ [.fl])) S
  obtain ⟨S', hS'⟩ : ∃ S', (runs S ((W ++ [.fl]) ++ (L ++ [.fl]))).1 = S' := ⟨_, rfl⟩
  rw [hS'] at k2 ⊢
  have hcr : (S'.crash keep).now = setAll S'.last (chosen keep S'.waits) := rfl
  have hlen : ((W ++ [WOp.fl]) ++ (L ++ [WOp.fl])).length = W.length + 1 + (L.length + 1) := by simp; omega
  have hc0 : core S = (S.now, S.now, []) := by unfold core; rw [hl, hw]
  by_cases hk : k ≤ W.length
  · left
    refine ⟨by rcases k3 with k3 | k3; omega; exact k3.2, chosen keep S'.waits, ?_, ?_⟩
    all_goals
      rw [List.append_assoc, List.take_append_of_le_length hk, hc0, exec_wrs _ _ _ _ (noFl_take _ _ hW), List.nil_append] at k2
      have e2 : S'.last = S.now := congrArg (fun c => c.2.1) k2
      have e3 : S'.waits = wrs (W.take k) := congrArg (fun c => c.2.2) k2
    · intro y hy
      have := mem_chosen hy
      rw [e3] at this
      exact mem_wrs_take this
    · rw [hcr, e2]
  · right
    refine ⟨by rcases k3 with k3 | k3; exact .inl k3.2; exact .inr k3.2, ?_⟩
    have e1 : ((W ++ [WOp.fl]) ++ (L ++ [WOp.fl])).take k = (W ++ [WOp.fl]) ++ (L ++ [WOp.fl]).take (k - (W.length + 1)) := by
      rw [List.take_append, List.take_of_length_le (by simp; omega)]
      simp
    have e0 : exec (core S) (W ++ [.fl]) = (nowOps S.now W, nowOps S.now W, []) := by
      rw [exec_append, hc0, exec_wrs _ _ _ _ hW, List.nil_append]
      show (nowOps S.now W, setAll S.now (wrs W), []) = _
      rw [setAll_ops]
    rw [e1, exec_append, e0] at k2
    by_cases hk2 : k - (W.length + 1) ≤ L.length
    · rw [List.take_append_of_le_length hk2, exec_wrs _ _ _ _ (noFl_take _ _ hL), List.nil_append] at k2
      have e2 : S'.last = nowOps S.now W := congrArg (fun c => c.2.1) k2
      have e3 : S'.waits = wrs (L.take (k - (W.length + 1))) := congrArg (fun c => c.2.2) k2
      refine ⟨chosen keep S'.waits, fun y hy => ?_, by rw [hcr, e2]⟩
      have := mem_chosen hy
      rw [e3] at this
      exact mem_wrs_take this
    · rw [List.take_of_length_le (by simp; omega), exec_append, exec_wrs _ _ _ _ hL, List.nil_append] at k2
      have e2 : S'.last = setAll (nowOps S.now W) (wrs L) := congrArg (fun c => c.2.1) k2
      have e3 : S'.waits = [] := congrArg (fun c => c.2.2) k2
      refine ⟨wrs L, fun y hy => hy, ?_⟩
      rw [hcr, e2, e3]; rfl
theorem crash_still {S : DS} (keep : List Int) : Still (S.crash keep) := ⟨⟨rfl, rfl, rfl⟩, rfl⟩
theorem setAll_at : ∀ (ys : List (Nat × List UInt8)) (n : List (List UInt8)) (j : Nat), (setAll n ys)[j]? = n[j]? ∨ ∃ y ∈ ys, y.1 = j ∧ (setAll n ys)[j]? = some y.2
  | [], _, _ => .inl rfl
  | y :: ys, n, j => by
    have e : setAll n (y :: ys) = setAll (n.set y.1 y.2) ys := rfl
    rw [e]
    rcases setAll_at ys (n.set y.1 y.2) j with h | ⟨z, hz, h1, h2⟩
    · by_cases hj : y.1 = j
      · by_cases hl : j < n.length
        · right
          refine ⟨y, .head _, hj, ?_⟩
          rw [h, List.getElem?_set, if_pos hj, if_pos (by omega)]
        · left
          rw [h, List.getElem?_set, if_pos hj, if_neg (by omega), List.getElem?_eq_none (by omega)]
      · left
        rw [h, List.getElem?_set, if_neg hj]
    · exact .inr ⟨z, .tail _ hz, h1, h2⟩
theorem wrs_sec (i : Nat) (b : List UInt8) : ∀ (n : Nat) (y : Nat × List UInt8), y ∈ wrs (secOps i b n) → ∃ t, t < n ∧ y = (i + t, secL b t)
  | 0, y, h => by simp [secOps, wrs] at h
  | n + 1, y, h => by
    rw [secOps, wrs_append, List.mem_append] at h
    rcases h with h | h
    · obtain ⟨t, h1, h2⟩ := wrs_sec i b n y h
      exact ⟨t, by omega, h2⟩
    · simp only [wrs, List.mem_singleton] at h
      exact ⟨n, by omega, h⟩
theorem secL_sec {now : List (List UInt8)} (hs : ∀ (j : Nat) s, now[j]? = some s → s.length = 64) (i n : Nat) (h : i + n ≤ now.length) (t : Nat) (ht : t < n) : now[i + t]? = some (secL (secN now i n) t) := secN_piece hs i n h t ht
end Go.Proofs.YtccmmnacejdeoaaGreatDoor

/-
  No choice of sectors of any two kinds of data has the sum of noughts (plain; the table and the moduli are checked by the kernel).
-/
namespace Go.Proofs.YtccmmnacejdeoaaGreatDoor
set_option linter.unusedSimpArgs false
set_option linter.unusedVariables false
open Go.RowKit

theorem indep_of : ∀ (l : List Nat) (b : Bool) (x : Nat), (∀ bs : List Bool, bs.length = l.length → (b = true ∨ true ∈ bs) → x ^^^ xors (bs.zip l) ≠ 0) → indep l b x = true
  | [], b, x, h => by
    cases b with
    | false => rfl
    | true =>
      have h1 := h [] rfl (.inl rfl)
      have h2 : x ≠ 0 := by simpa [xors] using h1
      show (!(Nat.beq x 0)) = true
      cases hx : Nat.beq x 0 with
      | false => rfl
      | true => exact absurd (Nat.eq_of_beq_eq_true hx) h2
  | a :: l, b, x, h => by
    show (indep l b x && force (Nat.xor a x) (fun y => indep l true y)) = true
    rw [force_eq, Bool.and_eq_true]
    refine ⟨indep_of l b x (fun bs hl hb => ?_), indep_of l true _ (fun bs hl _ => ?_)⟩
    · have := h (false :: bs) (by simp [hl]) (hb.imp id (fun e => List.mem_cons_of_mem _ e))
      have e : xors ((false :: bs).zip (a :: l)) = 0 ^^^ xors (bs.zip l) := rfl
      rw [e, Nat.zero_xor] at this
      exact this
    · have := h (true :: bs) (by simp [hl]) (.inr (List.mem_cons_self ..))
      have e : xors ((true :: bs).zip (a :: l)) = a ^^^ xors (bs.zip l) := rfl
      rw [e, ← Nat.xor_assoc, Nat.xor_comm x a] at this
      exact this
theorem dN_split (n m i : Nat) : dN n m i = dN n 0 i ^^^ dN m 0 i := by
  have e : ∀ k, dN k 0 i = (k * (i % 7 + 1)) % 256 := fun k => by
    show (k * (i % 7 + 1)) % 256 ^^^ (0 * (i % 7 + 1)) % 256 = _
    rw [Nat.zero_mul, Nat.zero_mod, Nat.xor_zero]
  rw [e, e]; rfl
theorem LN_split (n m j : Nat) : LN n m j = LN n 0 j ^^^ LN m 0 j := by
  rw [LN_eq, LN_eq, LN_eq]
  have e1 : ((List.range 64).map fun i => dN n m (64 * j - 32 + i)) = xorL ((List.range 64).map fun i => dN n 0 (64 * j - 32 + i)) ((List.range 64).map fun i => dN m 0 (64 * j - 32 + i)) := by
    unfold xorL
    rw [List.zipWith_map]
    refine List.ext_getElem? (fun k => ?_)
    by_cases hk : k < 64
    · rw [List.getElem?_map, List.getElem?_range hk, List.getElem?_zipWith, List.getElem?_range hk]
      show some (dN n m _) = some (dN n 0 _ ^^^ dN m 0 _)
      rw [dN_split n m]
    · rw [List.getElem?_eq_none (by simp; omega), List.getElem?_eq_none (by simp; omega)]
  have e2 := foldN_lin ((List.range 64).map fun i => dN n 0 (64 * j - 32 + i)) ((List.range 64).map fun i => dN m 0 (64 * j - 32 + i)) 0 0 (by simp)
  rw [Nat.xor_self] at e2
  rw [e1, e2]
  generalize foldN 0 ((List.range 64).map fun i => dN n 0 (64 * j - 32 + i)) = u
  generalize foldN 0 ((List.range 64).map fun i => dN m 0 (64 * j - 32 + i)) = v
  have e3 := foldN_lin (zrs (64 * (7 - j))) (zrs (64 * (7 - j))) u v rfl
  rw [xorL_self] at e3
  have e4 : (zrs (64 * (7 - j))).length = 64 * (7 - j) := by simp [zrs]
  rw [e4] at e3
  exact e3
def sel : List Bool → List Nat → Nat
  | b :: bs, a :: l => Nat.xor (if b then a else 0) (sel bs l)
  | _, _ => 0
theorem xors_sel : ∀ (bs : List Bool) (l : List Nat), xors (bs.zip l) = sel bs l
  | [], l => by cases l <;> rfl
  | b :: bs, [] => rfl
  | b :: bs, a :: l => by
    show (if b then a else 0) ^^^ xors (bs.zip l) = (if b then a else 0) ^^^ sel bs l
    rw [xors_sel bs l]
theorem sel_xor : ∀ (bs : List Bool) (l m : List Nat), l.length = m.length → sel bs (xorL l m) = sel bs l ^^^ sel bs m
  | [], l, m, _ => by simp [sel]
  | b :: bs, [], [], _ => by simp [sel, xorL]
  | b :: bs, x :: l, y :: m, h => by
    show (if b then x ^^^ y else 0) ^^^ sel bs (xorL l m) = ((if b then x else 0) ^^^ sel bs l) ^^^ ((if b then y else 0) ^^^ sel bs m)
    rw [sel_xor bs l m (by simpa using h)]
    cases b
    · simp
    · simp only [if_true]
      generalize sel bs l = p; generalize sel bs m = q
      rw [Nat.xor_assoc, Nat.xor_assoc, ← Nat.xor_assoc y p q, Nat.xor_comm y p, Nat.xor_assoc p y q]
/-- No two of the rows have one sum by the modulus. -/
noncomputable def uniq (p : Nat) (bs : List Bool) (rows : List (List Nat)) : Nat → Bool :=
  List.rec (motive := fun _ => Nat → Bool) (fun _ => true) (fun r _ ih acc => force (Nat.mod (sel bs r) p) fun k => (!(Nat.beq (Nat.land (Nat.shiftRight acc k) 1) 1)) && force (Nat.lor acc (Nat.shiftLeft 1 k)) ih) rows
theorem uniq_cons (p : Nat) (bs : List Bool) (r : List Nat) (rows : List (List Nat)) (acc : Nat) : uniq p bs (r :: rows) acc = ((!(Nat.beq (Nat.land (Nat.shiftRight acc (sel bs r % p)) 1) 1)) && uniq p bs rows (Nat.lor acc (Nat.shiftLeft 1 (sel bs r % p)))) := by
  show force (Nat.mod (sel bs r) p) (fun k => (!(Nat.beq (Nat.land (Nat.shiftRight acc k) 1) 1)) && force (Nat.lor acc (Nat.shiftLeft 1 k)) (uniq p bs rows)) = _
  rw [force_eq, force_eq]; rfl
theorem bit_beq (acc k : Nat) : Nat.beq (Nat.land (Nat.shiftRight acc k) 1) 1 = acc.testBit k := by
  show Nat.beq ((acc >>> k) &&& 1) 1 = (1 &&& (acc >>> k) != 0)
  rw [Nat.and_comm 1, Nat.and_one_is_mod]
  have h : (acc >>> k) % 2 = 0 ∨ (acc >>> k) % 2 = 1 := by omega
  rcases h with h | h <;> rw [h] <;> rfl
theorem uniq_spec (p : Nat) (bs : List Bool) : ∀ (rows : List (List Nat)) (acc : Nat), uniq p bs rows acc = true → (∀ (i : Nat) r, rows[i]? = some r → acc.testBit (sel bs r % p) = false) ∧ ∀ (i j : Nat) r q, i < j → rows[i]? = some r → rows[j]? = some q → sel bs r ≠ sel bs q
  | [], _, _ => ⟨fun i r h => by simp at h, fun i j r q _ h => by simp at h⟩
  | r0 :: rows, acc, h => by
    rw [uniq_cons, Bool.and_eq_true, bit_beq] at h
    obtain ⟨h1, h2⟩ := uniq_spec p bs rows _ h.2
    have hb : ∀ k, (Nat.lor acc (Nat.shiftLeft 1 (sel bs r0 % p))).testBit k = (acc.testBit k || decide (sel bs r0 % p = k)) := fun k => by
      show (acc ||| 1 <<< (sel bs r0 % p)).testBit k = _
      rw [Nat.testBit_or, Nat.one_shiftLeft, Nat.testBit_two_pow]
    refine ⟨fun i r hr => ?_, fun i j r q hij hr hq => ?_⟩
    · cases i with
      | zero =>
        simp only [List.getElem?_cons_zero, Option.some.injEq] at hr
        subst hr
        simpa using h.1
      | succ i =>
        rw [List.getElem?_cons_succ] at hr
        have := h1 i r hr
        rw [hb, Bool.or_eq_false_iff] at this
        exact this.1
    · cases j with
      | zero => omega
      | succ j =>
        rw [List.getElem?_cons_succ] at hq
        cases i with
        | zero =>
          simp only [List.getElem?_cons_zero, Option.some.injEq] at hr
          subst hr
          have := h1 j q hq
          rw [hb, Bool.or_eq_false_iff] at this
          intro e
          have h3 := this.2
          rw [decide_eq_false_iff_not] at h3
          exact h3 (by rw [e])
        | succ i =>
          rw [List.getElem?_cons_succ] at hr
          exact h2 i j r q (by omega) hr hq
noncomputable def rowIs (n : Nat) : List Nat → Bool
  | [a, b, c, d, e, f, g] => Nat.beq (LN n 0 1) a && Nat.beq (LN n 0 2) b && Nat.beq (LN n 0 3) c && Nat.beq (LN n 0 4) d && Nat.beq (LN n 0 5) e && Nat.beq (LN n 0 6) f && Nat.beq (LN n 0 7) g
  | _ => false
noncomputable def rowsAre : List (List Nat) → Nat → Bool :=
  List.rec (motive := fun _ => Nat → Bool) (fun _ => true) (fun r _ ih n => rowIs n r && ih (Nat.succ n))
noncomputable def lnRow (n : Nat) : List Nat := [LN n 0 1, LN n 0 2, LN n 0 3, LN n 0 4, LN n 0 5, LN n 0 6, LN n 0 7]
theorem lnRow_length (n : Nat) : (lnRow n).length = 7 := by
  unfold lnRow
  simp only [List.length_cons, List.length_nil]
theorem rowsAre_spec : ∀ (rows : List (List Nat)) (n : Nat), rowsAre rows n = true → ∀ (i : Nat) r, rows[i]? = some r → r = lnRow (n + i)
  | [], _, _, i, r, h => by simp at h
  | r0 :: rows, n, h, i, r, hr => by
    have h' : (rowIs n r0 && rowsAre rows (n + 1)) = true := h
    rw [Bool.and_eq_true] at h'
    cases i with
    | zero =>
      simp only [List.getElem?_cons_zero, Option.some.injEq] at hr
      subst hr
      have h1 := h'.1
      unfold rowIs at h1
      split at h1
      · simp only [Bool.and_eq_true] at h1
        obtain ⟨⟨⟨⟨⟨⟨a1, a2⟩, a3⟩, a4⟩, a5⟩, a6⟩, a7⟩ := h1
        unfold lnRow
        rw [Nat.add_zero, Nat.eq_of_beq_eq_true a1, Nat.eq_of_beq_eq_true a2, Nat.eq_of_beq_eq_true a3, Nat.eq_of_beq_eq_true a4, Nat.eq_of_beq_eq_true a5, Nat.eq_of_beq_eq_true a6, Nat.eq_of_beq_eq_true a7]
      · cases h1
    | succ i =>
      rw [List.getElem?_cons_succ] at hr
      rw [rowsAre_spec rows (n + 1) h'.2 i r hr]
      congr 1; omega
def crcT0 : List (List Nat) := [[0,0,0,0,0,0,0],
  [3313243829,1697982052,2534997096,2286049138,3663347353,3456454497,1776923814],
  [1367943979,3395964104,4114677393,3421874341,1875213171,1199282307,3553847628],
  [2806110807,4266966301,839250631,1499144517,2365679674,2772139631,3931688564],
  [2735887958,1336254417,837876579,1285183243,3750426342,2398564614,2094519513],
  [257971001,4120527818,372332275,253644868,2809710728,1285369488,408796804],
  [2515710703,668499067,1678501262,2998289034,3245594165,2433219231,264280745],
  [1182441032,2669156164,3104259900,70146325,459526366,2063199548,1490331181],
  [2639637229,2672508834,1675753158,2570366486,1684335501,3332334669,4189039026],
  [1479130200,4202568134,4109961902,293009764,3191788820,144321324,2420514068],
  [515942002,809861589,744664550,507289736,2508232529,2570738976,817593608],
  [2770859272,2725182901,923119418,1440723023,1960297750,1222405588,1732303566],
  [4036256671,1336998134,3357002524,3189605205,1503046187,4185846655,528561490],
  [3479237487,579973150,255204579,3064534591,1003742167,15829202,2360218398],
  [2364882064,3846252745,2843703353,140292650,919052732,4126399096,2980662362],
  [3556168851,404331080,2546510429,166052141,869394254,2742064135,3930631246],
  [3789181851,3857152261,3351506316,3910687341,3368671002,1448070875,674125093],
  [614876462,2161270625,1356534244,1633291551,311683459,2555019706,1103618435],
  [2958260400,797783501,847450909,586019528,2802625641,288642648,4227677289],
  [3837337303,3368935255,1147942716,1620712082,37160903,3856300918,356698396],
  [1031884004,1619723178,1489329100,1014579472,4033882339,3909467137,1635187216],
  [4015563413,2069720734,1122455117,296281978,3621471415,3822095948,3769325007],
  [2436820049,2678914347,1846238836,2881446046,3920595500,2444811176,3464607132],
  [3782669786,2670909706,2444777859,978384872,3425332997,2515167694,2658755899],
  [978960767,2673996268,1264488569,2806644971,3006092374,697098431,1057122980],
  [4280670154,4199864200,3695602705,789075865,1769433807,3884560350,1458298370],
  [1169219743,1159946300,510409158,3055757887,2007484334,31658404,3257737341],
  [349492436,3311830944,817453606,1233499169,2703612427,59006006,879442350],
  [3264970593,301160403,2307913267,280585300,1838105464,815182513,3089342197],
  [1101171590,1443503464,1867157040,3278604138,904847053,2687324478,3618685979],
  [2090643303,808662160,4108342011,332104282,1738788508,2643471951,266362589],
  [597641060,3446375953,3394732191,309522781,1656064110,3407044656,1409400521],
  [415605111,281015371,1425464665,155300507,1256368245,2896141750,1348250186],
  [3719935938,1972032047,3287163185,2164516329,2428016364,1654313687,968171244],
  [1229752924,3671439491,2713068488,3266583102,623366918,3957589301,2207236870],
  [3213130528,4008397142,1727213470,1343919070,3353591887,161801177,3120849982],
  [3151492897,1595567002,1694901818,1172039056,2506645139,577285296,747339411],
  [3408694859,2545032673,3465419724,3100844608,4114385440,1041454399,2053276417],
  [1371434909,1173365328,3165956273,91959438,2469893277,3817439536,1845471020],
  [3817928991,3462378765,1593882795,564621449,3553621959,1179682479,619499179],
  [952094138,3456933355,2246472017,3166537610,2898840724,4197847006,2241315124],
  [4257471247,2872687503,318672185,889180408,1989341709,875774143,3967710610],
  [1182603033,4188030851,2980207187,3877555038,3818787900,4020005700,1566415051],
  [1363849538,1403388576,4219460889,2504389694,908066418,883162543,1666455993],
  [83437525,3195537379,74299711,2122827556,459182415,2231460612,462812709],
  [1521159424,3761681257,4260668520,3833006550,3824401666,849938581,2529002858],
  [3832091843,3208925089,544911504,2250895241,1347771165,2376337352,3127138155],
  [3144350912,1109196064,516776692,2274401422,1430461935,3676785079,3783636863],
  [2303097800,3219267181,1321608485,1735198670,2925211067,773329771,602099220],
  [1278897533,3671537673,3655260493,4012855484,1946227490,3760020490,1242233522],
  [3637465315,1971868325,3146177460,2895687531,3248379592,1768131560,4029687640],
  [1353468545,3764327007,1092644851,1348700078,2080577467,1134313695,753681890],
  [729798365,497666564,507534587,1631401669,4195192845,2636822508,2060552683],
  [4188420268,109029168,73550202,1290571951,3718708313,2550105505,4211877428],
  [2310520395,3327329149,1139448635,1157696696,2356718854,2581867720,1294777356],
  [628546501,3025833276,806358186,1784830801,2975572722,1135048887,800586596],
  [4267306848,3020531162,3942040912,4151880786,3462175137,4290900422,2395796731],
  [992344533,3510404030,2112764216,2134571808,335980344,834977447,3877978205],
  [593166575,1006317740,4228723479,2343332975,2124391115,96940185,1374306599],
  [1916744868,3149846320,3537391863,1946874481,2820521838,127958283,2813090036],
  [1495746861,4152976220,271158464,4053622862,3657794153,2126368379,976909034],
  [3659447754,2960140775,4142724291,575636336,2187599836,3993382388,1437149188],
  [3877673259,3595108383,1833314312,4075783744,3492351885,3552268933,2381951682],
  [3089330472,722580126,1408367212,4082562375,3577694591,2235047162,3591918294]]
set_option maxRecDepth 100000 in
theorem crcT0_ok : rowsAre crcT0 0 = true := by decide +kernel
def crcT1 : List (List Nat) := [[3397169930,1430148617,1566168327,2339533306,518383748,2686961621,2358102714],
  [251700671,806056045,3393268079,53487240,3300906525,1847756980,3848568348],
  [2616563745,2673089217,2820221846,1082644831,1897960439,3881590614,1600037878],
  [1832741213,2875910932,1868310464,3525923007,2481225918,85768634,1725236430],
  [1768875356,446417368,1823026788,3353880305,3245284962,785446611,4032437859],
  [3307003955,2695108035,1265140724,2221679038,3114082316,3971672389,2496689214],
  [1603142117,1927686770,961687689,969159536,3751165617,824196426,2202882067],
  [2349215042,3391504717,3831425595,2405181679,92682330,3671993065,3562630295],
  [1462311399,3396692395,1052255169,306634732,2055275273,1723376536,1965187848],
  [2455048018,2940227535,2845892521,2583988382,2698722704,2831019257,483121070],
  [4116889409,2404260259,2260048037,4150875047,762392956,2902663451,2676731192],
  [1317399611,493184451,2647825017,3163177824,3425067835,2095387119,3362786046],
  [456555180,4038811776,1656815199,1464365178,3781626886,3444019012,2964448610],
  [3884949014,4215656620,3633364208,2684703841,1837336793,2827408529,529557800],
  [2753188329,1016416379,2128205866,519106676,1620560562,1568966203,580335212],
  [4212767210,3251501818,1080953422,524911475,1702988864,185059396,2037831288],
  [3375709922,1009981879,275074463,4289992755,2660875284,4265120408,3138400019],
  [206121047,1493581779,2273161719,2012630849,1153663629,809360889,3539573685],
  [2562463177,4133049727,3844453134,876720278,4049389415,3108178459,1757627999],
  [3985168791,4213993882,1682208619,336714265,4067631712,3652426971,2780932512],
  [883985316,1399500135,2028805019,1223852443,3411268,3580648364,3522534060],
  [3865667029,1220329555,1657736730,1696802801,664756496,3753470433,1344812403],
  [984094227,2965200221,1962760653,1433834561,1117227078,3682297495,2415561215],
  [1256198040,2955114876,2337168954,3298362167,1729260911,3744060657,3741473112],
  [2446277437,2960150938,1370003392,1501819956,404051516,1666145664,2121881287],
  [1421028744,3578099710,3333450664,3519128390,3259984037,2907312865,395371105],
  [762015383,216873102,2045487919,3071504273,842926311,3614346467,3210262040],
  [2081381084,2359877394,1463732431,1219883407,3837531458,3574186353,1226747851],
  [2342411088,2986918174,428246174,1940824879,2382545560,1912968216,3874165274],
  [145207223,4126247845,4282645661,2692497425,3596836653,3804133271,2306361588],
  [899255126,2479399517,1692999766,1893483809,2217627516,3741518054,1361629746],
  [1788502869,1854935260,1516171826,1902458406,2167933326,2306885273,180957734],
  [1371571526,3007603334,3305091060,1784051168,2842634645,3993811743,244590245],
  [2495386611,3597747426,1407669148,3792970386,1932859148,537523326,1736282627],
  [4828781,2033069646,834621797,2711870789,3333051110,2843157404,3712438249],
  [4135673617,1292951451,4143602995,856511653,611205551,1261946224,3838634193],
  [4073902864,4242668887,4111422615,650912491,1994776435,1627097625,1917055612],
  [2750873667,3732686163,2835974437,3118688238,2963621225,3902720120,118953316],
  [962978197,205421282,3677567576,72054048,3601750996,889461879,277492041],
  [1208353629,3779990907,1173798674,3748562006,2029516205,210975632,1704456904],
  [2468952056,3776789917,2668656360,1114927957,133222142,2968892129,3303865687],
  [1448419661,2217221113,134777472,3392545831,3718967399,2129722752,2902804977],
  [3991661915,3601983477,2874433002,433536897,1218844246,2774521467,472294568],
  [1484486146,1615309933,3679952206,3788387509,3327908821,147462658,3554113797],
  [231268501,2375657774,608565608,168560559,3944396008,3110634665,2870384281],
  [1402653248,3554090404,3722241087,2432485725,330799269,247525176,641656278],
  [3431365050,1720725267,4158394499,2424679895,101003283,634608523,693775709],
  [2475004345,2613616018,3379282663,2436685520,51607265,1934628340,1924910409],
  [2712213169,1714847455,2573239606,1908491664,4161488565,2255441704,2967286818],
  [1691680772,50550971,242776414,4186116834,575764524,1214906441,3644096644],
  [4028644762,2891723287,1814068135,3124030773,2546875846,3239368619,1661885806],
  [2017667064,965440237,2525417440,1188021744,710114485,3958054044,3218227156],
  [3235762158,2728546930,3029821880,2288567786,1123825184,2836646871,3588315611],
  [302260639,3111403334,2931129401,2780390272,1700223604,2747726234,1413281284],
  [1645586296,2035849995,3913133688,2891251607,881396523,2916962547,3793513532],
  [4010436815,3781483317,1833556397,3775933099,2948483702,3816865634,2738500062],
  [874863722,3778540499,3081703511,2081086888,3501814053,1608922643,37830209],
  [4049160927,2214778295,548924479,4098394842,182669244,2447604082,1806207719],
  [3911693285,1858430629,2706695696,14556565,1618627151,2782984012,3714550685],
  [3091433390,4001399097,2407630320,4286088075,3069728746,2810690270,723620430],
  [2472278567,2729915733,1299208647,2062487988,3303041773,3734636974,3065493584],
  [274861760,3847127022,2880774596,2839409290,2625763160,1310845473,3643073214],
  [761014817,2205636118,807402767,2040395706,3469534985,1939641680,24410232],
  [1918878242,2117067927,245903211,2015659197,3420103163,622844719,1519753324]]
set_option maxRecDepth 100000 in
theorem crcT1_ok : rowsAre crcT1 64 = true := by decide +kernel
def crcT2 : List (List Nat) := [[711618373,1888714372,2556691061,703669431,3150998242,75148173,2318850468],
  [4011227632,363223264,259849757,2712892357,1636455547,3397379308,3823070466],
  [2078491758,3136893516,1831140580,3791948818,3558150545,1124152078,1508225256],
  [2368451858,2395456409,2858545330,1890190834,919667416,2705446370,1617827792],
  [2306357523,1060561237,2845112598,1701540796,1683659780,2324535947,4141944189],
  [621427836,2231975246,2387956870,653227251,480813674,1223132445,2456512288],
  [3214466474,1464533759,4235192315,2605147709,2057551063,2508017938,2247508749],
  [1813049613,4018891200,560151881,769621410,2696133180,2122532529,3538059145],
  [3074409896,4023927078,4219860147,2965736097,3753148783,3269840832,1939435542],
  [1917047581,2330814274,1822230747,948428243,99532790,216039585,443598000],
  [883607863,1087831889,3020337043,936215615,777059763,2638280365,3129844908],
  [2404227661,3539829553,2942414159,2083427576,3473387508,1285998169,3983934314],
  [3674082522,1059292786,1349765481,2548869090,3796287689,4244920562,2511858934],
  [3842677802,1375915674,2538741398,2673357448,2147715381,76227423,110676666],
  [2795459541,2513589837,823884364,565024413,2367146846,4052316661,1000314366],
  [4187798486,1753933004,262973480,538240410,2281803180,2802466698,1618900458],
  [3417324766,2507409281,1604841465,3236527834,1931066872,1379231062,2719517825],
  [248261227,4030800357,3367965585,1219176872,2839774049,2620402231,3421583399],
  [2587432949,1595820873,2867269992,186439295,484230795,357498325,1909188045],
  [3469963666,3093209555,3691525449,1231765029,3118951717,3785412859,2675183800],
  [401286049,270040366,3231799737,361260455,1268793857,3984529292,3946849204],
  [3308441040,198053914,3666037816,945406925,1812672085,3886687681,1788709995],
  [3142877972,4013917103,4134493185,2186167337,1384112334,2512547877,1152871480],
  [3407649439,4020348814,165436406,329372511,2012874215,2442183235,340769951],
  [271822394,4025651048,3543831052,2394629212,150814388,771115826,3040129792],
  [3578771599,2328340748,1143107172,117011246,3534159917,3824354387,3705472934],
  [1876594650,900734648,2248686515,2681343624,3430395212,93960745,1209792985],
  [1052687249,3052796196,2833078355,1618251926,452309225,134150075,3193823242],
  [3908112420,1633691991,300676166,961036515,3596560794,887888188,840255313],
  [1808327875,647586796,4147022917,3936003037,2386474031,2757229235,1569070527],
  [1459011618,1084246548,1820610702,976922349,3698566270,2582283714,2245429113],
  [167061537,3187210389,1379107562,998495722,3647333004,3479817149,3728172909],
  [850382386,1613531855,3432177452,548443692,4046635671,2833593915,3664409582],
  [4157855879,85568683,1535779652,2834481502,728300558,1725987162,3011757896],
  [1663493401,2856764935,970072509,3947183753,2667035108,4020154040,163125922],
  [2515407973,2658678738,4271320555,2045491049,2083760813,232671316,808631706],
  [2445121636,797512990,4251067471,1814741287,783823985,638715709,2797446967],
  [3779518734,3877725029,1458182585,2434926327,1324146882,980025010,4032060069],
  [2077491416,895704276,617654980,747246649,686292607,3891473085,3888742024],
  [3388642906,3201092489,3345267422,139875390,1746902309,1110060322,2933528335],
  [315990783,3198149487,495088420,2504827709,387491446,4266435667,262215824],
  [3618223178,3685401867,2325385036,487519311,3443693807,810150706,1716038710],
  [1813477468,2301835527,700864550,3471831017,1481539294,3957768393,3614130543],
  [2065751559,590707748,1662771052,3165966473,2379191440,819549730,3915563037],
  [781404304,3471538535,2617883466,1467409299,2693725101,2172373129,2443390849],
  [1891721797,2426785261,1703978525,3448122721,1478744032,919839512,478895310],
  [3456334726,3486986533,3089019621,2950220606,3951374847,2313071685,810716879],
  [2432734085,848266148,2259247233,2925639737,4002641677,3747471930,1806921435],
  [2737575053,3480314089,3600951120,1318855545,361449305,711112934,2849347504],
  [1716519480,2856601229,1102764856,3336467467,3486611904,3832018823,3225166614],
  [4070916006,85666849,602069441,2238286812,2051947562,1830363237,2047278844],
  [2059806148,2429316315,3645140358,2039653145,3352526169,1206315858,2799344710],
  [18200984,1832563840,2250530446,1221333618,1105066735,2572164193,4041691215],
  [3553384425,1995233716,2617658127,1696445464,1719047867,2474978860,1899691920],
  [2749223182,3066068473,3683555662,1827678223,933808100,2644412229,3340395944],
  [253539456,3301569464,2826178271,1133740006,176932880,1205719866,2776703680],
  [3560144933,3298483038,1922221861,3733555429,1972171587,4223359563,83504479],
  [290428560,2712665402,3851041613,1456201623,2950090202,901649706,1830001145],
  [154234794,1265126952,1684615522,2724022488,3310340137,29203220,3688667267],
  [1481989089,3408767412,1253855874,1576785606,332256652,64673414,765100368],
  [1934435944,2266635736,2286784181,3630974201,1641408651,2059888118,2953620302],
  [4034187919,3236124515,1854469814,197044167,968127806,3934029433,3751801248],
  [3444242030,2799337115,4112657021,3676218103,1811506543,3619813640,131033958],
  [2454265453,1535298586,3415603225,3668431344,1861165981,2168633207,1546554226]]
set_option maxRecDepth 100000 in
theorem crcT2_ok : rowsAre crcT2 128 = true := by decide +kernel
def crcT3 : List (List Nat) := [[3759594575,632105101,3309164402,2726516045,2771747430,2757586008,112923422],
  [627755770,1083707113,1378167578,717292095,2138029311,1784161081,1867687864],
  [2980050788,4022821957,813509091,1769405928,3404790037,3810981083,3580394066],
  [1196885528,3690567056,4147652021,4225266696,674556508,23466551,3974356330],
  [1124370969,1778956124,4107086865,3994616390,2059367552,715808094,2053949383],
  [4017524598,3493292871,3540812161,2912748809,38619886,3904914120,518434202],
  [1977904800,41243894,2704683772,271914951,1682330707,895129287,159091127],
  [2792112647,3132440521,2084235342,2796358744,3193328312,3735322980,1584379187],
  [2101573282,3135641391,2799444404,1001913179,3243338219,1656883221,4279548588],
  [3091161111,3755159883,834985436,3019222057,453728114,2898741108,2533166602],
  [3741896708,4292699943,517053136,3734533904,2527157150,2843314838,364737692],
  [1693418366,1844845383,95852556,2507892695,2012613081,2023733858,1111937882],
  [828118505,2150112772,4205116458,2126075085,1521968868,3376227529,981941446],
  [3454398803,2346102312,1089781381,2314498262,3595821627,2902228764,2510729356],
  [2389720748,1275475711,3871201887,922866883,3678904400,1509830070,2829184968],
  [3514029743,2975761534,3624536123,918071236,3729909410,259875785,4081061852],
  [3814674855,1285580595,2281787370,3594861700,625596150,4198643989,824637111],
  [639846162,697647447,521778050,1577544694,4279494767,877098612,1489977873],
  [3000400524,2261396475,2101457275,498111521,1250733445,3174670742,3807748091],
  [3353523922,2344554270,4229985566,1038155438,1235437698,3720951638,804745220],
  [517661921,603575267,3767081454,1627628844,3152308134,3507941409,1539523336],
  [3422751376,942653143,4205513839,1288831814,2622426098,3687039596,3659459799],
  [281180502,3224249305,3969473464,2089267446,4182237860,3741437210,97275995],
  [1619681501,3232761848,321543247,3983026048,3703703437,3679682428,1429504252],
  [3148174456,3236114206,3385628085,1886572675,2747612382,1731589645,4098854755],
  [2128167629,2782267770,1590979037,4163930097,2040463943,2838542700,2644917189],
  [117506514,2088650250,3784288602,2665630502,2314101253,3541313390,896430012],
  [1449473433,4231766422,3478833850,1631900984,1600946080,3514002172,3274208879],
  [2717135893,3264987034,2179106539,1516210072,902998138,1988050837,1826474942],
  [583909618,2237855009,1730674408,2307744934,1840461263,3871661082,55480656],
  [536077331,3814448345,4237107747,1496146326,1073620382,3682181995,3676179350],
  [1089473552,503541336,3258642503,1486099089,988308332,2382032148,2164255618],
  [2074798595,3285654530,1553706369,1135038807,314524535,3933606034,2225274625],
  [3201760438,2799843942,3414381033,3420784165,3370483182,611540979,3981134759],
  [706986280,163401930,2849723152,2287139314,2105161732,2903345169,1467061837],
  [3706400852,1032036639,1855872838,452751378,2680040269,1330474749,1861890421],
  [3635985493,2356315091,1835751138,255657564,3442849169,1686184340,4168428504],
  [2308796166,2934914007,829262672,2417115993,192229259,3974390773,2367802560],
  [319786704,2091713638,1129789485,767185303,1836986678,830388218,2596071661],
  [1651272728,2447207423,3717381479,4137656545,3274153807,149524509,4020317036],
  [3108198589,2442019609,125072541,1803900898,3156255772,3029277036,1322919155],
  [2084523528,4105921917,2423032053,3821469840,1719310981,2055886349,657690709],
  [3347153438,2787285361,858808223,807803702,4084628660,2703588854,2517662988],
  [1913723207,282383081,1127456571,3359576066,2106306871,212906383,1507958945],
  [664965072,4245346218,3156343581,603792152,1355472394,3172085540,555765565],
  [2045814021,2739168032,1169745482,3104697834,2825384519,179979445,2886220914],
  [3874232063,369316247,1874334454,3111422304,3184876273,564785158,2741826809],
  [3119513340,3948667670,1359986834,3100506727,3099794435,1999289977,4169995501],
  [2344843764,379912283,17073987,1479565607,1138437207,2182472869,988540294],
  [1321168705,1938826815,2518448939,3497145941,2575373006,1276160964,1392662816],
  [3662303967,3704573075,4098128338,2479212930,740185892,3312352294,3912795338],
  [1378437309,1226312809,249744789,1866391879,2441287255,4019304209,904193648],
  [3937902763,3526438134,754150349,2711216477,4180434114,2909364314,1607958655],
  [946753242,3387376066,919699020,2353547063,3733401750,2814136855,3725209504],
  [1216333885,164357519,1901702157,2242239264,2404999625,2846358398,1747629464],
  [3311404938,2448926129,4113423320,3370192412,342761620,3891926255,688711802],
  [508506927,2443480407,801837602,1442576671,1802050503,1536990622,2289559525],
  [3677562266,4103187251,3100896842,3719933549,2972919134,2509886207,3785249603],
  [3276659872,508958753,959505509,690960674,3685359789,2711248065,1464947257],
  [2452220139,2652110781,400918405,3599345468,220740872,2751271251,2702658538],
  [3107034466,3525594065,3574881202,1394488579,2133852175,3672154659,1015112180],
  [973627781,2514289002,869344177,2160907837,659660218,1247494572,1393703706],
  [120997220,4091816082,2826698618,1349309197,1964805611,2011578077,2336399836],
  [1479912807,247241235,2529963294,1372954634,1879755545,560296098,3500360136]]
set_option maxRecDepth 100000 in
theorem crcT3_ok : rowsAre crcT3 192 = true := by decide +kernel
def crcT : List (List Nat) := crcT0 ++ (crcT1 ++ (crcT2 ++ crcT3))
theorem crcT_get (n : Nat) (hn : n < 256) : crcT[n]? = some (lnRow n) := by
  have l0 : crcT0.length = 64 := rfl
  have l1 : crcT1.length = 64 := rfl
  have l2 : crcT2.length = 64 := rfl
  have l3 : crcT3.length = 64 := rfl
  have one : ∀ (T : List (List Nat)) (k i : Nat), T.length = 64 → rowsAre T k = true → i < 64 → T[i]? = some (lnRow (k + i)) := fun T k i hl hr hi => by
    obtain ⟨r, e⟩ : ∃ r, T[i]? = some r := ⟨_, List.getElem?_eq_getElem (by omega)⟩
    rw [e, rowsAre_spec T k hr i r e]
  unfold crcT
  rcases (by omega : n < 64 ∨ (64 ≤ n ∧ n < 128) ∨ (128 ≤ n ∧ n < 192) ∨ 192 ≤ n) with h | h | h | h
  · rw [List.getElem?_append_left (by omega), one _ 0 n l0 crcT0_ok h, Nat.zero_add]
  · rw [List.getElem?_append_right (by omega), l0, List.getElem?_append_left (by omega), one _ 64 (n - 64) l1 crcT1_ok (by omega), show 64 + (n - 64) = n from by omega]
  · rw [List.getElem?_append_right (by omega), l0, List.getElem?_append_right (by omega), l1, List.getElem?_append_left (by omega), one _ 128 (n - 64 - 64) l2 crcT2_ok (by omega), show 128 + (n - 64 - 64) = n from by omega]
  · rw [List.getElem?_append_right (by omega), l0, List.getElem?_append_right (by omega), l1, List.getElem?_append_right (by omega), l2, one _ 192 (n - 64 - 64 - 64) l3 crcT3_ok (by omega), show 192 + (n - 64 - 64 - 64) = n from by omega]
def crcM : List (List Bool × Nat) := [([true,false,false,false,false,false,false], 16073),
  ([false,true,false,false,false,false,false], 16103),
  ([true,true,false,false,false,false,false], 16187),
  ([false,false,true,false,false,false,false], 16087),
  ([true,false,true,false,false,false,false], 16193),
  ([false,true,true,false,false,false,false], 16001),
  ([true,true,true,false,false,false,false], 16001),
  ([false,false,false,true,false,false,false], 16063),
  ([true,false,false,true,false,false,false], 16057),
  ([false,true,false,true,false,false,false], 16057),
  ([true,true,false,true,false,false,false], 16073),
  ([false,false,true,true,false,false,false], 16001),
  ([true,false,true,true,false,false,false], 16001),
  ([false,true,true,true,false,false,false], 16061),
  ([true,true,true,true,false,false,false], 16073),
  ([false,false,false,false,true,false,false], 16067),
  ([true,false,false,false,true,false,false], 16001),
  ([false,true,false,false,true,false,false], 16061),
  ([true,true,false,false,true,false,false], 16067),
  ([false,false,true,false,true,false,false], 16067),
  ([true,false,true,false,true,false,false], 16007),
  ([false,true,true,false,true,false,false], 16033),
  ([true,true,true,false,true,false,false], 16073),
  ([false,false,false,true,true,false,false], 16001),
  ([true,false,false,true,true,false,false], 16057),
  ([false,true,false,true,true,false,false], 16189),
  ([true,true,false,true,true,false,false], 16057),
  ([false,false,true,true,true,false,false], 16187),
  ([true,false,true,true,true,false,false], 16007),
  ([false,true,true,true,true,false,false], 16061),
  ([true,true,true,true,true,false,false], 16007),
  ([false,false,false,false,false,true,false], 16067),
  ([true,false,false,false,false,true,false], 16141),
  ([false,true,false,false,false,true,false], 16187),
  ([true,true,false,false,false,true,false], 16091),
  ([false,false,true,false,false,true,false], 16183),
  ([true,false,true,false,false,true,false], 16007),
  ([false,true,true,false,false,true,false], 16217),
  ([true,true,true,false,false,true,false], 16073),
  ([false,false,false,true,false,true,false], 16007),
  ([true,false,false,true,false,true,false], 16073),
  ([false,true,false,true,false,true,false], 16067),
  ([true,true,false,true,false,true,false], 16063),
  ([false,false,true,true,false,true,false], 16001),
  ([true,false,true,true,false,true,false], 16001),
  ([false,true,true,true,false,true,false], 16001),
  ([true,true,true,true,false,true,false], 16061),
  ([false,false,false,false,true,true,false], 16139),
  ([true,false,false,false,true,true,false], 16001),
  ([false,true,false,false,true,true,false], 16033),
  ([true,true,false,false,true,true,false], 16067),
  ([false,false,true,false,true,true,false], 16183),
  ([true,false,true,false,true,true,false], 16057),
  ([false,true,true,false,true,true,false], 16217),
  ([true,true,true,false,true,true,false], 16069),
  ([false,false,false,true,true,true,false], 16061),
  ([true,false,false,true,true,true,false], 16057),
  ([false,true,false,true,true,true,false], 16063),
  ([true,true,false,true,true,true,false], 16069),
  ([false,false,true,true,true,true,false], 16067),
  ([true,false,true,true,true,true,false], 16067),
  ([false,true,true,true,true,true,false], 16087),
  ([true,true,true,true,true,true,false], 16097),
  ([false,false,false,false,false,false,true], 16069),
  ([true,false,false,false,false,false,true], 16229),
  ([false,true,false,false,false,false,true], 16057),
  ([true,true,false,false,false,false,true], 16063),
  ([false,false,true,false,false,false,true], 16069),
  ([true,false,true,false,false,false,true], 16087),
  ([false,true,true,false,false,false,true], 16141),
  ([true,true,true,false,false,false,true], 16007),
  ([false,false,false,true,false,false,true], 16063),
  ([true,false,false,true,false,false,true], 16001),
  ([false,true,false,true,false,false,true], 16111),
  ([true,true,false,true,false,false,true], 16103),
  ([false,false,true,true,false,false,true], 16097),
  ([true,false,true,true,false,false,true], 16103),
  ([false,true,true,true,false,false,true], 16091),
  ([true,true,true,true,false,false,true], 16069),
  ([false,false,false,false,true,false,true], 16273),
  ([true,false,false,false,true,false,true], 16127),
  ([false,true,false,false,true,false,true], 16183),
  ([true,true,false,false,true,false,true], 16007),
  ([false,false,true,false,true,false,true], 16097),
  ([true,false,true,false,true,false,true], 16061),
  ([false,true,true,false,true,false,true], 16067),
  ([true,true,true,false,true,false,true], 16189),
  ([false,false,false,true,true,false,true], 16067),
  ([true,false,false,true,true,false,true], 16141),
  ([false,true,false,true,true,false,true], 16033),
  ([true,true,false,true,true,false,true], 16061),
  ([false,false,true,true,true,false,true], 16087),
  ([true,false,true,true,true,false,true], 16007),
  ([false,true,true,true,true,false,true], 16007),
  ([true,true,true,true,true,false,true], 16063),
  ([false,false,false,false,false,true,true], 16141),
  ([true,false,false,false,false,true,true], 16067),
  ([false,true,false,false,false,true,true], 16001),
  ([true,true,false,false,false,true,true], 16141),
  ([false,false,true,false,false,true,true], 16063),
  ([true,false,true,false,false,true,true], 16057),
  ([false,true,true,false,false,true,true], 16061),
  ([true,true,true,false,false,true,true], 16087),
  ([false,false,false,true,false,true,true], 16103),
  ([true,false,false,true,false,true,true], 16001),
  ([false,true,false,true,false,true,true], 16057),
  ([true,true,false,true,false,true,true], 16091),
  ([false,false,true,true,false,true,true], 16061),
  ([true,false,true,true,false,true,true], 16069),
  ([false,true,true,true,false,true,true], 16073),
  ([true,true,true,true,false,true,true], 16001),
  ([false,false,false,false,true,true,true], 16067),
  ([true,false,false,false,true,true,true], 16001),
  ([false,true,false,false,true,true,true], 16067),
  ([true,true,false,false,true,true,true], 16073),
  ([false,false,true,false,true,true,true], 16069),
  ([true,false,true,false,true,true,true], 16091),
  ([false,true,true,false,true,true,true], 16087),
  ([true,true,true,false,true,true,true], 16057),
  ([false,false,false,true,true,true,true], 16033),
  ([true,false,false,true,true,true,true], 16097),
  ([false,true,false,true,true,true,true], 16067),
  ([true,true,false,true,true,true,true], 16007),
  ([false,false,true,true,true,true,true], 16057),
  ([true,false,true,true,true,true,true], 16067),
  ([false,true,true,true,true,true,true], 16061),
  ([true,true,true,true,true,true,true], 16007)]
noncomputable def allUniq : List (List Bool × Nat) → Bool := List.rec (motive := fun _ => Bool) true (fun x _ ih => uniq x.2 x.1 crcT 0 && ih)
theorem allUniq_spec : ∀ l : List (List Bool × Nat), allUniq l = true → ∀ x ∈ l, uniq x.2 x.1 crcT 0 = true
  | [], _, x, h => by simp at h
  | y :: l, h, x, hx => by
    have h' : (uniq y.2 y.1 crcT 0 && allUniq l) = true := h
    rw [Bool.and_eq_true] at h'
    rcases List.mem_cons.1 hx with rfl | hx
    · exact h'.1
    · exact allUniq_spec l h'.2 x hx
set_option maxRecDepth 100000 in
theorem crcM_ok : allUniq crcM = true := by decide +kernel
set_option maxRecDepth 100000 in
theorem crcM_all : ∀ a b c d e f g : Bool, (a || b || c || d || e || f || g) = true → crcM.any (fun x => x.1 == [a, b, c, d, e, f, g]) = true := by decide +kernel
theorem sel_ne (bs : List Bool) (hl : bs.length = 7) (ht : true ∈ bs) (n m : Nat) (hn : n < 256) (hm : m < 256) (hne : n ≠ m) : sel bs (lnRow n) ≠ sel bs (lnRow m) := by
  match bs, hl with
  | [a, b, c, d, e, f, g], _ =>
    have h1 := crcM_all a b c d e f g (by
      simp only [List.mem_cons, List.not_mem_nil, or_false] at ht
      rcases ht with h | h | h | h | h | h | h <;> subst h <;> simp)
    rw [List.any_eq_true] at h1
    obtain ⟨x, hx, hxe⟩ := h1
    have hxe := eq_of_beq hxe
    have h2 := (uniq_spec x.2 x.1 crcT 0 (allUniq_spec crcM crcM_ok x hx)).2
    rw [hxe] at h2
    rcases Nat.lt_or_gt_of_ne hne with h | h
    · exact h2 n m _ _ h (crcT_get n hn) (crcT_get m hm)
    · exact fun e => h2 m n _ _ h (crcT_get m hm) (crcT_get n hn) e.symm
theorem ind_any (n m : Nat) : Ind n m := by
  by_cases e : n % 256 = m % 256
  · left; rw [dataB_mod n, dataB_mod m, e]
  · right
    have key : ∀ j, LN n m j = LN (n % 256) 0 j ^^^ LN (m % 256) 0 j := fun j => by
      rw [LN_mod n m j, LN_comm, LN_mod (m % 256) n j, LN_comm, LN_split]
    refine indep_of _ _ _ (fun bs hl hb => ?_)
    have ht : true ∈ bs := hb.resolve_left (by decide)
    rw [Nat.zero_xor, xors_sel]
    have ex : [LN n m 1, LN n m 2, LN n m 3, LN n m 4, LN n m 5, LN n m 6, LN n m 7] = xorL (lnRow (n % 256)) (lnRow (m % 256)) := by
      rw [key 1, key 2, key 3, key 4, key 5, key 6, key 7]; rfl
    rw [ex, sel_xor bs (lnRow (n % 256)) (lnRow (m % 256)) (by rw [lnRow_length, lnRow_length])]
    intro h0
    have hne := sel_ne bs hl ht (n % 256) (m % 256) (Nat.mod_lt _ (by omega)) (Nat.mod_lt _ (by omega)) e
    have key2 : ∀ a b : Nat, a ≠ b → a ^^^ b ≠ 0 := fun a b h e => h (by
      have h1 : (a ^^^ b) ^^^ b = a := by rw [Nat.xor_assoc, Nat.xor_self, Nat.xor_zero]
      rw [e, Nat.zero_xor] at h1
      exact h1.symm)
    exact key2 _ _ hne h0
end Go.Proofs.YtccmmnacejdeoaaGreatDoor
