/-
  An image of which some sectors are old and some new, and which is whole, is the one that its first sector is of (plain).
-/
import Derived.Test.YtilclfeaolhoeaaDoorPgCrc
import Derived.Test.YtilclfeaolhoeaaDoorPgData
namespace Go.Proofs.YtilclfeaolhoeaaDoor
set_option linter.unusedSimpArgs false
set_option linter.unusedVariables false
open Go.RowKit

def secL (b : List UInt8) (t : Nat) : List UInt8 := (b.drop (64 * t)).take 64
def xchunks : Nat → List Nat → List Nat → List (List Nat)
  | 0, _, _ => []
  | k + 1, a, b => xorL (a.take 64) (b.take 64) :: xchunks k (a.drop 64) (b.drop 64)
theorem xorL_append : ∀ (a c b d : List Nat), a.length = b.length → xorL (a ++ c) (b ++ d) = xorL a b ++ xorL c d := by
  intro a c b d h
  unfold xorL
  exact List.zipWith_append h
theorem xchunks_flatten : ∀ (k : Nat) (a b : List Nat), a.length = 64 * k → b.length = 64 * k → (xchunks k a b).flatten = xorL a b
  | 0, a, b, ha, hb => by
    obtain rfl : a = [] := List.eq_nil_of_length_eq_zero (by omega)
    rfl
  | k + 1, a, b, ha, hb => by
    show xorL (a.take 64) (b.take 64) ++ (xchunks k (a.drop 64) (b.drop 64)).flatten = _
    rw [xchunks_flatten k _ _ (by rw [List.length_drop]; omega) (by rw [List.length_drop]; omega), ← xorL_append _ _ _ _ (by rw [List.length_take, List.length_take]; omega), List.take_append_drop, List.take_append_drop]
theorem nats_drop (l : List UInt8) (n : Nat) : (nats l).drop n = nats (l.drop n) := by unfold nats; rw [List.map_drop]
theorem nats_take (l : List UInt8) (n : Nat) : (nats l).take n = nats (l.take n) := by unfold nats; rw [List.map_take]
theorem nats_length (l : List UInt8) : (nats l).length = l.length := by unfold nats; rw [List.length_map]
theorem xchunks_sec (a b : List UInt8) : ∀ (k i : Nat), xchunks k ((nats a).drop (64 * i)) ((nats b).drop (64 * i)) = (List.range k).map fun j => xorL (nats (secL a (i + j))) (nats (secL b (i + j)))
  | 0, i => rfl
  | k + 1, i => by
    show xorL (((nats a).drop (64 * i)).take 64) (((nats b).drop (64 * i)).take 64) :: xchunks k (((nats a).drop (64 * i)).drop 64) (((nats b).drop (64 * i)).drop 64) = _
    rw [List.drop_drop, List.drop_drop, show 64 * i + 64 = 64 * (i + 1) from by omega, xchunks_sec a b k (i + 1), List.range_succ_eq_map, List.map_cons, List.map_map, nats_drop, nats_drop, nats_take, nats_take]
    congr 1
    refine List.map_congr_left (fun j _ => ?_)
    show xorL (nats (secL a (i + 1 + j))) (nats (secL b (i + 1 + j))) = xorL (nats (secL a (i + (j + 1)))) (nats (secL b (i + (j + 1))))
    rw [show i + 1 + j = i + (j + 1) from by omega]
theorem xorL_self : ∀ l : List Nat, xorL l l = zrs l.length
  | [] => rfl
  | x :: l => by
    show (x ^^^ x) :: xorL l l = 0 :: zrs l.length
    rw [Nat.xor_self, xorL_self l]
theorem foldN0_zrs (n k : Nat) : foldN (foldN 0 (zrs n)) (zrs k) = 0 := by rw [foldN_zrs, foldN_zrs]

/-- The data's part of an image. -/
theorem img_sec {x : PgV} {k t : Nat} (hd : x.d.length = 480) (ht : 1 ≤ t) : secL (imgB x k) t = (x.d.drop (64 * t - 32)).take 64 := by
  unfold secL
  have e : (imgB x k).drop (64 * t) = ((imgB x k).drop 32).drop (64 * t - 32) := by rw [List.drop_drop]; congr 1; omega
  rw [e, img_d x k hd]
theorem dataB_sec (n i : Nat) (hi : i + 64 ≤ 480) : nats (((dataB n).drop i).take 64) = (List.range 64).map fun j => (dataAt n (i + j)).toNat := by
  unfold nats dataB
  refine List.ext_getElem? (fun j => ?_)
  rw [List.getElem?_map, List.getElem?_take, List.getElem?_map]
  by_cases hj : j < 64
  · rw [if_pos hj, List.getElem?_drop, List.getElem?_map, List.getElem?_range (by omega), List.getElem?_range hj]; rfl
  · rw [if_neg hj, List.getElem?_eq_none (by rw [List.length_range]; omega)]; rfl
theorem dN_data (n m i : Nat) : (dataAt n i).toNat ^^^ (dataAt m i).toNat = dN n m i := by
  unfold dataAt
  rw [UInt8.toNat_ofNat', UInt8.toNat_ofNat']; rfl
theorem LN_eq (n m j : Nat) : LN n m j = foldN (foldN 0 ((List.range 64).map fun i => dN n m (64 * j - 32 + i))) (zrs (64 * (7 - j))) := by
  unfold LN
  rw [zr_eq, blk_eq]; rfl
theorem sec_LN {x y : PgV} {k u n m j : Nat} (hx : x.d = dataB n) (hy : y.d = dataB m) (h1 : 1 ≤ j) (h2 : j < 8) : foldN (foldN 0 (xorL (nats (secL (imgB x k) j)) (nats (secL (imgB y u) j)))) (zrs (64 * (7 - j))) = LN n m j := by
  have lx : x.d.length = 480 := by rw [hx, dataB_length]
  have ly : y.d.length = 480 := by rw [hy, dataB_length]
  rw [img_sec lx h1, img_sec ly h1, hx, hy, dataB_sec n _ (by omega), dataB_sec m _ (by omega), LN_eq]
  congr 2
/-- An image whose sum is taken out. -/
def zc (b : List UInt8) : List UInt8 := splice b 28 (zeros 4)
theorem zc_length (b : List UInt8) (h : b.length = 512) : (zc b).length = 512 := by unfold zc; rw [length_splice _ _ _ (by rw [zeros_length]; omega), h]
theorem zc_sec (b : List UInt8) (h : b.length = 512) (t : Nat) (ht : 1 ≤ t) : secL (zc b) t = secL b t := by
  unfold secL zc
  exact splice_apart _ _ _ _ _ (by rw [zeros_length]; omega) (.inr (by rw [zeros_length]; omega))
theorem zc_img {x : PgV} {k : Nat} (hd : x.d.length = 480) : zc (imgB x k) = imgD x k := by
  have hl := imgD_length x k hd
  unfold zc imgB
  have hz : ((imgD x k).drop 28).take 4 = zeros 4 := by
    unfold imgD
    rw [splice_apart _ _ _ _ _ (by rw [imgT_length]; omega) (.inl (by omega))]
    unfold imgT
    rw [splice_apart _ _ _ _ _ (by rw [putB_length, imgL_length]; omega) (.inr (by rw [putB_length]; omega))]
    unfold imgL
    rw [splice_apart _ _ _ _ _ (by rw [putB_length, imgA_length]; omega) (.inr (by rw [putB_length]; omega))]
    unfold imgA
    rw [splice_apart _ _ _ _ _ (by rw [putB_length, imgM_length]; omega) (.inr (by rw [putB_length]; omega))]
    unfold imgM; rfl
  refine List.ext_getElem? (fun i => ?_)
  rw [splice_get _ _ _ _ (by rw [zeros_length, length_splice _ _ _ (by rw [putB_length]; omega)]; omega), splice_get _ _ _ _ (by rw [putB_length]; omega), zeros_length, putB_length]
  by_cases h1 : i < 28
  · rw [if_pos h1, if_pos h1]
  · rw [if_neg h1]
    by_cases h2 : i < 32
    · rw [if_pos h2, ← hz, List.getElem?_take, if_pos (by omega), List.getElem?_drop]
      congr 1; omega
    · rw [if_neg h2, if_neg h1, if_neg h2]
theorem img_sum {x : PgV} {k : Nat} (hd : x.d.length = 480) : ((imgB x k).drop 28).take 4 = putB 4 (crcN (zc (imgB x k))) := by
  rw [zc_img hd]
  have := splice_self (imgD x k) (putB 4 (crcN (imgD x k))) 28 (by rw [putB_length, imgD_length x k hd]; omega)
  rw [putB_length] at this
  exact this
theorem sec0_sum (b : List UInt8) : (b.drop 28).take 4 = ((secL b 0).drop 28).take 4 := by
  unfold secL
  rw [Nat.mul_zero, List.drop_zero, List.drop_take, List.take_take]; rfl
theorem bytes_of_secs {a b : List UInt8} (ha : a.length = 512) (hb : b.length = 512) (h : ∀ j, j < 8 → secL a j = secL b j) : a = b := by
  refine List.ext_getElem? (fun i => ?_)
  by_cases hi : i < 512
  · have := congrArg (fun l => l[i % 64]?) (h (i / 64) (by omega))
    simp only [secL] at this
    rw [List.getElem?_take, List.getElem?_take, if_pos (by omega), if_pos (by omega), List.getElem?_drop, List.getElem?_drop, show 64 * (i / 64) + i % 64 = i from by omega] at this
    exact this
  · rw [List.getElem?_eq_none (by omega), List.getElem?_eq_none (by omega)]
/-- The numbers' data are alike, or no choice of their sectors has the sum of noughts. -/
def Ind (n m : Nat) : Prop := dataB n = dataB m ∨ indep [LN n m 1, LN n m 2, LN n m 3, LN n m 4, LN n m 5, LN n m 6, LN n m 7] false 0 = true
theorem LN_comm (n m j : Nat) : LN n m j = LN m n j := by
  rw [LN_eq, LN_eq]
  congr 2
  refine List.map_congr_left (fun i _ => ?_)
  exact Nat.xor_comm _ _
theorem Ind.symm {n m : Nat} (h : Ind n m) : Ind m n := by
  rcases h with h | h
  · exact .inl h.symm
  · right
    rw [LN_comm m n 1, LN_comm m n 2, LN_comm m n 3, LN_comm m n 4, LN_comm m n 5, LN_comm m n 6, LN_comm m n 7]
    exact h
theorem dataB_mod (m : Nat) : dataB m = dataB (m % 256) := by
  unfold dataB
  refine List.map_congr_left (fun i _ => ?_)
  unfold dataAt
  refine UInt8.toNat_inj.1 ?_
  rw [UInt8.toNat_ofNat', UInt8.toNat_ofNat', Nat.mul_mod, Nat.mul_mod (m % 256) (i % 7 + 1), Nat.mod_mod]
theorem LN_mod (n m j : Nat) : LN n m j = LN n (m % 256) j := by
  rw [LN_eq, LN_eq]
  congr 2
  refine List.map_congr_left (fun i _ => ?_)
  have : ∀ k, (m * k) % 256 = ((m % 256) * k) % 256 := fun k => by rw [Nat.mul_mod, Nat.mul_mod (m % 256) k, Nat.mod_mod]
  show (n * (_ % 7 + 1)) % 256 ^^^ (m * (_ % 7 + 1)) % 256 = (n * (_ % 7 + 1)) % 256 ^^^ ((m % 256) * (_ % 7 + 1)) % 256
  rw [this]
theorem ind_all (n m : Nat) (hn : n = 1 ∨ n = 2) : Ind n m := by
  by_cases e : m % 256 = n
  · left; rw [dataB_mod m, e]
  · right
    have := chk_all n (m % 256) hn (Nat.mod_lt _ (by omega)) e
    rw [chk_eq] at this
    rw [LN_mod n m 1, LN_mod n m 2, LN_mod n m 3, LN_mod n m 4, LN_mod n m 5, LN_mod n m 6, LN_mod n m 7]
    exact this
theorem mix {P Q : PgV} {n m t u : Nat} {Z : List UInt8} (hP : P.d = dataB n) (hQ : Q.d = dataB m) (hI : Ind n m) (hZ : Z.length = 512) (h0 : secL Z 0 = secL (imgB P t) 0)
    (hj : ∀ j, 1 ≤ j → j < 8 → secL Z j = secL (imgB P t) j ∨ secL Z j = secL (imgB Q u) j) (hok : pgOk Z = true) : Z = imgB P t := by
  have lP : P.d.length = 480 := by rw [hP, dataB_length]
  have lQ : Q.d.length = 480 := by rw [hQ, dataB_length]
  have hX := imgB_length P t lP
  rcases hI with hI | hI
  · refine bytes_of_secs hZ hX (fun j hj8 => ?_)
    by_cases e : j = 0
    · subst e; exact h0
    · rcases hj j (by omega) hj8 with h | h
      · exact h
      · rw [h, img_sec lQ (by omega), img_sec lP (by omega), hP, hQ, hI]
  · have hZi : Z = imgB (pgX Z) (pgTurn Z) := by
      unfold pgOk at hok
      rw [Bool.and_eq_true] at hok
      exact (eq_of_beq hok.2).symm
    have hZd : (pgX Z).d.length = 480 := by show (Z.drop 32).length = 480; rw [List.length_drop, hZ]
    have s1 : (Z.drop 28).take 4 = putB 4 (crcN (zc Z)) := by
      have := img_sum (x := pgX Z) (k := pgTurn Z) hZd
      rwa [← hZi] at this
    have s2 := img_sum (x := P) (k := t) lP
    rw [sec0_sum, h0, ← sec0_sum, s2] at s1
    have hcr : crcN (zc (imgB P t)) = crcN (zc Z) := by
      have := congrArg getN s1
      rw [getN_putB 4 _ (by omega), getN_putB 4 _ (by omega)] at this
      have l1 := crcN_lt (zc (imgB P t))
      have l2 := crcN_lt (zc Z)
      rw [Nat.mod_eq_of_lt (by omega), Nat.mod_eq_of_lt (by omega)] at this
      exact this
    have hdf := crc_diff (by rw [zc_length _ hX, zc_length _ hZ]) hcr
    have hch := xchunks_flatten 8 (nats (zc (imgB P t))) (nats (zc Z)) (by rw [nats_length, zc_length _ hX]) (by rw [nats_length, zc_length _ hZ])
    have hsc := xchunks_sec (zc (imgB P t)) (zc Z) 8 0
    rw [Nat.mul_zero, List.drop_zero, List.drop_zero] at hsc
    rw [← hch, hsc, foldN_blocks] at hdf
    have hlen : ∀ j, j < 8 → (xorL (nats (secL (zc (imgB P t)) (0 + j))) (nats (secL (zc Z) (0 + j)))).length = 64 := by
      intro j hj8
      unfold xorL secL
      rw [List.length_zipWith, nats_length, nats_length, List.length_take, List.length_take, List.length_drop, List.length_drop, zc_length _ hX, zc_length _ hZ]
      omega
    have e0 : xorL (nats (secL (zc (imgB P t)) (0 + 0))) (nats (secL (zc Z) (0 + 0))) = zrs 64 := by
      have : secL (zc Z) 0 = secL (zc (imgB P t)) 0 := by
        refine List.ext_getElem? (fun i => ?_)
        have hi := congrArg (fun l => l[i]?) h0
        simp only [secL, Nat.mul_zero, List.drop_zero] at hi ⊢
        unfold zc
        rw [List.getElem?_take, List.getElem?_take] at hi ⊢
        by_cases hi64 : i < 64
        · rw [if_pos hi64, if_pos hi64] at hi ⊢
          rw [splice_get _ _ _ _ (by rw [zeros_length]; omega), splice_get _ _ _ _ (by rw [zeros_length]; omega), hi]
        · rw [if_neg hi64, if_neg hi64]
      rw [Nat.zero_add, this, xorL_self, nats_length]
      unfold secL
      rw [List.length_take, List.length_drop, zc_length _ hX]; rfl
    have hb : ∀ j, 1 ≤ j → j < 8 → foldN (foldN 0 (xorL (nats (secL (zc (imgB P t)) (0 + j))) (nats (secL (zc Z) (0 + j))))) (zrs (64 * (7 - j))) = if decide (secL Z j ≠ secL (imgB P t) j) = true then LN n m j else 0 := by
      intro j h1 h8
      rw [Nat.zero_add, zc_sec _ hX j h1, zc_sec _ hZ j h1]
      by_cases e : secL Z j = secL (imgB P t) j
      · rw [if_neg (by simp [e]), e, xorL_self, foldN0_zrs]
      · rw [if_pos (by simp [e])]
        rcases hj j h1 h8 with h | h
        · exact absurd h e
        · rw [h]; exact sec_LN hP hQ h1 h8
    have hx : xors [(decide (secL Z 1 ≠ secL (imgB P t) 1), LN n m 1), (decide (secL Z 2 ≠ secL (imgB P t) 2), LN n m 2), (decide (secL Z 3 ≠ secL (imgB P t) 3), LN n m 3), (decide (secL Z 4 ≠ secL (imgB P t) 4), LN n m 4), (decide (secL Z 5 ≠ secL (imgB P t) 5), LN n m 5), (decide (secL Z 6 ≠ secL (imgB P t) 6), LN n m 6), (decide (secL Z 7 ≠ secL (imgB P t) 7), LN n m 7)] = 0 := by
      rw [← hdf]
      have hr : (List.range 8) = [0, 1, 2, 3, 4, 5, 6, 7] := rfl
      rw [hr]
      simp only [List.map_cons, List.map_nil, blocks, List.flatten_cons, List.flatten_nil, List.length_append, List.length_nil, hlen 1 (by omega), hlen 2 (by omega), hlen 3 (by omega), hlen 4 (by omega), hlen 5 (by omega), hlen 6 (by omega), hlen 7 (by omega), Nat.add_zero]
      rw [e0, foldN0_zrs, Nat.zero_xor]
      have b1 := hb 1 (by omega) (by omega)
      have b2 := hb 2 (by omega) (by omega)
      have b3 := hb 3 (by omega) (by omega)
      have b4 := hb 4 (by omega) (by omega)
      have b5 := hb 5 (by omega) (by omega)
      have b6 := hb 6 (by omega) (by omega)
      have b7 := hb 7 (by omega) (by omega)
      simp only [show 64 * (7 - 1) = 64 + (64 + (64 + (64 + (64 + 64)))) from rfl, show 64 * (7 - 2) = 64 + (64 + (64 + (64 + 64))) from rfl, show 64 * (7 - 3) = 64 + (64 + (64 + 64)) from rfl, show 64 * (7 - 4) = 64 + (64 + 64) from rfl, show 64 * (7 - 5) = 64 + 64 from rfl, show 64 * (7 - 6) = 64 from rfl, show 64 * (7 - 7) = 0 from rfl] at b1 b2 b3 b4 b5 b6 b7
      rw [b1, b2, b3, b4, b5, b6, b7]; rfl
    have hI' : indep (([(decide (secL Z 1 ≠ secL (imgB P t) 1), LN n m 1), (decide (secL Z 2 ≠ secL (imgB P t) 2), LN n m 2), (decide (secL Z 3 ≠ secL (imgB P t) 3), LN n m 3), (decide (secL Z 4 ≠ secL (imgB P t) 4), LN n m 4), (decide (secL Z 5 ≠ secL (imgB P t) 5), LN n m 5), (decide (secL Z 6 ≠ secL (imgB P t) 6), LN n m 6), (decide (secL Z 7 ≠ secL (imgB P t) 7), LN n m 7)] : List (Bool × Nat)).map (·.2)) false 0 = true := hI
    have hsp := (indep_spec _ false 0 hI' (by rw [Nat.zero_xor]; exact hx)).2
    refine bytes_of_secs hZ hX (fun j hj8 => ?_)
    have k : ∀ j v, (decide (secL Z j ≠ secL (imgB P t) j), v) ∈ [(decide (secL Z 1 ≠ secL (imgB P t) 1), LN n m 1), (decide (secL Z 2 ≠ secL (imgB P t) 2), LN n m 2), (decide (secL Z 3 ≠ secL (imgB P t) 3), LN n m 3), (decide (secL Z 4 ≠ secL (imgB P t) 4), LN n m 4), (decide (secL Z 5 ≠ secL (imgB P t) 5), LN n m 5), (decide (secL Z 6 ≠ secL (imgB P t) 6), LN n m 6), (decide (secL Z 7 ≠ secL (imgB P t) 7), LN n m 7)] → secL Z j = secL (imgB P t) j := fun j v hm => by
      have := hsp _ hm
      simpa using this
    rcases (by omega : j = 0 ∨ j = 1 ∨ j = 2 ∨ j = 3 ∨ j = 4 ∨ j = 5 ∨ j = 6 ∨ j = 7) with rfl | rfl | rfl | rfl | rfl | rfl | rfl | rfl
    · exact h0
    · exact k 1 (LN n m 1) (.head _)
    · exact k 2 (LN n m 2) (.tail _ (.head _))
    · exact k 3 (LN n m 3) (.tail _ (.tail _ (.head _)))
    · exact k 4 (LN n m 4) (.tail _ (.tail _ (.tail _ (.head _))))
    · exact k 5 (LN n m 5) (.tail _ (.tail _ (.tail _ (.tail _ (.head _)))))
    · exact k 6 (LN n m 6) (.tail _ (.tail _ (.tail _ (.tail _ (.tail _ (.head _))))))
    · exact k 7 (LN n m 7) (.tail _ (.tail _ (.tail _ (.tail _ (.tail _ (.tail _ (.head _)))))))
end Go.Proofs.YtilclfeaolhoeaaDoor
