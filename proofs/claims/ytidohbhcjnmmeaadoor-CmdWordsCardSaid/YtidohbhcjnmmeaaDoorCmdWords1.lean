/-
  The line that CmdWords asks for: a word and small numbers.
-/
import Derived.Test.YtidohbhcjnmmeaaDoorCmdAwake
import Derived.Test.YtidohbhcjnmmeaaDoorBase
namespace Go.Proofs.YtidohbhcjnmmeaaDoor
set_option linter.unusedSimpArgs false
set_option linter.unusedVariables false
open Go.RowKit

def dg (z : Int) (k : Nat) : Int := z / 2 ^ (4 * k) % 16 - 7
def dgs (z : Int) (n : Nat) : List Int := (List.range n).map (dg z)
theorem dg_in (z : Int) (k : Nat) : -7 ≤ dg z k ∧ dg z k ≤ 8 := by unfold dg; omega
theorem dgs_length (z : Int) (n : Nat) : (dgs z n).length = n := by simp [dgs]
theorem dgs_small (z : Int) (n : Nat) : ∀ x ∈ dgs z n, -1000000000 < x ∧ x < 1000000000 := fun x hx => by
  obtain ⟨k, _, rfl⟩ := List.mem_map.1 hx
  have := dg_in z k
  omega
theorem dgs_succ (w : List UInt8) (z : Int) (n : Nat) : ln w (dgs z (n + 1)) = ln w (dgs z n) ++ [32] ++ Lib.itoa (dg z n) := by
  simp [ln, dgs, List.range_succ]
theorem dgs_size (w : List UInt8) (z : Int) (n : Nat) : (ln w (dgs z n)).length ≤ w.length + 22 * n := by
  have := ln_length w (dgs z n) (fun x hx => by have := dgs_small z n x hx; exact ⟨by omega, by omega⟩)
  rw [dgs_length] at this
  exact this

set_option maxHeartbeats 3200000 in
set_option maxRecDepth 100000 in
theorem Words1_any (gr gw : Nat) (wd : List UInt8) (n0 z : Int) (more : Bool) (N : Nat) (w : World) (hr : Blk w gr 22 #[.string (tx wd), .int .i64 n0, .bool more]) (hw : w.cell? ⟨gw, 0, none⟩ = some (.int .i64 z)) (hN : N ≤ 15) (hl : wd.length ≤ 20) :
    Calls Tryd.prog 7 #[.int .i64 N, .pointer (some ⟨gr, 0, none⟩), .pointer (some ⟨gw, 0, none⟩)] w fun e w' => e = .returned (.string (tx (ln wd (dgs z N)))) ∧ w' = w := by
  have d0 := hr.cell 0
  simp only [List.getElem?_toArray, List.getElem?_cons_zero, List.getElem?_cons_succ] at d0
  have hzr := hr.lt
  have hzw := cell_lt hw
  dsimp only at hzw
  have HDg := Lib.hid (fun (n : Int) (h0 : -9223372036854775808 ≤ n) (h1 : n ≤ 9223372036854775807) W => (Digits_any n h0 h1 W).mono fun _ _ h => And.intro h.1 h.2.symm)
  clear hr
  go_enter Tryd.func7, Tryd.ntmps7
  go_wp2
  go_loopw [5, 6] (fun s i wr => ∃ k : Nat, k ≤ N ∧ i = .int .i64 k ∧ s = .string (tx (ln wd (dgs z k))) ∧ w = wr) (fun _ i _ => N - (intOf i).toNat)
  case atStart => exact ⟨0, Nat.zero_le _, rfl, by simp [ln, dgs], rfl⟩
  case round =>
    obtain ⟨k, hk, rfl, rfl, rfl⟩ := hrel
    by_cases hlt : k < N
    · have ki : (k : Int) < (N : Int) := by omega
      have kz : (0 : Int) ≤ (k : Int) := by omega
      have HS : Hid (ln wd (dgs z (k + 1)) = ln wd (dgs z k) ++ [32] ++ Lib.itoa (dg z k)) := dgs_succ wd z k
      have hsz := dgs_size wd z k
      obtain ⟨Ls, hLs⟩ : ∃ Ls, ln wd (dgs z k) = Ls := ⟨_, rfl⟩
      rw [hLs] at HS hsz ⊢
      obtain ⟨hd0, hd1⟩ := dg_in z k
      have HD := Lib.hid (HDg.out (dg z k) (by omega) (by omega) w)
      have h7 : wrap64 (bits .and .i64 (z / 2 ^ (4 * k)) 15 - 7) = dg z k := by
        rw [i64_and15]
        have : (z / 2 ^ (4 * k)) % 16 - 7 = dg z k := rfl
        rw [this]
        unfold wrap64
        omega
      obtain ⟨D, hD⟩ : ∃ D, dg z k = D := ⟨_, rfl⟩
      rw [hD] at HD h7 HS hd0 hd1
      have hX : (Lib.itoa D).length ≤ 21 := Lib.itoa_length_le _ (by omega) (by omega)
      obtain ⟨X, hXX⟩ : ∃ X, Lib.itoa D = X := ⟨_, rfl⟩
      rw [hXX] at HD HS hX
      obtain ⟨Le, hLe⟩ : ∃ L, Ls ++ [32] ++ X = L := ⟨_, rfl⟩
      rw [hLe] at HS
      have T1 : tx Ls ++ ⟨#[32]⟩ = tx (Ls ++ [32]) := tx_append Ls [32]
      have T2 : tx (Ls ++ [32]) ++ tx X = tx Le := by rw [tx_append, hLe]
      have S1 : (tx Ls).size ≤ 1000 := by show Ls.length ≤ _; omega
      have S2 : (tx (Ls ++ [32])).size ≤ 1001 := by show (Ls ++ [32]).length ≤ _; rw [List.length_append]; simp; omega
      have S3 : (tx X).size ≤ 21 := hX
      clear hLs hD hXX hLe hsz
      go_wp2_with fail
      refine HD.out.mono ?_
      rintro e w2 ⟨rfl, rfl⟩
      go_wp2
      go_roundw
      case rel => exact ⟨k + 1, by omega, by go_num, by rw [HS.out], trivial⟩
      case measure => simp [intOf]; omega
    · obtain rfl : k = N := by omega
      go_wp2
      go_ret
      exact ⟨rfl, rfl⟩
end Go.Proofs.YtidohbhcjnmmeaaDoor
