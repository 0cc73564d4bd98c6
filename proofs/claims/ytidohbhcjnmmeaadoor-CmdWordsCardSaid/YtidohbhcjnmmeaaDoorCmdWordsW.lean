/-
  CmdWords: each command takes just as many numbers as it says.
-/
import Derived.Test.YtidohbhcjnmmeaaDoorCmdWordsLaw
namespace Go.Proofs.YtidohbhcjnmmeaaDoor
set_option linter.unusedSimpArgs false
set_option linter.unusedVariables false
open Go.RowKit

theorem wCells_tbl : #[.string ⟨#[110, 111, 100, 101]⟩, .int .i64 2, .bool false, .string ⟨#[109, 111, 118, 101]⟩, .int .i64 3, .bool false, .string ⟨#[114, 101, 109, 110, 111, 100, 101]⟩, .int .i64 1, .bool false, .string ⟨#[101, 100, 103, 101]⟩, .int .i64 6, .bool true, .string ⟨#[110, 101, 119, 101, 100, 103, 101]⟩, .int .i64 6, .bool true, .string ⟨#[114, 101, 109, 101, 100, 103, 101]⟩, .int .i64 1, .bool false, .string ⟨#[110, 101, 119, 114, 101, 109]⟩, .int .i64 1, .bool false, .string ⟨#[99, 104, 97, 110, 103, 101]⟩, .int .i64 5, .bool true, .string ⟨#[115, 112, 108, 105, 116]⟩, .int .i64 3, .bool false, .string ⟨#[110, 101, 119, 115, 112, 108, 105, 116]⟩, .int .i64 3, .bool false, .string ⟨#[104, 101, 97, 108]⟩, .int .i64 2, .bool false, .string ⟨#[110, 101, 119, 104, 101, 97, 108]⟩, .int .i64 2, .bool false, .string ⟨#[98, 101, 103, 105, 110]⟩, .int .i64 0, .bool false, .string ⟨#[99, 111, 109, 109, 105, 116]⟩, .int .i64 0, .bool false, .string ⟨#[97, 98, 111, 114, 116]⟩, .int .i64 0, .bool false, .string ⟨#[115, 97, 118, 101]⟩, .int .i64 0, .bool false, .string ⟨#[98, 97, 99, 107]⟩, .int .i64 1, .bool false, .string ⟨#[97, 116]⟩, .int .i64 2, .bool false, .string ⟨#[114, 111, 117, 110, 100]⟩, .int .i64 1, .bool false, .string ⟨#[114, 105, 110, 103, 115]⟩, .int .i64 1, .bool false, .string ⟨#[119, 105, 110, 100, 111, 119]⟩, .int .i64 4, .bool false, .string ⟨#[112, 108, 97, 110]⟩, .int .i64 0, .bool false, .string ⟨#[99, 104, 101, 99, 107]⟩, .int .i64 0, .bool false, .string ⟨#[99, 111, 117, 110, 116]⟩, .int .i64 0, .bool false] = (wCells tbl).toArray := rfl
theorem len_rows (w : World) (A : Option Addr) (n c : Nat) : (Builtin.len_ #[23] 3 #[Value.slice A n c]).run Tryd.prog w = .ok (.int .i64 n) w := by go_simp
/-- What CmdWords asks of the second line. -/
theorem words_cases {x : Shp} {m : Nat} (hm : m ≤ 15) (z : Int) (hx : x ∈ tbl) : ∃ er, (parseC (ln x.word (dgs z m))).2 = er ∧
    ((m = x.num ∧ er = 0) ∨ (m ≠ x.num ∧ x.more = false ∧ er = 3) ∨ (m ≠ x.num ∧ x.more = true ∧ m + 2 < x.num ∧ er = 3) ∨
      (m ≠ x.num ∧ x.more = true ∧ x.num ≤ m + 2 ∧ ((m : Int) - (x.num : Int)).tmod 2 = 0 ∧ er = 0) ∨
      (m ≠ x.num ∧ x.more = true ∧ x.num ≤ m + 2 ∧ ((m : Int) - (x.num : Int)).tmod 2 = 1 ∧ er = 3) ∨
      (m ≠ x.num ∧ x.more = true ∧ x.num ≤ m + 2 ∧ ((m : Int) - (x.num : Int)).tmod 2 = -1 ∧ er = 3)) := by
  refine ⟨_, rfl, ?_⟩
  rw [word_parse hx z hm]
  by_cases h : m = x.num
  · left; subst h; rw [if_pos (fits_num x)]; exact ⟨rfl, rfl⟩
  · cases hmo : x.more with
    | false => right; left; rw [fits_no h hmo]; exact ⟨h, rfl, rfl⟩
    | true =>
      rw [fits_more hm hmo]
      by_cases h2 : x.num ≤ m + 2
      · have h3 : ((m : Int) - (x.num : Int)).tmod 2 < 2 := Int.tmod_lt_of_pos _ (by decide)
        have h4 : -2 < ((m : Int) - (x.num : Int)).tmod 2 := Int.lt_tmod_of_pos _ (by decide)
        generalize ((m : Int) - (x.num : Int)).tmod 2 = t at *
        have : t = 0 ∨ t = 1 ∨ t = -1 := by omega
        rcases this with h5 | h5 | h5 <;> subst h5
        · right; right; right; left; exact ⟨h, rfl, h2, rfl, by rw [if_pos (decide_eq_true ⟨h2, rfl⟩)]⟩
        · right; right; right; right; left; exact ⟨h, rfl, h2, rfl, by rw [if_neg (fun e => absurd (of_decide_eq_true e).2 (by decide))]⟩
        · right; right; right; right; right; exact ⟨h, rfl, h2, rfl, by rw [if_neg (fun e => absurd (of_decide_eq_true e).2 (by decide))]⟩
      · right; right; left; exact ⟨h, rfl, by omega, by rw [if_neg (fun e => absurd (of_decide_eq_true e).1 h2)]⟩

set_option maxHeartbeats 12800000 in
set_option maxRecDepth 100000 in
theorem CmdWords_row (k n z : Int) (w : World) (he : Env w) : Calls Tryd.prog 3 #[.int .i64 k, .int .i64 n, .int .i64 z] w fun e w' => e = .returned (.bool true) ∧ Fr Nob w w' := by
  obtain ⟨y, hy, hy0, hy1⟩ : ∃ y, bits .and .i64 k 255 = y ∧ 0 ≤ y ∧ y < 256 := ⟨k % 256, i64_and255 k, by omega, by omega⟩
  obtain ⟨j, hj, hj24⟩ : ∃ j : Nat, y.tmod 24 = j ∧ j < 24 := ⟨y.toNat % 24, by rw [Int.tmod_eq_emod_of_nonneg hy0]; omega, by omega⟩
  obtain ⟨m, hm, hm15⟩ : ∃ m : Nat, bits .and .i64 n 15 = m ∧ m ≤ 15 := ⟨(n % 16).toNat, by rw [i64_and15]; omega, by omega⟩
  obtain ⟨x, hx⟩ : ∃ x, tbl[j]? = some x := ⟨_, List.getElem?_eq_getElem (by simpa [tbl] using hj24)⟩
  have hxm := List.mem_of_getElem? hx
  have qL := len_rows
  obtain ⟨er, her, hcase⟩ := words_cases hm15 z hxm
  have hnum := num_in x hxm
  have hw0 := word_parse hxm z (m := x.num) (by omega)
  rw [if_pos (fits_num x)] at hw0
  have hok := word_ok x z x.num
  have hln := word_line hxm z
  have htx := word_text hxm z
  have g0 := wCells_get tbl j 0 x hx (by decide)
  have g1 := wCells_get tbl j 1 x hx (by decide)
  have g2 := wCells_get tbl j 2 x hx (by decide)
  clear hx hxm
  obtain ⟨c, hc⟩ : ∃ c, x.made (dgs z x.num) = c := ⟨_, rfl⟩
  rw [hc] at hw0 hok hln htx
  clear hc
  obtain ⟨wd, hwd⟩ : ∃ wd, x.word = wd := ⟨_, rfl⟩
  obtain ⟨nm, hnm⟩ : ∃ nm, x.num = nm := ⟨_, rfl⟩
  obtain ⟨mo, hmo⟩ : ∃ mo, x.more = mo := ⟨_, rfl⟩
  rw [hwd] at her hnum hw0 htx g0 g1 g2
  rw [hnm] at hcase hnum hw0 htx g0 g1 g2
  rw [hmo] at hcase g0 g1 g2
  obtain ⟨hn6, hwl, _⟩ := hnum
  have hbR : Blk ((w.alloc (.cells #[.int .i64 z] 3)).alloc (.cells #[.string ⟨#[110, 111, 100, 101]⟩, .int .i64 2, .bool false, .string ⟨#[109, 111, 118, 101]⟩, .int .i64 3, .bool false, .string ⟨#[114, 101, 109, 110, 111, 100, 101]⟩, .int .i64 1, .bool false, .string ⟨#[101, 100, 103, 101]⟩, .int .i64 6, .bool true, .string ⟨#[110, 101, 119, 101, 100, 103, 101]⟩, .int .i64 6, .bool true, .string ⟨#[114, 101, 109, 101, 100, 103, 101]⟩, .int .i64 1, .bool false, .string ⟨#[110, 101, 119, 114, 101, 109]⟩, .int .i64 1, .bool false, .string ⟨#[99, 104, 97, 110, 103, 101]⟩, .int .i64 5, .bool true, .string ⟨#[115, 112, 108, 105, 116]⟩, .int .i64 3, .bool false, .string ⟨#[110, 101, 119, 115, 112, 108, 105, 116]⟩, .int .i64 3, .bool false, .string ⟨#[104, 101, 97, 108]⟩, .int .i64 2, .bool false, .string ⟨#[110, 101, 119, 104, 101, 97, 108]⟩, .int .i64 2, .bool false, .string ⟨#[98, 101, 103, 105, 110]⟩, .int .i64 0, .bool false, .string ⟨#[99, 111, 109, 109, 105, 116]⟩, .int .i64 0, .bool false, .string ⟨#[97, 98, 111, 114, 116]⟩, .int .i64 0, .bool false, .string ⟨#[115, 97, 118, 101]⟩, .int .i64 0, .bool false, .string ⟨#[98, 97, 99, 107]⟩, .int .i64 1, .bool false, .string ⟨#[97, 116]⟩, .int .i64 2, .bool false, .string ⟨#[114, 111, 117, 110, 100]⟩, .int .i64 1, .bool false, .string ⟨#[114, 105, 110, 103, 115]⟩, .int .i64 1, .bool false, .string ⟨#[119, 105, 110, 100, 111, 119]⟩, .int .i64 4, .bool false, .string ⟨#[112, 108, 97, 110]⟩, .int .i64 0, .bool false, .string ⟨#[99, 104, 101, 99, 107]⟩, .int .i64 0, .bool false, .string ⟨#[99, 111, 117, 110, 116]⟩, .int .i64 0, .bool false] 22)) (w.heap.size + 1) 22 (wCells tbl).toArray := by
    have : Blk ((w.alloc (.cells #[.int .i64 z] 3)).alloc (.cells #[.string ⟨#[110, 111, 100, 101]⟩, .int .i64 2, .bool false, .string ⟨#[109, 111, 118, 101]⟩, .int .i64 3, .bool false, .string ⟨#[114, 101, 109, 110, 111, 100, 101]⟩, .int .i64 1, .bool false, .string ⟨#[101, 100, 103, 101]⟩, .int .i64 6, .bool true, .string ⟨#[110, 101, 119, 101, 100, 103, 101]⟩, .int .i64 6, .bool true, .string ⟨#[114, 101, 109, 101, 100, 103, 101]⟩, .int .i64 1, .bool false, .string ⟨#[110, 101, 119, 114, 101, 109]⟩, .int .i64 1, .bool false, .string ⟨#[99, 104, 97, 110, 103, 101]⟩, .int .i64 5, .bool true, .string ⟨#[115, 112, 108, 105, 116]⟩, .int .i64 3, .bool false, .string ⟨#[110, 101, 119, 115, 112, 108, 105, 116]⟩, .int .i64 3, .bool false, .string ⟨#[104, 101, 97, 108]⟩, .int .i64 2, .bool false, .string ⟨#[110, 101, 119, 104, 101, 97, 108]⟩, .int .i64 2, .bool false, .string ⟨#[98, 101, 103, 105, 110]⟩, .int .i64 0, .bool false, .string ⟨#[99, 111, 109, 109, 105, 116]⟩, .int .i64 0, .bool false, .string ⟨#[97, 98, 111, 114, 116]⟩, .int .i64 0, .bool false, .string ⟨#[115, 97, 118, 101]⟩, .int .i64 0, .bool false, .string ⟨#[98, 97, 99, 107]⟩, .int .i64 1, .bool false, .string ⟨#[97, 116]⟩, .int .i64 2, .bool false, .string ⟨#[114, 111, 117, 110, 100]⟩, .int .i64 1, .bool false, .string ⟨#[114, 105, 110, 103, 115]⟩, .int .i64 1, .bool false, .string ⟨#[119, 105, 110, 100, 111, 119]⟩, .int .i64 4, .bool false, .string ⟨#[112, 108, 97, 110]⟩, .int .i64 0, .bool false, .string ⟨#[99, 104, 101, 99, 107]⟩, .int .i64 0, .bool false, .string ⟨#[99, 111, 117, 110, 116]⟩, .int .i64 0, .bool false] 22)) (w.alloc (.cells #[.int .i64 z] 3)).heap.size 22 #[.string ⟨#[110, 111, 100, 101]⟩, .int .i64 2, .bool false, .string ⟨#[109, 111, 118, 101]⟩, .int .i64 3, .bool false, .string ⟨#[114, 101, 109, 110, 111, 100, 101]⟩, .int .i64 1, .bool false, .string ⟨#[101, 100, 103, 101]⟩, .int .i64 6, .bool true, .string ⟨#[110, 101, 119, 101, 100, 103, 101]⟩, .int .i64 6, .bool true, .string ⟨#[114, 101, 109, 101, 100, 103, 101]⟩, .int .i64 1, .bool false, .string ⟨#[110, 101, 119, 114, 101, 109]⟩, .int .i64 1, .bool false, .string ⟨#[99, 104, 97, 110, 103, 101]⟩, .int .i64 5, .bool true, .string ⟨#[115, 112, 108, 105, 116]⟩, .int .i64 3, .bool false, .string ⟨#[110, 101, 119, 115, 112, 108, 105, 116]⟩, .int .i64 3, .bool false, .string ⟨#[104, 101, 97, 108]⟩, .int .i64 2, .bool false, .string ⟨#[110, 101, 119, 104, 101, 97, 108]⟩, .int .i64 2, .bool false, .string ⟨#[98, 101, 103, 105, 110]⟩, .int .i64 0, .bool false, .string ⟨#[99, 111, 109, 109, 105, 116]⟩, .int .i64 0, .bool false, .string ⟨#[97, 98, 111, 114, 116]⟩, .int .i64 0, .bool false, .string ⟨#[115, 97, 118, 101]⟩, .int .i64 0, .bool false, .string ⟨#[98, 97, 99, 107]⟩, .int .i64 1, .bool false, .string ⟨#[97, 116]⟩, .int .i64 2, .bool false, .string ⟨#[114, 111, 117, 110, 100]⟩, .int .i64 1, .bool false, .string ⟨#[114, 105, 110, 103, 115]⟩, .int .i64 1, .bool false, .string ⟨#[119, 105, 110, 100, 111, 119]⟩, .int .i64 4, .bool false, .string ⟨#[112, 108, 97, 110]⟩, .int .i64 0, .bool false, .string ⟨#[99, 104, 101, 99, 107]⟩, .int .i64 0, .bool false, .string ⟨#[99, 111, 117, 110, 116]⟩, .int .i64 0, .bool false] := Blk.new _ _ _
    rw [World.size_alloc, wCells_tbl] at this
    rw [wCells_tbl]
    exact this
  have d0 := hbR.cell (j * 3 + 0)
  have d1 := hbR.cell (j * 3 + 1)
  have d2 := hbR.cell (j * 3 + 2)
  simp only [List.getElem?_toArray] at d0 d1 d2
  rw [g0] at d0
  rw [g1] at d1
  rw [g2] at d2
  simp only [List.getElem?_cons_zero, List.getElem?_cons_succ, Nat.add_zero] at d0 d1 d2
  have HF0 : Hid (Fr Nob w (((w.alloc (.cells #[.int .i64 z] 3)).alloc (.cells #[.string ⟨#[110, 111, 100, 101]⟩, .int .i64 2, .bool false, .string ⟨#[109, 111, 118, 101]⟩, .int .i64 3, .bool false, .string ⟨#[114, 101, 109, 110, 111, 100, 101]⟩, .int .i64 1, .bool false, .string ⟨#[101, 100, 103, 101]⟩, .int .i64 6, .bool true, .string ⟨#[110, 101, 119, 101, 100, 103, 101]⟩, .int .i64 6, .bool true, .string ⟨#[114, 101, 109, 101, 100, 103, 101]⟩, .int .i64 1, .bool false, .string ⟨#[110, 101, 119, 114, 101, 109]⟩, .int .i64 1, .bool false, .string ⟨#[99, 104, 97, 110, 103, 101]⟩, .int .i64 5, .bool true, .string ⟨#[115, 112, 108, 105, 116]⟩, .int .i64 3, .bool false, .string ⟨#[110, 101, 119, 115, 112, 108, 105, 116]⟩, .int .i64 3, .bool false, .string ⟨#[104, 101, 97, 108]⟩, .int .i64 2, .bool false, .string ⟨#[110, 101, 119, 104, 101, 97, 108]⟩, .int .i64 2, .bool false, .string ⟨#[98, 101, 103, 105, 110]⟩, .int .i64 0, .bool false, .string ⟨#[99, 111, 109, 109, 105, 116]⟩, .int .i64 0, .bool false, .string ⟨#[97, 98, 111, 114, 116]⟩, .int .i64 0, .bool false, .string ⟨#[115, 97, 118, 101]⟩, .int .i64 0, .bool false, .string ⟨#[98, 97, 99, 107]⟩, .int .i64 1, .bool false, .string ⟨#[97, 116]⟩, .int .i64 2, .bool false, .string ⟨#[114, 111, 117, 110, 100]⟩, .int .i64 1, .bool false, .string ⟨#[114, 105, 110, 103, 115]⟩, .int .i64 1, .bool false, .string ⟨#[119, 105, 110, 100, 111, 119]⟩, .int .i64 4, .bool false, .string ⟨#[112, 108, 97, 110]⟩, .int .i64 0, .bool false, .string ⟨#[99, 104, 101, 99, 107]⟩, .int .i64 0, .bool false, .string ⟨#[99, 111, 117, 110, 116]⟩, .int .i64 0, .bool false] 22)).alloc (.cells #[.string (tx wd), .int .i64 nm, .bool mo] 22))) := (((Fr.refl _ _).alloc _).alloc _).alloc _
  have HBr : Hid (Blk (((w.alloc (.cells #[.int .i64 z] 3)).alloc (.cells #[.string ⟨#[110, 111, 100, 101]⟩, .int .i64 2, .bool false, .string ⟨#[109, 111, 118, 101]⟩, .int .i64 3, .bool false, .string ⟨#[114, 101, 109, 110, 111, 100, 101]⟩, .int .i64 1, .bool false, .string ⟨#[101, 100, 103, 101]⟩, .int .i64 6, .bool true, .string ⟨#[110, 101, 119, 101, 100, 103, 101]⟩, .int .i64 6, .bool true, .string ⟨#[114, 101, 109, 101, 100, 103, 101]⟩, .int .i64 1, .bool false, .string ⟨#[110, 101, 119, 114, 101, 109]⟩, .int .i64 1, .bool false, .string ⟨#[99, 104, 97, 110, 103, 101]⟩, .int .i64 5, .bool true, .string ⟨#[115, 112, 108, 105, 116]⟩, .int .i64 3, .bool false, .string ⟨#[110, 101, 119, 115, 112, 108, 105, 116]⟩, .int .i64 3, .bool false, .string ⟨#[104, 101, 97, 108]⟩, .int .i64 2, .bool false, .string ⟨#[110, 101, 119, 104, 101, 97, 108]⟩, .int .i64 2, .bool false, .string ⟨#[98, 101, 103, 105, 110]⟩, .int .i64 0, .bool false, .string ⟨#[99, 111, 109, 109, 105, 116]⟩, .int .i64 0, .bool false, .string ⟨#[97, 98, 111, 114, 116]⟩, .int .i64 0, .bool false, .string ⟨#[115, 97, 118, 101]⟩, .int .i64 0, .bool false, .string ⟨#[98, 97, 99, 107]⟩, .int .i64 1, .bool false, .string ⟨#[97, 116]⟩, .int .i64 2, .bool false, .string ⟨#[114, 111, 117, 110, 100]⟩, .int .i64 1, .bool false, .string ⟨#[114, 105, 110, 103, 115]⟩, .int .i64 1, .bool false, .string ⟨#[119, 105, 110, 100, 111, 119]⟩, .int .i64 4, .bool false, .string ⟨#[112, 108, 97, 110]⟩, .int .i64 0, .bool false, .string ⟨#[99, 104, 101, 99, 107]⟩, .int .i64 0, .bool false, .string ⟨#[99, 111, 117, 110, 116]⟩, .int .i64 0, .bool false] 22)).alloc (.cells #[.string (tx wd), .int .i64 nm, .bool mo] 22)) (w.heap.size + 1 + 1) 22 #[.string (tx wd), .int .i64 nm, .bool mo]) := by
    have : Blk (((w.alloc (.cells #[.int .i64 z] 3)).alloc (.cells #[.string ⟨#[110, 111, 100, 101]⟩, .int .i64 2, .bool false, .string ⟨#[109, 111, 118, 101]⟩, .int .i64 3, .bool false, .string ⟨#[114, 101, 109, 110, 111, 100, 101]⟩, .int .i64 1, .bool false, .string ⟨#[101, 100, 103, 101]⟩, .int .i64 6, .bool true, .string ⟨#[110, 101, 119, 101, 100, 103, 101]⟩, .int .i64 6, .bool true, .string ⟨#[114, 101, 109, 101, 100, 103, 101]⟩, .int .i64 1, .bool false, .string ⟨#[110, 101, 119, 114, 101, 109]⟩, .int .i64 1, .bool false, .string ⟨#[99, 104, 97, 110, 103, 101]⟩, .int .i64 5, .bool true, .string ⟨#[115, 112, 108, 105, 116]⟩, .int .i64 3, .bool false, .string ⟨#[110, 101, 119, 115, 112, 108, 105, 116]⟩, .int .i64 3, .bool false, .string ⟨#[104, 101, 97, 108]⟩, .int .i64 2, .bool false, .string ⟨#[110, 101, 119, 104, 101, 97, 108]⟩, .int .i64 2, .bool false, .string ⟨#[98, 101, 103, 105, 110]⟩, .int .i64 0, .bool false, .string ⟨#[99, 111, 109, 109, 105, 116]⟩, .int .i64 0, .bool false, .string ⟨#[97, 98, 111, 114, 116]⟩, .int .i64 0, .bool false, .string ⟨#[115, 97, 118, 101]⟩, .int .i64 0, .bool false, .string ⟨#[98, 97, 99, 107]⟩, .int .i64 1, .bool false, .string ⟨#[97, 116]⟩, .int .i64 2, .bool false, .string ⟨#[114, 111, 117, 110, 100]⟩, .int .i64 1, .bool false, .string ⟨#[114, 105, 110, 103, 115]⟩, .int .i64 1, .bool false, .string ⟨#[119, 105, 110, 100, 111, 119]⟩, .int .i64 4, .bool false, .string ⟨#[112, 108, 97, 110]⟩, .int .i64 0, .bool false, .string ⟨#[99, 104, 101, 99, 107]⟩, .int .i64 0, .bool false, .string ⟨#[99, 111, 117, 110, 116]⟩, .int .i64 0, .bool false] 22)).alloc (.cells #[.string (tx wd), .int .i64 nm, .bool mo] 22)) ((w.alloc (.cells #[.int .i64 z] 3)).alloc (.cells #[.string ⟨#[110, 111, 100, 101]⟩, .int .i64 2, .bool false, .string ⟨#[109, 111, 118, 101]⟩, .int .i64 3, .bool false, .string ⟨#[114, 101, 109, 110, 111, 100, 101]⟩, .int .i64 1, .bool false, .string ⟨#[101, 100, 103, 101]⟩, .int .i64 6, .bool true, .string ⟨#[110, 101, 119, 101, 100, 103, 101]⟩, .int .i64 6, .bool true, .string ⟨#[114, 101, 109, 101, 100, 103, 101]⟩, .int .i64 1, .bool false, .string ⟨#[110, 101, 119, 114, 101, 109]⟩, .int .i64 1, .bool false, .string ⟨#[99, 104, 97, 110, 103, 101]⟩, .int .i64 5, .bool true, .string ⟨#[115, 112, 108, 105, 116]⟩, .int .i64 3, .bool false, .string ⟨#[110, 101, 119, 115, 112, 108, 105, 116]⟩, .int .i64 3, .bool false, .string ⟨#[104, 101, 97, 108]⟩, .int .i64 2, .bool false, .string ⟨#[110, 101, 119, 104, 101, 97, 108]⟩, .int .i64 2, .bool false, .string ⟨#[98, 101, 103, 105, 110]⟩, .int .i64 0, .bool false, .string ⟨#[99, 111, 109, 109, 105, 116]⟩, .int .i64 0, .bool false, .string ⟨#[97, 98, 111, 114, 116]⟩, .int .i64 0, .bool false, .string ⟨#[115, 97, 118, 101]⟩, .int .i64 0, .bool false, .string ⟨#[98, 97, 99, 107]⟩, .int .i64 1, .bool false, .string ⟨#[97, 116]⟩, .int .i64 2, .bool false, .string ⟨#[114, 111, 117, 110, 100]⟩, .int .i64 1, .bool false, .string ⟨#[114, 105, 110, 103, 115]⟩, .int .i64 1, .bool false, .string ⟨#[119, 105, 110, 100, 111, 119]⟩, .int .i64 4, .bool false, .string ⟨#[112, 108, 97, 110]⟩, .int .i64 0, .bool false, .string ⟨#[99, 104, 101, 99, 107]⟩, .int .i64 0, .bool false, .string ⟨#[99, 111, 117, 110, 116]⟩, .int .i64 0, .bool false] 22)).heap.size 22 #[.string (tx wd), .int .i64 nm, .bool mo] := Blk.new _ _ _
    rw [World.size_alloc, World.size_alloc] at this
    exact this
  have HBw : Hid (Blk (((w.alloc (.cells #[.int .i64 z] 3)).alloc (.cells #[.string ⟨#[110, 111, 100, 101]⟩, .int .i64 2, .bool false, .string ⟨#[109, 111, 118, 101]⟩, .int .i64 3, .bool false, .string ⟨#[114, 101, 109, 110, 111, 100, 101]⟩, .int .i64 1, .bool false, .string ⟨#[101, 100, 103, 101]⟩, .int .i64 6, .bool true, .string ⟨#[110, 101, 119, 101, 100, 103, 101]⟩, .int .i64 6, .bool true, .string ⟨#[114, 101, 109, 101, 100, 103, 101]⟩, .int .i64 1, .bool false, .string ⟨#[110, 101, 119, 114, 101, 109]⟩, .int .i64 1, .bool false, .string ⟨#[99, 104, 97, 110, 103, 101]⟩, .int .i64 5, .bool true, .string ⟨#[115, 112, 108, 105, 116]⟩, .int .i64 3, .bool false, .string ⟨#[110, 101, 119, 115, 112, 108, 105, 116]⟩, .int .i64 3, .bool false, .string ⟨#[104, 101, 97, 108]⟩, .int .i64 2, .bool false, .string ⟨#[110, 101, 119, 104, 101, 97, 108]⟩, .int .i64 2, .bool false, .string ⟨#[98, 101, 103, 105, 110]⟩, .int .i64 0, .bool false, .string ⟨#[99, 111, 109, 109, 105, 116]⟩, .int .i64 0, .bool false, .string ⟨#[97, 98, 111, 114, 116]⟩, .int .i64 0, .bool false, .string ⟨#[115, 97, 118, 101]⟩, .int .i64 0, .bool false, .string ⟨#[98, 97, 99, 107]⟩, .int .i64 1, .bool false, .string ⟨#[97, 116]⟩, .int .i64 2, .bool false, .string ⟨#[114, 111, 117, 110, 100]⟩, .int .i64 1, .bool false, .string ⟨#[114, 105, 110, 103, 115]⟩, .int .i64 1, .bool false, .string ⟨#[119, 105, 110, 100, 111, 119]⟩, .int .i64 4, .bool false, .string ⟨#[112, 108, 97, 110]⟩, .int .i64 0, .bool false, .string ⟨#[99, 104, 101, 99, 107]⟩, .int .i64 0, .bool false, .string ⟨#[99, 111, 117, 110, 116]⟩, .int .i64 0, .bool false] 22)).alloc (.cells #[.string (tx wd), .int .i64 nm, .bool mo] 22)) w.heap.size 3 #[.int .i64 z]) := by
    have : Blk (w.alloc (.cells #[.int .i64 z] 3)) w.heap.size 3 #[.int .i64 z] := Blk.new _ _ _
    exact (this.alloc _).alloc _
  have HW : Hid (∀ W, Blk W (w.heap.size + 1 + 1) 22 #[.string (tx wd), .int .i64 nm, .bool mo] → Blk W w.heap.size 3 #[.int .i64 z] → ∀ N : Nat, N ≤ 15 → Calls Tryd.prog 7 #[.int .i64 N, .pointer (some ⟨w.heap.size + 1 + 1, 0, none⟩), .pointer (some ⟨w.heap.size, 0, none⟩)] W fun e w' => e = .returned (.string (tx (ln wd (dgs z N)))) ∧ Fr Nob W w') := fun W hb hw N hN =>
    (Words1_any (w.heap.size + 1 + 1) w.heap.size wd nm z mo N W hb (by rw [hw.cell 0]; rfl) hN hwl).mono fun _ _ h => ⟨h.1, by rw [h.2]; exact Fr.refl _ _⟩
  have z0 := dgs_size wd z nm
  have z1 := dgs_size wd z m
  obtain ⟨L0, hL0⟩ : ∃ L, ln wd (dgs z nm) = L := ⟨_, rfl⟩
  obtain ⟨L1, hL1⟩ : ∃ L, ln wd (dgs z m) = L := ⟨_, rfl⟩
  have HW0 : Hid (∀ W, Blk W (w.heap.size + 1 + 1) 22 #[.string (tx wd), .int .i64 nm, .bool mo] → Blk W w.heap.size 3 #[.int .i64 z] → Calls Tryd.prog 7 #[.int .i64 nm, .pointer (some ⟨w.heap.size + 1 + 1, 0, none⟩), .pointer (some ⟨w.heap.size, 0, none⟩)] W fun e w' => e = .returned (.string (tx L0)) ∧ Fr Nob W w') := fun W h1 h2 => by
    have := HW.out W h1 h2 nm (by omega)
    rw [hL0] at this
    exact this
  have HWm : Hid (∀ W, Blk W (w.heap.size + 1 + 1) 22 #[.string (tx wd), .int .i64 nm, .bool mo] → Blk W w.heap.size 3 #[.int .i64 z] → Calls Tryd.prog 7 #[.int .i64 m, .pointer (some ⟨w.heap.size + 1 + 1, 0, none⟩), .pointer (some ⟨w.heap.size, 0, none⟩)] W fun e w' => e = .returned (.string (tx L1)) ∧ Fr Nob W w') := fun W h1 h2 => by
    have := HW.out W h1 h2 m (by omega)
    rw [hL1] at this
    exact this
  rw [hL0] at hw0 htx z0
  rw [hL1] at her z1
  have HP0 : Hid (∀ W, Env W → Calls Tryd.prog 9 #[.string (tx L0)] W fun e w' => ∃ v, e = .returned (.tuple #[v, .int .i64 0]) ∧ CmIn w' c v ∧ Fr Nob W w') := fun W hW => by
    have := Parse_any (tx L0) W hW (by show L0.length ≤ _; omega)
    rw [bs_tx, hw0] at this
    exact this
  have HP1 : Hid (∀ W, Env W → Calls Tryd.prog 9 #[.string (tx L1)] W fun e w' => ∃ v, e = .returned (.tuple #[v, .int .i64 er]) ∧ CmIn w' (parseC L1).1 v ∧ Fr Nob W w') := fun W hW => by
    have := Parse_any (tx L1) W hW (by show L1.length ≤ _; omega)
    rw [bs_tx, her] at this
    exact this
  have HT : Hid (∀ v W, Env W → CmIn W c v → Calls Tryd.prog 10 #[v] W fun e w' => e = .returned (.tuple #[.string (tx L0), .int .i64 0]) ∧ Fr Nob W w') := by
    intro v W hE hC
    refine (Text_any c v W hE hC hok hln).mono ?_
    rintro e w' ⟨h1, h2⟩
    rw [htx] at h1
    exact ⟨h1, h2⟩
  obtain ⟨c2, hc2⟩ : ∃ c2, (parseC L1).1 = c2 := ⟨_, rfl⟩
  rw [hc2] at HP1
  have HEn := Lib.hid he
  have HCase := Lib.hid hcase
  clear he hcase hc2 her hw0 htx hok hln hL0 hL1 z0 z1 HW g0 g1 g2 hbR
  obtain ⟨ak, ao, aa, ab, af, al, ⟨ap1, ap2⟩, ⟨aq1, aq2⟩, an⟩ := c
  obtain ⟨bk, bo, ba, bb, bf, bl, ⟨bp1, bp2⟩, ⟨bq1, bq2⟩, bn⟩ := c2
  go_enter Tryd.func3, Tryd.ntmps3
  go_wp2_with fail
  refine (HW0.out _ HBr.out HBw.out).mono ?_
  rintro e w1 ⟨rfl, hf1⟩
  have HB1 := Lib.hid (HBr.out.fr hf1 (fun h => h))
  have HC1 := Lib.hid (HBw.out.fr hf1 (fun h => h))
  have HF1 := Lib.hid (HF0.out.trans hf1)
  clear hf1 d0 d1 d2 HF0 HBr HBw hy hj
  go_wp2_with fail
  refine (HP0.out _ (HEn.out.new HF1.out)).mono ?_
  rintro e w2 ⟨v, rfl, hcm, hf2⟩
  obtain ⟨LA, ca, hv, hcl, hpt⟩ := hcm
  unfold Cm.v at hv
  dsimp only at hv hcl hpt
  subst hv
  have HPt := Lib.hid hpt
  have HB2 := Lib.hid (HB1.out.fr hf2 (fun h => h))
  have HC2 := Lib.hid (HC1.out.fr hf2 (fun h => h))
  have HF2 := Lib.hid (HF1.out.trans hf2)
  have HT2 : Hid (∀ W, Fr Nob w2 W → Calls Tryd.prog 10 #[.agg #[.int .i64 ak, .int .i64 ao, .int .i64 aa, .int .i64 ab, .bool af, .slice LA al.length ca, .int .i64 ap1, .int .i64 ap2, .int .i64 aq1, .int .i64 aq2, .int .i64 an]] W fun e w' => e = .returned (.tuple #[.string (tx L0), .int .i64 0]) ∧ Fr Nob W w') := fun W hW =>
    HT.out _ W ((HEn.out.new HF2.out).new hW) ⟨LA, ca, rfl, hcl, hpt.new hW⟩
  obtain ⟨M, hM⟩ : ∃ M, al.length = M := ⟨_, rfl⟩
  rw [hM] at HT2 ⊢
  have HFa : Hid (Fr Nob w2 (w2.alloc (.cells #[.int .i64 ak, .int .i64 ao, .int .i64 aa, .int .i64 ab, .bool af, .slice LA M ca, .int .i64 ap1, .int .i64 ap2, .int .i64 aq1, .int .i64 aq2, .int .i64 an] 32))) := (Fr.refl _ _).alloc _
  clear hf2 hpt hcl hM HF1 HB1 HC1 HPt HT HP0
  go_wp2_with fail
  refine (HT2.out _ HFa.out).mono ?_
  rintro e w3 ⟨rfl, hf3⟩
  have HB3 := Lib.hid (HB2.out.fr (HFa.out.trans hf3) (fun h => h))
  have HC3 := Lib.hid (HC2.out.fr (HFa.out.trans hf3) (fun h => h))
  have HF3 := Lib.hid (HF2.out.trans (HFa.out.trans hf3))
  clear hf3 HF2 HB2 HC2 HT2 HFa
  have d1 := HB3.out.cell 1
  simp only [List.getElem?_toArray, List.getElem?_cons_zero, List.getElem?_cons_succ] at d1
  have hz := HB3.out.lt
  have hEq : ((tx L0).toList == (tx L0).toList) = true := by simp
  go_wp2_with fail
  refine (HW0.out _ HB3.out HC3.out).mono ?_
  rintro e w4 ⟨rfl, hf4⟩
  have HB4 := Lib.hid (HB3.out.fr hf4 (fun h => h))
  have HC4 := Lib.hid (HC3.out.fr hf4 (fun h => h))
  have HF4 := Lib.hid (HF3.out.trans hf4)
  clear hf4 d1 hz HB3 HC3 HF3
  go_wp2_with fail
  refine (HWm.out _ HB4.out HC4.out).mono ?_
  rintro e w5 ⟨rfl, hf5⟩
  have HB5 := Lib.hid (HB4.out.fr hf5 (fun h => h))
  have HF5 := Lib.hid (HF4.out.trans hf5)
  clear hf5 HB4 HC4 HF4
  go_wp2_with fail
  refine (HP1.out _ (HEn.out.new HF5.out)).mono ?_
  rintro e w6 ⟨v, rfl, hcm, hf6⟩
  obtain ⟨LB, cb, hv, hcl, hpt⟩ := hcm
  unfold Cm.v at hv
  dsimp only at hv hcl hpt
  subst hv
  have HB6 := HB5.out.fr hf6 (fun h => h)
  have HF6 := Lib.hid (HF5.out.trans hf6)
  have d1 := HB6.cell 1
  have d2 := HB6.cell 2
  simp only [List.getElem?_toArray, List.getElem?_cons_zero, List.getElem?_cons_succ] at d1 d2
  have hz := HB6.lt
  obtain ⟨M2, hM2⟩ : ∃ M, bl.length = M := ⟨_, rfl⟩
  rw [hM2]
  have HF7 : Hid (Fr Nob w (w6.alloc (.cells #[.int .i64 bk, .int .i64 bo, .int .i64 ba, .int .i64 bb, .bool bf, .slice LB M2 cb, .int .i64 bp1, .int .i64 bp2, .int .i64 bq1, .int .i64 bq2, .int .i64 bn] 32))) := HF6.out.alloc _
  have HAw := Lib.hid (awake_any _ (HEn.out.new HF7.out))
  have hm0 : (0 : Int) ≤ (m : Int) := by omega
  have hm1 : (m : Int) ≤ 15 := by omega
  have hn0 : (0 : Int) ≤ (nm : Int) := by omega
  have hn1 : (nm : Int) ≤ 6 := by omega
  clear hf6 hcl hpt hM2 HB6 HB5 HF5 HF6
  rcases HCase.out with ⟨h1, h2⟩ | ⟨h1, h2, h3⟩ | ⟨h1, h2, h3, h4⟩ | ⟨h1, h2, h3, h4, h5⟩ | ⟨h1, h2, h3, h4, h5⟩ | ⟨h1, h2, h3, h4, h5⟩
  · subst h1 h2
    clear HCase
    go_wp2_with fail
    refine HAw.out.mono ?_
    rintro e w7 ⟨rfl, hf7⟩
    have HF8 := Lib.hid (HF7.out.trans hf7)
    clear hf7
    go_wp2
    go_ret
    exact ⟨rfl, HF8.out⟩
  · subst h2 h3
    have hne : ¬ (m : Int) = (nm : Int) := by omega
    have hbe : ((m : Int) == (nm : Int)) = false := beq_eq_false_iff_ne.2 hne
    clear HCase
    go_wp2_with fail
    refine HAw.out.mono ?_
    rintro e w7 ⟨rfl, hf7⟩
    have HF8 := Lib.hid (HF7.out.trans hf7)
    clear hf7
    go_wp2
    go_ret
    first
      | exact ⟨rfl, HF8.out⟩
      | exact ⟨(show Ending.returned (.bool (!((m : Int) == (nm : Int)))) = _ by rw [hbe]; rfl), HF8.out⟩
  · subst h2 h4
    have hne : ¬ (m : Int) = (nm : Int) := by omega
    have hbe : ((m : Int) == (nm : Int)) = false := beq_eq_false_iff_ne.2 hne
    have k1 : ¬ (nm : Int) - 2 ≤ (m : Int) := by omega
    clear HCase
    go_wp2_with fail
    refine HAw.out.mono ?_
    rintro e w7 ⟨rfl, hf7⟩
    have HF8 := Lib.hid (HF7.out.trans hf7)
    clear hf7
    go_wp2
    go_ret
    first
      | exact ⟨rfl, HF8.out⟩
      | exact ⟨(show Ending.returned (.bool (!((m : Int) == (nm : Int)))) = _ by rw [hbe]; rfl), HF8.out⟩
  · subst h2 h5
    have hne : ¬ (m : Int) = (nm : Int) := by omega
    have hbe : ((m : Int) == (nm : Int)) = false := beq_eq_false_iff_ne.2 hne
    have k1 : (nm : Int) - 2 ≤ (m : Int) := by omega
    clear HCase
    go_wp2_with fail
    refine HAw.out.mono ?_
    rintro e w7 ⟨rfl, hf7⟩
    have HF8 := Lib.hid (HF7.out.trans hf7)
    clear hf7
    go_wp2
    go_ret
    first
      | exact ⟨rfl, HF8.out⟩
      | exact ⟨(show Ending.returned (.bool (!((m : Int) == (nm : Int)))) = _ by rw [hbe]; rfl), HF8.out⟩
  · subst h2 h5
    have hne : ¬ (m : Int) = (nm : Int) := by omega
    have hbe : ((m : Int) == (nm : Int)) = false := beq_eq_false_iff_ne.2 hne
    have k1 : (nm : Int) - 2 ≤ (m : Int) := by omega
    clear HCase
    go_wp2_with fail
    refine HAw.out.mono ?_
    rintro e w7 ⟨rfl, hf7⟩
    have HF8 := Lib.hid (HF7.out.trans hf7)
    clear hf7
    go_wp2
    go_ret
    first
      | exact ⟨rfl, HF8.out⟩
      | exact ⟨(show Ending.returned (.bool (!((m : Int) == (nm : Int)))) = _ by rw [hbe]; rfl), HF8.out⟩
  · subst h2 h5
    have hne : ¬ (m : Int) = (nm : Int) := by omega
    have hbe : ((m : Int) == (nm : Int)) = false := beq_eq_false_iff_ne.2 hne
    have k1 : (nm : Int) - 2 ≤ (m : Int) := by omega
    clear HCase
    go_wp2_with fail
    refine HAw.out.mono ?_
    rintro e w7 ⟨rfl, hf7⟩
    have HF8 := Lib.hid (HF7.out.trans hf7)
    clear hf7
    go_wp2
    go_ret
    first
      | exact ⟨rfl, HF8.out⟩
      | exact ⟨(show Ending.returned (.bool (!((m : Int) == (nm : Int)))) = _ by rw [hbe]; rfl), HF8.out⟩
end Go.Proofs.YtidohbhcjnmmeaaDoor
