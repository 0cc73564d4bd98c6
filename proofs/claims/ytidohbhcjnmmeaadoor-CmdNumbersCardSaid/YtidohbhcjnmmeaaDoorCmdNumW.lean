/-
  CmdNumbers: a number of up to nine digits is read as it is; other spellings are refused.
-/
import Derived.Test.YtidohbhcjnmmeaaDoorCmdAwake
import Derived.Test.YtidohbhcjnmmeaaDoorCmdNumLaw
namespace Go.Proofs.YtidohbhcjnmmeaaDoor
set_option linter.unusedSimpArgs false
set_option linter.unusedVariables false
open Go.RowKit

set_option maxHeartbeats 12800000 in
set_option maxRecDepth 100000 in
theorem CmdNumbers_row (n m : Int) (w : World) (he : Env w) : Calls Tryd.prog 6 #[.int .i64 n, .int .i64 m] w fun e w' => e = .returned (.bool true) ∧ Fr Nob w w' := by
  have qS := len_strs
  have bn : -1000000000 < n.tmod 1000000000 ∧ n.tmod 1000000000 < 1000000000 := ⟨Int.lt_tmod_of_pos _ (by decide), Int.tmod_lt_of_pos _ (by decide)⟩
  have bm : -1000000000 < m.tmod 1000000000 ∧ m.tmod 1000000000 < 1000000000 := ⟨Int.lt_tmod_of_pos _ (by decide), Int.tmod_lt_of_pos _ (by decide)⟩
  obtain ⟨x, hx⟩ : ∃ x, n.tmod 1000000000 = x := ⟨_, rfl⟩
  obtain ⟨y, hy⟩ : ∃ y, m.tmod 1000000000 = y := ⟨_, rfl⟩
  rw [hx] at bn
  rw [hy] at bm
  have hgood := at_good x y bn bm
  have hbad := bad_all x y ⟨by omega, by omega⟩ ⟨by omega, by omega⟩
  have HDx := Lib.hid (fun W => (Digits_any x (by omega) (by omega) W).mono fun _ _ h => And.intro h.1 h.2.symm)
  have HDy := Lib.hid (fun W => (Digits_any y (by omega) (by omega) W).mono fun _ _ h => And.intro h.1 h.2.symm)
  have SA : (Lib.itoa x).length ≤ 21 := Lib.itoa_length_le x (by omega) (by omega)
  have SB : (Lib.itoa y).length ≤ 21 := Lib.itoa_length_le y (by omega) (by omega)
  generalize Lib.itoa x = A at *
  generalize Lib.itoa y = B at *
  have SA : (tx A).size ≤ 21 := SA
  have SB : (tx B).size ≤ 21 := SB
  obtain ⟨a1, Ea1⟩ : ∃ L, [97, 116, 32] ++ A = L := ⟨_, rfl⟩
  have Ta1 : ⟨#[97, 116, 32]⟩ ++ tx A = tx a1 := by rw [← Ea1]; exact tx_append [97, 116, 32] A
  have Sa1 : (tx a1).size ≤ 24 := by have zA : A.length ≤ 21 := SA; show a1.length ≤ _; rw [← Ea1]; simp only [List.length_append, List.length_cons, List.length_nil]; omega
  obtain ⟨a2, Ea2⟩ : ∃ L, a1 ++ [32] = L := ⟨_, rfl⟩
  have Ta2 : tx a1 ++ ⟨#[32]⟩ = tx a2 := by rw [← Ea2]; exact tx_append a1 [32]
  have Sa2 : (tx a2).size ≤ 25 := by have za1 : a1.length ≤ 24 := Sa1; show a2.length ≤ _; rw [← Ea2]; simp only [List.length_append, List.length_cons, List.length_nil]; omega
  obtain ⟨a3, Ea3⟩ : ∃ L, a2 ++ B = L := ⟨_, rfl⟩
  have Ta3 : tx a2 ++ tx B = tx a3 := by rw [← Ea3]; exact tx_append a2 B
  have Sa3 : (tx a3).size ≤ 46 := by have za2 : a2.length ≤ 25 := Sa2; have zB : B.length ≤ 21 := SB; show a3.length ≤ _; rw [← Ea3]; simp only [List.length_append, List.length_cons, List.length_nil]; omega
  obtain ⟨b1, Eb1⟩ : ∃ L, [97, 116, 32, 48] ++ A = L := ⟨_, rfl⟩
  have Tb1 : ⟨#[97, 116, 32, 48]⟩ ++ tx A = tx b1 := by rw [← Eb1]; exact tx_append [97, 116, 32, 48] A
  have Sb1 : (tx b1).size ≤ 25 := by have zA : A.length ≤ 21 := SA; show b1.length ≤ _; rw [← Eb1]; simp only [List.length_append, List.length_cons, List.length_nil]; omega
  obtain ⟨b2, Eb2⟩ : ∃ L, b1 ++ [32] = L := ⟨_, rfl⟩
  have Tb2 : tx b1 ++ ⟨#[32]⟩ = tx b2 := by rw [← Eb2]; exact tx_append b1 [32]
  have Sb2 : (tx b2).size ≤ 26 := by have zb1 : b1.length ≤ 25 := Sb1; show b2.length ≤ _; rw [← Eb2]; simp only [List.length_append, List.length_cons, List.length_nil]; omega
  obtain ⟨b3, Eb3⟩ : ∃ L, b2 ++ B = L := ⟨_, rfl⟩
  have Tb3 : tx b2 ++ tx B = tx b3 := by rw [← Eb3]; exact tx_append b2 B
  have Sb3 : (tx b3).size ≤ 47 := by have zb2 : b2.length ≤ 26 := Sb2; have zB : B.length ≤ 21 := SB; show b3.length ≤ _; rw [← Eb3]; simp only [List.length_append, List.length_cons, List.length_nil]; omega
  obtain ⟨d2, Ed2⟩ : ∃ L, a1 ++ [45, 32] = L := ⟨_, rfl⟩
  have Td2 : tx a1 ++ ⟨#[45, 32]⟩ = tx d2 := by rw [← Ed2]; exact tx_append a1 [45, 32]
  have Sd2 : (tx d2).size ≤ 26 := by have za1 : a1.length ≤ 24 := Sa1; show d2.length ≤ _; rw [← Ed2]; simp only [List.length_append, List.length_cons, List.length_nil]; omega
  obtain ⟨d3, Ed3⟩ : ∃ L, d2 ++ B = L := ⟨_, rfl⟩
  have Td3 : tx d2 ++ tx B = tx d3 := by rw [← Ed3]; exact tx_append d2 B
  have Sd3 : (tx d3).size ≤ 47 := by have zd2 : d2.length ≤ 26 := Sd2; have zB : B.length ≤ 21 := SB; show d3.length ≤ _; rw [← Ed3]; simp only [List.length_append, List.length_cons, List.length_nil]; omega
  obtain ⟨e1, Ee1⟩ : ∃ L, [97, 116, 32, 32] ++ A = L := ⟨_, rfl⟩
  have Te1 : ⟨#[97, 116, 32, 32]⟩ ++ tx A = tx e1 := by rw [← Ee1]; exact tx_append [97, 116, 32, 32] A
  have Se1 : (tx e1).size ≤ 25 := by have zA : A.length ≤ 21 := SA; show e1.length ≤ _; rw [← Ee1]; simp only [List.length_append, List.length_cons, List.length_nil]; omega
  obtain ⟨e2, Ee2⟩ : ∃ L, e1 ++ [32] = L := ⟨_, rfl⟩
  have Te2 : tx e1 ++ ⟨#[32]⟩ = tx e2 := by rw [← Ee2]; exact tx_append e1 [32]
  have Se2 : (tx e2).size ≤ 26 := by have ze1 : e1.length ≤ 25 := Se1; show e2.length ≤ _; rw [← Ee2]; simp only [List.length_append, List.length_cons, List.length_nil]; omega
  obtain ⟨e3, Ee3⟩ : ∃ L, e2 ++ B = L := ⟨_, rfl⟩
  have Te3 : tx e2 ++ tx B = tx e3 := by rw [← Ee3]; exact tx_append e2 B
  have Se3 : (tx e3).size ≤ 47 := by have ze2 : e2.length ≤ 26 := Se2; have zB : B.length ≤ 21 := SB; show e3.length ≤ _; rw [← Ee3]; simp only [List.length_append, List.length_cons, List.length_nil]; omega
  obtain ⟨f4, Ef4⟩ : ∃ L, a3 ++ [32] = L := ⟨_, rfl⟩
  have Tf4 : tx a3 ++ ⟨#[32]⟩ = tx f4 := by rw [← Ef4]; exact tx_append a3 [32]
  have Sf4 : (tx f4).size ≤ 47 := by have za3 : a3.length ≤ 46 := Sa3; show f4.length ≤ _; rw [← Ef4]; simp only [List.length_append, List.length_cons, List.length_nil]; omega
  obtain ⟨g4, Eg4⟩ : ∃ L, a3 ++ [32, 49] = L := ⟨_, rfl⟩
  have Tg4 : tx a3 ++ ⟨#[32, 49]⟩ = tx g4 := by rw [← Eg4]; exact tx_append a3 [32, 49]
  have Sg4 : (tx g4).size ≤ 48 := by have za3 : a3.length ≤ 46 := Sa3; show g4.length ≤ _; rw [← Eg4]; simp only [List.length_append, List.length_cons, List.length_nil]; omega
  obtain ⟨h1, Eh1⟩ : ∃ L, [97, 116, 32, 43] ++ A = L := ⟨_, rfl⟩
  have Th1 : ⟨#[97, 116, 32, 43]⟩ ++ tx A = tx h1 := by rw [← Eh1]; exact tx_append [97, 116, 32, 43] A
  have Sh1 : (tx h1).size ≤ 25 := by have zA : A.length ≤ 21 := SA; show h1.length ≤ _; rw [← Eh1]; simp only [List.length_append, List.length_cons, List.length_nil]; omega
  obtain ⟨h2, Eh2⟩ : ∃ L, h1 ++ [32] = L := ⟨_, rfl⟩
  have Th2 : tx h1 ++ ⟨#[32]⟩ = tx h2 := by rw [← Eh2]; exact tx_append h1 [32]
  have Sh2 : (tx h2).size ≤ 26 := by have zh1 : h1.length ≤ 25 := Sh1; show h2.length ≤ _; rw [← Eh2]; simp only [List.length_append, List.length_cons, List.length_nil]; omega
  obtain ⟨h3, Eh3⟩ : ∃ L, h2 ++ B = L := ⟨_, rfl⟩
  have Th3 : tx h2 ++ tx B = tx h3 := by rw [← Eh3]; exact tx_append h2 B
  have Sh3 : (tx h3).size ≤ 47 := by have zh2 : h2.length ≤ 26 := Sh2; have zB : B.length ≤ 21 := SB; show h3.length ≤ _; rw [← Eh3]; simp only [List.length_append, List.length_cons, List.length_nil]; omega
  obtain ⟨i1, Ei1⟩ : ∃ L, [97, 116, 32, 49, 50, 51, 52, 53, 54, 55, 56, 57, 48, 32] ++ B = L := ⟨_, rfl⟩
  have Ti1 : ⟨#[97, 116, 32, 49, 50, 51, 52, 53, 54, 55, 56, 57, 48, 32]⟩ ++ tx B = tx i1 := by rw [← Ei1]; exact tx_append [97, 116, 32, 49, 50, 51, 52, 53, 54, 55, 56, 57, 48, 32] B
  have Si1 : (tx i1).size ≤ 35 := by have zB : B.length ≤ 21 := SB; show i1.length ≤ _; rw [← Ei1]; simp only [List.length_append, List.length_cons, List.length_nil]; omega
  obtain ⟨j1, Ej1⟩ : ∃ L, [97, 116, 32, 45, 48, 32] ++ B = L := ⟨_, rfl⟩
  have Tj1 : ⟨#[97, 116, 32, 45, 48, 32]⟩ ++ tx B = tx j1 := by rw [← Ej1]; exact tx_append [97, 116, 32, 45, 48, 32] B
  have Sj1 : (tx j1).size ≤ 27 := by have zB : B.length ≤ 21 := SB; show j1.length ≤ _; rw [← Ej1]; simp only [List.length_append, List.length_cons, List.length_nil]; omega
  have hrows : badLines A B = [b3, d3, e3, f4, a1, g4, h3, i1, j1] := by
    simp only [badLines, ← Ej1, ← Ei1, ← Eh3, ← Eh2, ← Eh1, ← Eg4, ← Ef4, ← Ee3, ← Ee2, ← Ee1, ← Ed3, ← Ed2, ← Eb3, ← Eb2, ← Eb1, ← Ea3, ← Ea2, ← Ea1]
  have hline : atLine A B = a3 := by simp only [atLine, Ea1, Ea2, Ea3]
  rw [hline] at hgood
  rw [hrows] at hbad
  have HP0 : Hid (∀ W, Env W → Calls Tryd.prog 9 #[.string (tx a3)] W fun e w' => ∃ v, e = .returned (.tuple #[v, .int .i64 0]) ∧ CmIn w' { kind := 7, p := (x, y) } v ∧ Fr Nob W w') := fun W hW => by
    have := Parse_any (tx a3) W hW (by omega)
    rw [bs_tx, hgood] at this
    exact this
  have HPb : Hid (∀ l ∈ [b3, d3, e3, f4, a1, g4, h3, i1, j1], ∀ W, Env W → Calls Tryd.prog 9 #[.string (tx l)] W fun e w' => ∃ v, e = .returned (.tuple #[v, .int .i64 3]) ∧ CmIn w' (parseC l).1 v ∧ Fr Nob W w') := fun l hl W hW => by
    obtain ⟨h3, hlen⟩ := hbad l hl
    have := Parse_any (tx l) W hW (by show l.length ≤ _; omega)
    rw [bs_tx, h3] at this
    exact this
  have HEn := Lib.hid he
  have HX := Lib.hid hx
  have HY := Lib.hid hy
  clear he hgood hbad hrows hline hx hy Ea1 Ea2 Ea3 Eb1 Eb2 Eb3 Ed2 Ed3 Ee1 Ee2 Ee3 Ef4 Eg4 Eh1 Eh2 Eh3 Ei1 Ej1
  go_enter Tryd.func6, Tryd.ntmps6
  have hx := HX.out
  have hy := HY.out
  go_wp2_with fail
  refine (HDx.out _).mono ?_
  rintro e w1 ⟨rfl, rfl⟩
  go_wp2_with fail
  refine (HDy.out _).mono ?_
  rintro e w1 ⟨rfl, rfl⟩
  clear hx hy
  go_wp2_with fail
  refine (HP0.out _ HEn.out).mono ?_
  rintro e w1 ⟨v, rfl, ⟨LA, ca, hv, hm, hp1⟩, hf1⟩
  unfold Cm.v at hv
  dsimp only at hv hm hp1
  subst hv
  have HF1 := Lib.hid hf1
  have HF2 : Hid (Fr Nob w ((w1.alloc (.cells #[.int .i64 7, .int .i64 0, .int .i64 0, .int .i64 0, .bool false, .slice LA 0 ca, .int .i64 x, .int .i64 y, .int .i64 0, .int .i64 0, .int .i64 0] 32)).alloc (.cells #[.string (tx b3), .string (tx d3), .string (tx e3), .string (tx f4), .string (tx a1), .string (tx g4), .string (tx h3), .string (tx i1), .string (tx j1)] 9))) := (HF1.out.alloc _).alloc _
  have HBk : Hid (Blk ((w1.alloc (.cells #[.int .i64 7, .int .i64 0, .int .i64 0, .int .i64 0, .bool false, .slice LA 0 ca, .int .i64 x, .int .i64 y, .int .i64 0, .int .i64 0, .int .i64 0] 32)).alloc (.cells #[.string (tx b3), .string (tx d3), .string (tx e3), .string (tx f4), .string (tx a1), .string (tx g4), .string (tx h3), .string (tx i1), .string (tx j1)] 9)) (w1.heap.size + 1) 9 #[.string (tx b3), .string (tx d3), .string (tx e3), .string (tx f4), .string (tx a1), .string (tx g4), .string (tx h3), .string (tx i1), .string (tx j1)]) := by
    have : Blk ((w1.alloc (.cells #[.int .i64 7, .int .i64 0, .int .i64 0, .int .i64 0, .bool false, .slice LA 0 ca, .int .i64 x, .int .i64 y, .int .i64 0, .int .i64 0, .int .i64 0] 32)).alloc (.cells #[.string (tx b3), .string (tx d3), .string (tx e3), .string (tx f4), .string (tx a1), .string (tx g4), .string (tx h3), .string (tx i1), .string (tx j1)] 9)) (w1.alloc (.cells #[.int .i64 7, .int .i64 0, .int .i64 0, .int .i64 0, .bool false, .slice LA 0 ca, .int .i64 x, .int .i64 y, .int .i64 0, .int .i64 0, .int .i64 0] 32)).heap.size 9 #[.string (tx b3), .string (tx d3), .string (tx e3), .string (tx f4), .string (tx a1), .string (tx g4), .string (tx h3), .string (tx i1), .string (tx j1)] := Blk.new _ _ _
    rw [World.size_alloc] at this
    exact this
  clear hf1 hp1 hm
  go_wp2_with fail
  clear Ta1 Sa1 Ta2 Sa2 Ta3 Sa3 Tb1 Sb1 Tb2 Sb2 Tb3 Sb3 Td2 Sd2 Td3 Sd3 Te1 Se1 Te2 Se2 Te3 Se3 Tf4 Sf4 Tg4 Sg4 Th1 Sh1 Th2 Sh2 Th3 Sh3 Ti1 Si1 Tj1 Sj1
  go_loopw [91] (fun i wr => ∃ k : Nat, k ≤ 9 ∧ i = .int .i64 k ∧ Hid (Blk wr (w1.heap.size + 1) 9 #[.string (tx b3), .string (tx d3), .string (tx e3), .string (tx f4), .string (tx a1), .string (tx g4), .string (tx h3), .string (tx i1), .string (tx j1)]) ∧ Hid (Fr Nob w wr)) (fun i _ => 9 - (intOf i).toNat)
  case atStart => exact ⟨0, Nat.zero_le _, rfl, HBk.out, HF2.out⟩
  case round =>
    obtain ⟨k, hk, rfl, hB, hF⟩ := hrel
    by_cases hlt : k < 9
    · obtain ⟨l, hl⟩ : ∃ l, ([b3, d3, e3, f4, a1, g4, h3, i1, j1] : List (List UInt8))[k]? = some l := ⟨_, List.getElem?_eq_getElem (by simpa using hlt)⟩
      have hc : wr.cell? ⟨w1.heap.size + 1, k, none⟩ = some (.string (tx l)) := by
        rw [hB.out.cell k]
        have : (#[.string (tx b3), .string (tx d3), .string (tx e3), .string (tx f4), .string (tx a1), .string (tx g4), .string (tx h3), .string (tx i1), .string (tx j1)] : Array Value)[k]? = (([b3, d3, e3, f4, a1, g4, h3, i1, j1] : List (List UInt8)).map fun z => Value.string (tx z))[k]? := by simp
        rw [this, List.getElem?_map, hl]; rfl
      have hz := hB.out.lt
      have HP := Lib.hid (HPb.out l (List.mem_of_getElem? hl) wr (HEn.out.new hF.out))
      obtain ⟨P, hP⟩ : ∃ P, (parseC l).1 = P := ⟨_, rfl⟩
      rw [hP] at HP
      have ki : (k : Int) < 9 := by omega
      have kj : (0 : Int) ≤ (k : Int) := by omega
      clear hP hl
      obtain ⟨ak, ao, aa, ab, af, al, ⟨ap1, ap2⟩, ⟨aq1, aq2⟩, an⟩ := P
      go_wp2_with fail
      refine HP.out.mono ?_
      rintro e w2 ⟨v, rfl, ⟨LB, cb, hv, hm, hp2⟩, hf2⟩
      unfold Cm.v at hv
      dsimp only at hv hm hp2
      subst hv
      obtain ⟨M, hM⟩ : ∃ M, al.length = M := ⟨_, rfl⟩
      rw [hM]
      have HB2 : Hid (Blk (w2.alloc (.cells #[.int .i64 ak, .int .i64 ao, .int .i64 aa, .int .i64 ab, .bool af, .slice LB M cb, .int .i64 ap1, .int .i64 ap2, .int .i64 aq1, .int .i64 aq2, .int .i64 an] 32)) (w1.heap.size + 1) 9 #[.string (tx b3), .string (tx d3), .string (tx e3), .string (tx f4), .string (tx a1), .string (tx g4), .string (tx h3), .string (tx i1), .string (tx j1)]) := (hB.out.fr hf2 (fun h => h)).alloc _
      have HF3 : Hid (Fr Nob w (w2.alloc (.cells #[.int .i64 ak, .int .i64 ao, .int .i64 aa, .int .i64 ab, .bool af, .slice LB M cb, .int .i64 ap1, .int .i64 ap2, .int .i64 aq1, .int .i64 aq2, .int .i64 an] 32))) := (hF.out.trans hf2).alloc _
      clear hf2 hp2 hm hM HP hB hF hc
      go_wp2
      go_roundw
      case rel => exact ⟨k + 1, by omega, by go_num, HB2.out, HF3.out⟩
      case measure => simp [intOf]; omega
    · obtain rfl : k = 9 := by omega
      have HAw := Lib.hid (awake_any wr (HEn.out.new hF.out))
      have HF := Lib.hid hF.out
      clear hB hF
      go_wp2_with fail
      refine HAw.out.mono ?_
      rintro e w4 ⟨rfl, hf4⟩
      have HF4 := Lib.hid (HF.out.trans hf4)
      clear hf4
      go_wp2
      go_ret
      exact ⟨rfl, HF4.out⟩
end Go.Proofs.YtidohbhcjnmmeaaDoor
