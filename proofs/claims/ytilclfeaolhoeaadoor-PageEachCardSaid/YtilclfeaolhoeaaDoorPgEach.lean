/-
  PageEach walked.
-/
import Derived.Test.YtilclfeaolhoeaaDoorPgEachW
namespace Go.Proofs.YtilclfeaolhoeaaDoor
set_option linter.unusedSimpArgs false
set_option linter.unusedVariables false
open Go.RowKit

set_option maxHeartbeats 12800000 in
set_option maxRecDepth 100000 in
theorem PageEach_row (a b at_ keep : Int) (w : World) (_ : -9223372036854775808 ≤ a) (_ : a ≤ 9223372036854775807) (_ : -9223372036854775808 ≤ b) (_ : b ≤ 9223372036854775807) (_ : -9223372036854775808 ≤ at_) (_ : at_ ≤ 9223372036854775807) (_ : -9223372036854775808 ≤ keep) (_ : keep ≤ 9223372036854775807) :
    Calls Tryd.prog 4 #[.int .i64 a, .int .i64 b, .int .i64 at_, .int .i64 keep] w fun e w' => e = .returned (.bool true) ∧ Fr Nob w w' := by
  have HNd : Hid (∀ W, Calls Tryd.prog 6 #[.int .i64 3] W fun e w' => e = .returned (.int .i64 104) ∧ W = w') := fun W => Need_any 3 W (by omega) (by omega)
  have HNw : Hid (∀ W, Calls Tryd.prog 5 #[.int .i64 104] W fun e w' => ∃ d R S, e = .returned (.tuple #[.pointer (some ⟨d, 0, none⟩), .int .i64 0]) ∧ W.heap.size ≤ d ∧ (∀ b, R b → W.heap.size ≤ b) ∧ DiskOk R w' d S ∧ Still S ∧ PSt S.now 0 3 0 [] (fun _ => none) ∧ Fr Nob W w') := fun W => New_still 104 W (by omega) (by omega) 3 (by omega)
  have HO1 : Hid (∀ W, Calls Tryd.prog 8 #[.agg #[.int .i64 0, .int .i64 1]] W fun e w' => ∃ g, e = .returned (.agg #[.int .i64 0, .int .u64 1, .slice (some ⟨g, 0, none⟩) 480 480]) ∧ Blk w' g 5 (bts (dataB 1)).toArray ∧ W.heap.size ≤ g ∧ Fr Nob W w') := fun W => of_nat 0 1 (by omega) W
  have HO2 : Hid (∀ W, Calls Tryd.prog 8 #[.agg #[.int .i64 1, .int .i64 2]] W fun e w' => ∃ g, e = .returned (.agg #[.int .i64 1, .int .u64 2, .slice (some ⟨g, 0, none⟩) 480 480]) ∧ Blk w' g 5 (bts (dataB 2)).toArray ∧ W.heap.size ≤ g ∧ Fr Nob W w') := fun W => of_nat 1 2 (by omega) W
  have HO3 : Hid (∀ W, Calls Tryd.prog 8 #[.agg #[.int .i64 2, .int .i64 3]] W fun e w' => ∃ g, e = .returned (.agg #[.int .i64 2, .int .u64 3, .slice (some ⟨g, 0, none⟩) 480 480]) ∧ Blk w' g 5 (bts (dataB 3)).toArray ∧ W.heap.size ≤ g ∧ Fr Nob W w') := fun W => of_nat 2 3 (by omega) W
  have ja := i64_and255 a
  have jb := i64_and255 b
  have jt := i64_and127 at_
  obtain ⟨ca, hca⟩ : ∃ m : Nat, a % 256 = (m : Int) := ⟨(a % 256).toNat, by omega⟩
  obtain ⟨cb, hcb⟩ : ∃ m : Nat, b % 256 = (m : Int) := ⟨(b % 256).toNat, by omega⟩
  obtain ⟨ct, hct⟩ : ∃ m : Nat, at_ % 128 = (m : Int) := ⟨(at_ % 128).toNat, by omega⟩
  rw [hca] at ja
  rw [hcb] at jb
  rw [hct] at jt
  obtain ⟨na, hna⟩ : ∃ m : Nat, ca + 10 = m := ⟨_, rfl⟩
  obtain ⟨nb, hnb⟩ : ∃ m : Nat, cb + 10 = m := ⟨_, rfl⟩
  have ua : IntKind.i64.wrap ((ca : Int) + 10) = (na : Int) := by rw [IntKind.wrap_i64]; omega
  have ub : IntKind.i64.wrap ((cb : Int) + 10) = (nb : Int) := by rw [IntKind.wrap_i64]; omega
  have hna0 : 10 ≤ na ∧ na < 300 := by omega
  have hnb0 : 10 ≤ nb ∧ nb < 300 := by omega
  have hct0 : ct < 128 := by omega
  have HOa : Hid (∀ W, Calls Tryd.prog 8 #[.agg #[.int .i64 0, .int .i64 na]] W fun e w' => ∃ g, e = .returned (.agg #[.int .i64 0, .int .u64 na, .slice (some ⟨g, 0, none⟩) 480 480]) ∧ Blk w' g 5 (bts (dataB na)).toArray ∧ W.heap.size ≤ g ∧ Fr Nob W w') := fun W => of_nat 0 na (by omega) W
  have HOb : Hid (∀ W, Calls Tryd.prog 8 #[.agg #[.int .i64 2, .int .i64 nb]] W fun e w' => ∃ g, e = .returned (.agg #[.int .i64 2, .int .u64 nb, .slice (some ⟨g, 0, none⟩) 480 480]) ∧ Blk w' g 5 (bts (dataB nb)).toArray ∧ W.heap.size ≤ g ∧ Fr Nob W w') := fun W => of_nat 2 nb (by omega) W
  have hIn := @info_intv
  clear hca hcb hct hna hnb
  go_enter Tryd.func4, Tryd.ntmps4
  go_wp2_with fail
  refine (HNd.out w).mono ?_
  rintro e wz ⟨rfl, rfl⟩
  go_wp2_with fail
  refine (HNw.out w).mono ?_
  rintro e w1 ⟨d, R1, S1, rfl, hdw, hR1, hd1, hst1, hps1, hf1⟩
  have HOp := Lib.hid (opened_pst (at0 := 0) (pages := 3) hd1 hst1 (by omega) (by omega) (by omega) hps1)
  have HR1 := Lib.hid hR1
  have HF1 := Lib.hid hf1
  clear hd1 hst1 hps1 hR1 hf1 HNw
  go_wp2_with fail
  refine HOp.out.mono ?_
  rintro e w2 ⟨p, R2, S2, rfl, hp1, hp2, hfa2, hd2, hst2, hps2, hnp, hsub, hf2⟩
  have HF2 : Hid (Fr Nob w w2) := HF1.out.step hf2.fr (fun i hi h => by have := HR1.out i h; omega)
  have HR2 : Hid (∀ b, R2 b → w.heap.size ≤ b) := fun b hb => by
    rcases hsub b hb with h | h
    · exact HR1.out b h
    · have := HF1.out.size; omega
  have HR2l : Hid (∀ b, R2 b → b < w2.heap.size) := fun b hb => hd2.lt hb
  have hpw : w.heap.size ≤ p := by have := HF1.out.size; omega
  have HD2 := Lib.hid hd2
  have HSt2 := Lib.hid hst2
  have HPs2 := Lib.hid hps2
  have HFa2 := Lib.hid hfa2
  clear hd2 hst2 hps2 hfa2 hsub hf2 HOp HR1 HF1 hp1
  go_wp2_with fail
  refine (HO1.out w2).mono ?_
  rintro e w3 ⟨g1, rfl, hb1, hg1, hf3⟩
  have HB1 := Lib.hid hb1
  have HF3 := Lib.hid hf3
  clear hb1 hf3
  go_wp2_with fail
  refine (HO2.out w3).mono ?_
  rintro e w4 ⟨g2, rfl, hb2, hg2, hf4⟩
  have HB2 := Lib.hid hb2
  have HF4 := Lib.hid hf4
  clear hb2 hf4
  go_wp2_with fail
  refine (HO3.out w4).mono ?_
  rintro e w5 ⟨g3, rfl, hb3, hg3, hf5⟩
  have HB3 := Lib.hid hb3
  have HF5 := Lib.hid hf5
  have hz3 := HF3.out.size
  have hz4 := HF4.out.size
  have hz5 := HF5.out.size
  clear hb3 hf5
  have HW1 := Lib.hid (each_write1 HFa2.out HD2.out HSt2.out HPs2.out hnp hp2 ((HF3.out.trans HF4.out).trans HF5.out) ((HB1.out.fr HF4.out (fun h => h)).fr HF5.out (fun h => h)) (HB2.out.fr HF5.out (fun h => h)) HB3.out hg1 (by omega) (by omega))
  clear HB1 HB2 HB3 HFa2 HD2 HSt2 HPs2 hg1 hg2 hg3
  go_wp2_with fail
  refine HW1.out.mono ?_
  rintro e w6 ⟨R6, S6, cur6, rfl, hd6, hst6, hps6, hfa6, hnp6, hsub6, hfr6⟩
  have HSt6 := Lib.hid hst6
  have HPs6 := Lib.hid hps6
  have HFa6 := Lib.hid hfa6
  have hz6 := hfr6.size
  have HF6 : Hid (Fr Nob w w6) := HF2.out.step hfr6 (fun i hi h => by
    rcases h with h | h
    · have := HR2.out i h; omega
    · omega)
  have HR6 : Hid (∀ b, R6 b → w.heap.size ≤ b) := fun b hb => by
    rcases hsub6 b hb with h | h
    · exact HR2.out b h
    · have := HF2.out.size; omega
  have HFu := Lib.hid (Fuse_anyD (ct : Int) hd6 (by omega) (by omega))
  clear hd6 hst6 hps6 hfa6 hsub6 hfr6 HW1 HR2 HR2l HF3 HF4 HF5
  go_wp2_with fail
  refine HFu.out.mono ?_
  rintro e w7 ⟨rfl, hd7, hf7⟩
  have HD7 := Lib.hid hd7
  have HF7 : Hid (Fr Nob w w7) := HF6.out.step hf7.fr (fun i hi h => by have := HR6.out i h; omega)
  have HFa7 := Lib.hid (HFa6.out.fr hf7.fr hnp6)
  have hz7 : w6.heap.size ≤ w7.heap.size := hf7.size
  clear hd7 hf7 HFu HFa6
  go_wp2_with fail
  refine (HOa.out w7).mono ?_
  rintro e w8 ⟨g1, rfl, hb1, hg1, hf8⟩
  have HB1 := Lib.hid hb1
  have HF8 := Lib.hid hf8
  clear hb1 hf8
  go_wp2_with fail
  refine (HOb.out w8).mono ?_
  rintro e w9 ⟨g2, rfl, hb2, hg2, hf9⟩
  have HB2 := Lib.hid hb2
  have HF9 := Lib.hid hf9
  have hz8 := HF8.out.size
  have hz9 := HF9.out.size
  have hln6 := HPs6.out.len
  have HW2 := Lib.hid (each_write2 (S := S6.set (ct : Int)) (na := na) (nb := nb) (by omega) (by omega) HFa7.out HD7.out (by show 104 ≤ S6.now.length; omega) (by show S6.waits.length ≤ 100; rw [HSt6.out.waits]; simp) hnp6 (by omega) (HF8.out.trans HF9.out) (HB1.out.fr HF9.out (fun h => h)) HB2.out hg1 (by omega))
  clear hb2 hf9 HB1 HB2 HFa7 hg1 hg2
  go_wp2_with fail
  refine HW2.out.mono ?_
  rintro e w10 ⟨R10, rfl, hd10, hsub10, hfr10⟩
  obtain ⟨SX, hSX⟩ : ∃ S, (runs (S6.set (ct : Int)) (writeOps 0 3 2 [⟨0, na, dataB na⟩, ⟨2, nb, dataB nb⟩])).1 = S := ⟨_, rfl⟩
  obtain ⟨gc, hgc⟩ : ∃ c, (runs (S6.set (ct : Int)) (writeOps 0 3 2 [⟨0, na, dataB na⟩, ⟨2, nb, dataB nb⟩])).2 = c := ⟨_, rfl⟩
  have HSX := Lib.hid hSX
  have HGc := Lib.hid hgc
  rw [hSX] at hd10
  rw [hgc]
  have HD10 := Lib.hid hd10
  have HR10l : Hid (∀ b, R10 b → b < w10.heap.size) := fun b hb => hd10.lt hb
  have HF10 : Hid (Fr Nob w w10) := HF7.out.step hfr10 (fun i hi h => by
    rcases h with h | h
    · have := HR6.out i h; omega
    · omega)
  have HR10 : Hid (∀ b, R10 b → w.heap.size ≤ b) := fun b hb => by
    rcases hsub10 b hb with h | h
    · exact HR6.out b h
    · have := HF7.out.size; omega
  have hwts : SX.waits.length < 4000000000 := by
    have := runs_waits (S6.set (ct : Int)) (writeOps 0 3 2 [⟨0, na, dataB na⟩, ⟨2, nb, dataB nb⟩])
    rw [hSX] at this
    have e1 : (writeOps 0 3 2 [(⟨0, na, dataB na⟩ : PgV), ⟨2, nb, dataB nb⟩]).length = 35 := by
      rw [each_ops]
      simp only [List.length_append, secOps_length, List.length_cons, List.length_nil]
    have e2 : (S6.set (ct : Int)).waits.length = 0 := by show S6.waits.length = 0; rw [HSt6.out.waits]; rfl
    omega
  clear hd10 hsub10 hfr10 HW2 hSX hgc HD7 HR6 HF6
  obtain ⟨i0, hi0, hz0, hz1, hz2⟩ := info_parts hIn
  have hown0 : w10.ownsRow w10.heap.size 3 1 (.slice none 0 0) 0 [] := World.ownsRow_nil _ _ _ _
  have HOw0 := Lib.hid hown0
  clear hown0
  go_wp2
  go_loopw [13, 14] (fun s13 s14 wr => ∃ (i : Nat) (ks : List Int), i ≤ 62 ∧ s14 = .int .i64 i ∧ Hid (wr.ownsRow w10.heap.size 3 1 s13 ks.length (ks.map (Value.int .i64))) ∧ Hid (∀ x ∈ ks, 0 ≤ x ∧ x < 62) ∧ ks.length ≤ i ∧ Hid (Fr Nob w10 wr)) (fun _ s14 _ => 62 - (intOf s14).toNat)
  case atStart => exact ⟨0, [], by omega, rfl, HOw0.out, fun x hx => by simp at hx, by simp, Fr.refl _ _⟩
  case round =>
    clear HOw0
    obtain ⟨i, ks, hi, rfl, hO, hK, hkl, hF⟩ := hrel
    have hsz := hF.out.size
    by_cases hlt : i < 62
    · have hltI : (i : Int) < 62 := by omega
      have hnn : ¬ (i : Int) < 0 := by omega
      have HNw : Hid (∀ j u, ([.int .i64 i] : List Value)[j]? = some u → (wr.alloc (.cells #[.int .i64 i] 3)).cell? ((⟨wr.heap.size, 0, none⟩ : Addr).add j) = some u) := fun j u hu => World.news_of_block (Blk.new wr 3 #[.int .i64 i]) j u (by simpa using hu)
      have HOa' : Hid ((wr.alloc (.cells #[.int .i64 i] 3)).ownsRow w10.heap.size 3 1 u13 ks.length (ks.map (Value.int .i64))) := own_fr hO.out ((Fr.refl Nob wr).alloc _) (fun _ _ h => h)
      have hsa : w10.heap.size ≤ (wr.alloc (.cells #[.int .i64 i] 3)).heap.size := by rw [World.size_alloc]; omega
      have HFl : Hid (Fr Nob w10 (wr.alloc (.cells #[.int .i64 i] 3))) := hF.out.alloc _
      go_wp2_with (at_builtin; go_must (refine wpList_append_own_at _ rfl (.tmp 70) (.tmp 72) 45 rfl w10.heap.size 3 i0 (.int .i64 0) 1 8 Tryd.underlying45 hi0 hz0 hz1 hz2 rfl (by decide) u13 ks.length (ks.map (Value.int .i64)) rfl HOa'.out ⟨wr.heap.size, 0, none⟩ 1 1 [.int .i64 i] rfl rfl HNw.out (by simp [Value.oneCell']) (by unfold maxLen; omega) (by omega) hsa ?_); intro v7 w7 hown7 hg7 hn7 hat7; have HO7 := Lib.hid hown7; have HF7x : Hid (Fr Nob w10 w7) := (HFl.out.grown hg7 (fun r hr => .inl (HOa'.out.lt r hr).1)); clear hown7 hg7 hn7 hat7)
      · go_roundw
        case rel => exact ⟨i + 1, ks ++ [(i : Int)], by omega, by go_num, by rw [List.map_append, List.length_append]; exact HO7.out, fun x hx => by
          rcases List.mem_append.1 hx with hx | hx
          · exact hK.out x hx
          · rw [List.mem_singleton] at hx; omega, by rw [List.length_append, List.length_singleton]; omega, HF7x.out⟩
        case measure => simp [intOf]; omega
      · go_roundw
        case rel => exact ⟨i + 1, ks, by omega, by go_num, hO.out, hK.out, by omega, hF.out⟩
        case measure => simp [intOf]; omega
    · obtain rfl : i = 62 := by omega
      obtain ⟨A, cA, hv⟩ : ∃ A c, u13 = .slice A ks.length c := by
        by_cases h0 : 0 < ks.length
        · obtain ⟨g, cap, e, _⟩ := hO.out.form h0
          exact ⟨_, _, e⟩
        · rcases hO.out.2 with ⟨e, e2⟩ | ⟨g, cap, _, e, _⟩
          · exact ⟨none, 0, by rw [e, e2]⟩
          · exact ⟨_, _, e⟩
      have HKi : Hid (IntsOut R10 wr A ks) := ⟨fun x hx => wf_i64 (by have := hK.out x hx; omega) (by have := hK.out x hx; omega), fun h0 => by
        obtain ⟨g, cap, e, hg, _⟩ := hO.out.form h0
        rw [hv] at e
        injection e with e
        refine ⟨g, 0, e, fun h => by have := HR10l.out g h; omega, fun j x hx => ?_⟩
        have := hO.out.cells (g := g) (by rw [hv, e]; rfl) j (.int .i64 x) (by rw [List.getElem?_map, hx]; rfl)
        rw [addr_add0] at this
        rw [Nat.zero_add]; exact this⟩
      have HCr := Lib.hid (Crash_anyD A cA ks (HD10.out.new hF.out) HKi.out (by omega) hwts)
      subst hv
      obtain ⟨hb, X0, X2, e1, e2, e3, e4⟩ := each_crash (S := S6.set (ct : Int)) HPs6.out rfl rfl rfl rfl rfl (dataOk 0 na (by omega) (by omega)) (dataOk 2 nb (by omega) (by omega)) rfl rfl rfl rfl rfl (by show S6.last = S6.now; have hs := HSt6.out.calm.sum; rw [HSt6.out.waits] at hs; exact hs) (by show S6.waits = []; exact HSt6.out.waits) ks
      rw [HSX.out] at e1 e3 e4
      rw [HGc.out] at e2
      have HE2 := Lib.hid e2
      have HFr := Lib.hid hF.out
      have hl104 : 104 ≤ (SX.crash ks).now.length := by rw [e3]; have := HPs6.out.len; omega
      have HOpn : Hid (∀ W, DiskOk R10 W d (SX.crash ks) → Calls Tryd.prog 7 #[.pointer (some ⟨d, 0, none⟩), .int .i64 0, .int .i64 3, .int .i64 (-1), .slice none 0 0] W fun e w' => ∃ p', e = .returned (.pointer (some ⟨p', 0, none⟩)) ∧ Fr R10 W w' ∧
        ∀ V, Fr Nob w' V → ∀ (no n : Nat) (X : PgV), (no = 0 ∧ X = X0 ∨ no = 1 ∧ X = ⟨1, 2, dataB 2⟩ ∨ no = 2 ∧ X = X2) → n ≤ 100000 → Calls Tryd.prog 11 #[.pointer (some ⟨p', 0, none⟩), .int .i64 no, .int .i64 n] V fun e w'' => e = .returned (.bool (decide (X.lsn = n ∧ X.d = dataB n))) ∧ Fr Nob V w'') := by
        intro W hW
        refine each_open hW (crash_still ks) hl104 e1 e4 ?_ ⟨dataOk 1 2 (by omega) (by omega), rfl⟩ ?_
        · rcases e2 with ⟨rfl, _⟩ | ⟨rfl, _⟩
          · exact ⟨dataOk 0 1 (by omega) (by omega), rfl⟩
          · exact ⟨dataOk 0 na (by omega) (by omega), rfl⟩
        · rcases e2 with ⟨_, rfl, _⟩ | ⟨_, rfl, _⟩
          · exact ⟨dataOk 2 3 (by omega) (by omega), rfl⟩
          · exact ⟨dataOk 2 nb (by omega) (by omega), rfl⟩
      clear e1 e2 e3 e4 hO hK hF HD10 HKi
      go_wp2_with fail
      refine HCr.out.mono ?_
      rintro e w11 ⟨rfl, hd11, hf11⟩
      have HOp2 := Lib.hid (HOpn.out w11 hd11)
      have HF11 : Hid (Fr Nob w w11) := (HF10.out.trans HFr.out).step hf11.fr (fun i hi h => by have := HR10.out i h; omega)
      clear hd11 hf11 HCr HOpn
      go_wp2_with fail
      refine HOp2.out.mono ?_
      rintro e w12 ⟨p', rfl, hf12, his⟩
      have HF12 : Hid (Fr Nob w w12) := HF11.out.step hf12 (fun i hi h => by have := HR10.out i h; omega)
      have HIs := Lib.hid his
      have HAw := Lib.hid (pgawake_any)
      clear hf12 his HOp2
      have HI1 : Hid (∀ V, Fr Nob w12 V → Calls Tryd.prog 11 #[.pointer (some ⟨p', 0, none⟩), .int .i64 1, .int .i64 2] V fun e w'' => e = .returned (.bool true) ∧ Fr Nob V w'') := fun V hV => by
        have := HIs.out V hV 1 2 _ (.inr (.inl ⟨rfl, rfl⟩)) (by omega)
        rw [decide_eq_true ⟨rfl, rfl⟩] at this
        exact this
      rcases HE2.out with ⟨hX0, hX2, hg⟩ | ⟨hX0, hX2, hg⟩
      · have HI2 : Hid (∀ V, Fr Nob w12 V → Calls Tryd.prog 11 #[.pointer (some ⟨p', 0, none⟩), .int .i64 0, .int .i64 1] V fun e w'' => e = .returned (.bool true) ∧ Fr Nob V w'') := fun V hV => by
          have := HIs.out V hV 0 1 _ (.inl ⟨rfl, rfl⟩) (by omega)
          rw [hX0, decide_eq_true ⟨rfl, rfl⟩] at this
          exact this
        have HI3 : Hid (∀ V, Fr Nob w12 V → Calls Tryd.prog 11 #[.pointer (some ⟨p', 0, none⟩), .int .i64 2, .int .i64 3] V fun e w'' => e = .returned (.bool true) ∧ Fr Nob V w'') := fun V hV => by
          have := HIs.out V hV 2 3 _ (.inr (.inr ⟨rfl, rfl⟩)) (by omega)
          rw [hX2, decide_eq_true ⟨rfl, rfl⟩] at this
          exact this
        subst hg
        clear hX0 hX2
        go_wp2_with fail
        refine (HI1.out w12 (Fr.refl _ _)).mono ?_
        rintro e w13 ⟨rfl, hf13⟩
        have HF13 := Lib.hid hf13
        clear hf13
        go_wp2_with fail
        refine (HI2.out w13 HF13.out).mono ?_
        rintro e w14 ⟨rfl, hf14⟩
        have HF14 := Lib.hid (HF13.out.trans hf14)
        clear hf14
        go_wp2_with fail
        refine (HI3.out w14 HF14.out).mono ?_
        rintro e w15 ⟨rfl, hf15⟩
        have HF15 := Lib.hid (HF14.out.trans hf15)
        clear hf15
        go_wp2_with fail
        refine (HAw.out w15).mono ?_
        rintro e w16 ⟨rfl, hf16⟩
        have HF16 := Lib.hid ((HF12.out.trans HF15.out).trans hf16)
        clear hf16
        go_wp2
        go_ret
        exact ⟨rfl, HF16.out⟩
      · have HI2 : Hid (∀ V, Fr Nob w12 V → Calls Tryd.prog 11 #[.pointer (some ⟨p', 0, none⟩), .int .i64 0, .int .i64 1] V fun e w'' => e = .returned (.bool false) ∧ Fr Nob V w'') := fun V hV => by
          have := HIs.out V hV 0 1 _ (.inl ⟨rfl, rfl⟩) (by omega)
          rw [hX0, decide_eq_false (fun h => by have := h.1; dsimp only at this; omega)] at this
          exact this
        have HI3 : Hid (∀ V, Fr Nob w12 V → Calls Tryd.prog 11 #[.pointer (some ⟨p', 0, none⟩), .int .i64 0, .int .i64 na] V fun e w'' => e = .returned (.bool true) ∧ Fr Nob V w'') := fun V hV => by
          have := HIs.out V hV 0 na _ (.inl ⟨rfl, rfl⟩) (by omega)
          rw [hX0, decide_eq_true ⟨rfl, rfl⟩] at this
          exact this
        have HI4 : Hid (∀ V, Fr Nob w12 V → Calls Tryd.prog 11 #[.pointer (some ⟨p', 0, none⟩), .int .i64 2, .int .i64 3] V fun e w'' => e = .returned (.bool false) ∧ Fr Nob V w'') := fun V hV => by
          have := HIs.out V hV 2 3 _ (.inr (.inr ⟨rfl, rfl⟩)) (by omega)
          rw [hX2, decide_eq_false (fun h => by have := h.1; dsimp only at this; omega)] at this
          exact this
        have HI5 : Hid (∀ V, Fr Nob w12 V → Calls Tryd.prog 11 #[.pointer (some ⟨p', 0, none⟩), .int .i64 2, .int .i64 nb] V fun e w'' => e = .returned (.bool true) ∧ Fr Nob V w'') := fun V hV => by
          have := HIs.out V hV 2 nb _ (.inr (.inr ⟨rfl, rfl⟩)) (by omega)
          rw [hX2, decide_eq_true ⟨rfl, rfl⟩] at this
          exact this
        clear hX0 hX2
        go_wp2_with fail
        refine (HI1.out w12 (Fr.refl _ _)).mono ?_
        rintro e w13 ⟨rfl, hf13⟩
        have HF13 := Lib.hid hf13
        clear hf13
        go_wp2_with fail
        refine (HI2.out w13 HF13.out).mono ?_
        rintro e w14 ⟨rfl, hf14⟩
        have HF14 := Lib.hid (HF13.out.trans hf14)
        clear hf14
        go_wp2_with fail
        refine (HI3.out w14 HF14.out).mono ?_
        rintro e w15 ⟨rfl, hf15⟩
        have HF15 := Lib.hid (HF14.out.trans hf15)
        clear hf15
        go_wp2_with fail
        refine (HI4.out w15 HF15.out).mono ?_
        rintro e w16 ⟨rfl, hf16⟩
        have HF16 := Lib.hid (HF15.out.trans hf16)
        clear hf16
        go_wp2_with fail
        refine (HI5.out w16 HF16.out).mono ?_
        rintro e w17 ⟨rfl, hf17⟩
        have HF17 := Lib.hid (HF16.out.trans hf17)
        clear hf17
        rcases hg with rfl | rfl
        · go_wp2_with fail
          refine (HI3.out w17 HF17.out).mono ?_
          rintro e w18 ⟨rfl, hf18⟩
          have HF18 := Lib.hid (HF17.out.trans hf18)
          clear hf18
          go_wp2_with fail
          refine (HI5.out w18 HF18.out).mono ?_
          rintro e w19 ⟨rfl, hf19⟩
          have HF19 := Lib.hid (HF18.out.trans hf19)
          clear hf19
          go_wp2_with fail
          refine (HAw.out w19).mono ?_
          rintro e w20 ⟨rfl, hf20⟩
          have HF20 := Lib.hid ((HF12.out.trans HF19.out).trans hf20)
          clear hf20
          go_wp2
          go_ret
          exact ⟨rfl, HF20.out⟩
        · go_wp2_with fail
          refine (HAw.out w17).mono ?_
          rintro e w18 ⟨rfl, hf18⟩
          have HF18 := Lib.hid ((HF12.out.trans HF17.out).trans hf18)
          clear hf18
          go_wp2
          go_ret
          exact ⟨rfl, HF18.out⟩
end Go.Proofs.YtilclfeaolhoeaaDoor
