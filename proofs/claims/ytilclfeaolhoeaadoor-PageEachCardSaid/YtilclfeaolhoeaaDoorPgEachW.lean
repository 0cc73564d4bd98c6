/-
  The calls of PageEach, one contract for each.
-/
import Derived.Test.YtilclfeaolhoeaaDoorPgEachP
namespace Go.Proofs.YtilclfeaolhoeaaDoor
set_option linter.unusedSimpArgs false
set_option linter.unusedVariables false
open Go.RowKit

theorem i64_and127 (n : Int) : bits .and .i64 n 127 = n % 128 := by
  have := i64_mask n 127 7 (by decide) (by decide) (by decide)
  simpa using this
theorem info_intv : (Tryd.prog.info? 3).map (fun i => (i.zero, i.size, i.bytes)) = some (some (.int .i64 0), 1, 8) := by kernel_rfl
theorem of_nat (no n : Nat) (hn : n < 65536) (W : World) : Calls Tryd.prog 8 #[.agg #[.int .i64 no, .int .i64 n]] W fun e w' => ∃ g, e = .returned (.agg #[.int .i64 no, .int .u64 n, .slice (some ⟨g, 0, none⟩) 480 480]) ∧ Blk w' g 5 (bts (dataB n)).toArray ∧ W.heap.size ≤ g ∧ Fr Nob W w' := by
  have := of_any no n W
  rw [show (n : Int) % 65536 = (n : Int) from by omega, Int.toNat_natCast] at this
  exact this
theorem dataOk (no n : Nat) (h1 : no < 100000) (h2 : n < 65536) : PgV.Ok ⟨no, n, dataB n⟩ := ⟨h1, by show n < _; omega, dataB_length n⟩
theorem ints_one' (ks : List Int) : ∀ u ∈ ks.map (Value.int .i64), u.oneCell' = true := fun u hu => by
  obtain ⟨x, _, rfl⟩ := List.mem_map.1 hu; rfl

section
variable {w2 w5 : World} {p d : Nat} {R : Nat → Prop} {S : DS} {g1 g2 g3 : Nat}
theorem nq_of (hd : DiskOk R w2 d S) (hp : p < w2.heap.size) (g : Nat) (hg : w2.heap.size ≤ g) : ¬ (R g ∨ g = p) := fun h => by
  rcases h with h | h
  · have := hd.lt h; omega
  · omega
theorem each_write1 (hfa : FileAt w2 p d 0 3 0) (hd : DiskOk R w2 d S) (hst : Still S) (hps : PSt S.now 0 3 0 [] (fun _ => none)) (hnp : ¬ R p) (hp : p < w2.heap.size) (hf : Fr Nob w2 w5)
    (hb1 : Blk w5 g1 5 (bts (dataB 1)).toArray) (hb2 : Blk w5 g2 5 (bts (dataB 2)).toArray) (hb3 : Blk w5 g3 5 (bts (dataB 3)).toArray) (h1 : w2.heap.size ≤ g1) (h2 : w2.heap.size ≤ g2) (h3 : w2.heap.size ≤ g3) :
    Calls Tryd.prog 9 #[.pointer (some ⟨p, 0, none⟩), .slice (some ⟨w5.heap.size, 0, none⟩) 3 3] (w5.alloc (.cells #[.int .i64 0, .int .u64 1, .slice (some ⟨g1, 0, none⟩) 480 480, .int .i64 1, .int .u64 2, .slice (some ⟨g2, 0, none⟩) 480 480, .int .i64 2, .int .u64 3, .slice (some ⟨g3, 0, none⟩) 480 480] 37)) fun e w' =>
      ∃ R' S' cur', e = .returned (.int .i64 0) ∧ DiskOk R' w' d S' ∧ Still S' ∧ PSt S'.now 0 3 1 [⟨0, 1, dataB 1⟩, ⟨1, 2, dataB 2⟩, ⟨2, 3, dataB 3⟩] cur' ∧ FileAt w' p d 0 3 1 ∧ ¬ R' p ∧ (∀ b, R' b → R b ∨ w2.heap.size ≤ b) ∧ Fr (fun b => R b ∨ b = p) w2 w' := by
  have hfx : Fr Nob w2 (w5.alloc (.cells #[.int .i64 0, .int .u64 1, .slice (some ⟨g1, 0, none⟩) 480 480, .int .i64 1, .int .u64 2, .slice (some ⟨g2, 0, none⟩) 480 480, .int .i64 2, .int .u64 3, .slice (some ⟨g3, 0, none⟩) 480 480] 37)) := hf.alloc _
  have hnq := nq_of (p := p) hd hp
  have hz := hf.size
  have hbs : Blk (w5.alloc (.cells #[.int .i64 0, .int .u64 1, .slice (some ⟨g1, 0, none⟩) 480 480, .int .i64 1, .int .u64 2, .slice (some ⟨g2, 0, none⟩) 480 480, .int .i64 2, .int .u64 3, .slice (some ⟨g3, 0, none⟩) 480 480] 37)) w5.heap.size 37 (pgCells [(⟨0, 1, dataB 1⟩, .slice (some ⟨g1, 0, none⟩) 480 480), (⟨1, 2, dataB 2⟩, .slice (some ⟨g2, 0, none⟩) 480 480), (⟨2, 3, dataB 3⟩, .slice (some ⟨g3, 0, none⟩) 480 480)]).toArray := Blk.new _ _ _
  have ha1 := hb1.alloc (.cells #[.int .i64 0, .int .u64 1, .slice (some ⟨g1, 0, none⟩) 480 480, .int .i64 1, .int .u64 2, .slice (some ⟨g2, 0, none⟩) 480 480, .int .i64 2, .int .u64 3, .slice (some ⟨g3, 0, none⟩) 480 480] 37)
  have ha2 := hb2.alloc (.cells #[.int .i64 0, .int .u64 1, .slice (some ⟨g1, 0, none⟩) 480 480, .int .i64 1, .int .u64 2, .slice (some ⟨g2, 0, none⟩) 480 480, .int .i64 2, .int .u64 3, .slice (some ⟨g3, 0, none⟩) 480 480] 37)
  have ha3 := hb3.alloc (.cells #[.int .i64 0, .int .u64 1, .slice (some ⟨g1, 0, none⟩) 480 480, .int .i64 1, .int .u64 2, .slice (some ⟨g2, 0, none⟩) 480 480, .int .i64 2, .int .u64 3, .slice (some ⟨g3, 0, none⟩) 480 480] 37)
  obtain ⟨wb, hwb⟩ : ∃ W, w5.alloc (.cells #[.int .i64 0, .int .u64 1, .slice (some ⟨g1, 0, none⟩) 480 480, .int .i64 1, .int .u64 2, .slice (some ⟨g2, 0, none⟩) 480 480, .int .i64 2, .int .u64 3, .slice (some ⟨g3, 0, none⟩) 480 480] 37) = W := ⟨_, rfl⟩
  rw [hwb] at hfx hbs ha1 ha2 ha3 ⊢
  have hpg : PgsIn (fun b => R b ∨ b = p) wb (some ⟨w5.heap.size, 0, none⟩) [(⟨0, 1, dataB 1⟩, .slice (some ⟨g1, 0, none⟩) 480 480), (⟨1, 2, dataB 2⟩, .slice (some ⟨g2, 0, none⟩) 480 480), (⟨2, 3, dataB 3⟩, .slice (some ⟨g3, 0, none⟩) 480 480)] := by
    refine PgsIn.of_blk hbs (hnq _ hz) (fun x hx => ?_)
    simp only [List.mem_cons, List.not_mem_nil, or_false] at hx
    rcases hx with rfl | rfl | rfl
    · exact PCell.mk_ ha1 (dataB_length 1) (hnq _ h1)
    · exact PCell.mk_ ha2 (dataB_length 2) (hnq _ h2)
    · exact PCell.mk_ ha3 (dataB_length 3) (hnq _ h3)
  refine (write_pst (some ⟨w5.heap.size, 0, none⟩) 3 _ (hfa.fr hfx (fun h => h)) hnp (hd.new hfx) hst hps hpg (fun x hx => ?_) (by simp) (by simp) (fun i j x y hx hy hxy => ?_) (by omega) (by omega) (by omega)).mono ?_
  · simp only [List.mem_cons, List.not_mem_nil, or_false] at hx
    rcases hx with rfl | rfl | rfl
    · exact ⟨dataOk 0 1 (by omega) (by omega), by show 0 < 3; omega⟩
    · exact ⟨dataOk 1 2 (by omega) (by omega), by show 1 < 3; omega⟩
    · exact ⟨dataOk 2 3 (by omega) (by omega), by show 2 < 3; omega⟩
  · have hi := (List.getElem?_eq_some_iff.1 hx).1
    have hj := (List.getElem?_eq_some_iff.1 hy).1
    simp only [List.length_cons, List.length_nil] at hi hj
    have hn : ∀ (k : Nat) (z : PgV × Value), [((⟨0, 1, dataB 1⟩ : PgV), Value.slice (some ⟨g1, 0, none⟩) 480 480), (⟨1, 2, dataB 2⟩, .slice (some ⟨g2, 0, none⟩) 480 480), (⟨2, 3, dataB 3⟩, .slice (some ⟨g3, 0, none⟩) 480 480)][k]? = some z → z.1.no = k := by
      intro k z hz
      match k, hz with
      | 0, hz => injection hz with hz; rw [← hz]
      | 1, hz => injection hz with hz; rw [← hz]
      | 2, hz => injection hz with hz; rw [← hz]
      | k + 3, hz => simp at hz
    rw [hn i x hx, hn j y hy] at hxy
    exact hxy
  · rintro e w' ⟨S', rfl, hd', hst', hps', hfa', hfr⟩
    have hzx := hfx.size
    refine ⟨_, S', _, rfl, hd', hst', hps', hfa', fun h => ?_, fun b hb => ?_, ?_⟩
    · rcases h with h | h
      · exact hnp h
      · omega
    · rcases hb with hb | hb
      · exact .inl hb
      · exact .inr (by omega)
    · exact Fr.step (hfx.mono (fun _ _ h => h.elim)) hfr (fun i hi h => by
        rcases h with h | h
        · exact .inl h.1
        · exact .inr h)
theorem each_write2 {na nb : Nat} (hna : na < 65536) (hnb : nb < 65536) (hfa : FileAt w2 p d 0 3 1) (hd : DiskOk R w2 d S) (hlen : 104 ≤ S.now.length) (hw : S.waits.length ≤ 100) (hnp : ¬ R p) (hp : p < w2.heap.size) (hf : Fr Nob w2 w5)
    (hb1 : Blk w5 g1 5 (bts (dataB na)).toArray) (hb2 : Blk w5 g2 5 (bts (dataB nb)).toArray) (h1 : w2.heap.size ≤ g1) (h2 : w2.heap.size ≤ g2) :
    Calls Tryd.prog 9 #[.pointer (some ⟨p, 0, none⟩), .slice (some ⟨w5.heap.size, 0, none⟩) 2 2] (w5.alloc (.cells #[.int .i64 0, .int .u64 na, .slice (some ⟨g1, 0, none⟩) 480 480, .int .i64 2, .int .u64 nb, .slice (some ⟨g2, 0, none⟩) 480 480] 37)) fun e w' =>
      ∃ R', e = .returned (.int .i64 (runs S (writeOps 0 3 2 [⟨0, na, dataB na⟩, ⟨2, nb, dataB nb⟩])).2) ∧ DiskOk R' w' d (runs S (writeOps 0 3 2 [⟨0, na, dataB na⟩, ⟨2, nb, dataB nb⟩])).1 ∧ (∀ b, R' b → R b ∨ w2.heap.size ≤ b) ∧ Fr (fun b => R b ∨ b = p) w2 w' := by
  have hfx : Fr Nob w2 (w5.alloc (.cells #[.int .i64 0, .int .u64 na, .slice (some ⟨g1, 0, none⟩) 480 480, .int .i64 2, .int .u64 nb, .slice (some ⟨g2, 0, none⟩) 480 480] 37)) := hf.alloc _
  have hnq := nq_of (p := p) hd hp
  have hz := hf.size
  have hbs : Blk (w5.alloc (.cells #[.int .i64 0, .int .u64 na, .slice (some ⟨g1, 0, none⟩) 480 480, .int .i64 2, .int .u64 nb, .slice (some ⟨g2, 0, none⟩) 480 480] 37)) w5.heap.size 37 (pgCells [(⟨0, na, dataB na⟩, .slice (some ⟨g1, 0, none⟩) 480 480), (⟨2, nb, dataB nb⟩, .slice (some ⟨g2, 0, none⟩) 480 480)]).toArray := Blk.new _ _ _
  have ha1 := hb1.alloc (.cells #[.int .i64 0, .int .u64 na, .slice (some ⟨g1, 0, none⟩) 480 480, .int .i64 2, .int .u64 nb, .slice (some ⟨g2, 0, none⟩) 480 480] 37)
  have ha2 := hb2.alloc (.cells #[.int .i64 0, .int .u64 na, .slice (some ⟨g1, 0, none⟩) 480 480, .int .i64 2, .int .u64 nb, .slice (some ⟨g2, 0, none⟩) 480 480] 37)
  obtain ⟨wb, hwb⟩ : ∃ W, w5.alloc (.cells #[.int .i64 0, .int .u64 na, .slice (some ⟨g1, 0, none⟩) 480 480, .int .i64 2, .int .u64 nb, .slice (some ⟨g2, 0, none⟩) 480 480] 37) = W := ⟨_, rfl⟩
  rw [hwb] at hfx hbs ha1 ha2 ⊢
  have hpg : PgsIn (fun b => R b ∨ b = p) wb (some ⟨w5.heap.size, 0, none⟩) [(⟨0, na, dataB na⟩, .slice (some ⟨g1, 0, none⟩) 480 480), (⟨2, nb, dataB nb⟩, .slice (some ⟨g2, 0, none⟩) 480 480)] := by
    refine PgsIn.of_blk hbs (hnq _ hz) (fun x hx => ?_)
    simp only [List.mem_cons, List.not_mem_nil, or_false] at hx
    rcases hx with rfl | rfl
    · exact PCell.mk_ ha1 (dataB_length na) (hnq _ h1)
    · exact PCell.mk_ ha2 (dataB_length nb) (hnq _ h2)
  refine (pgWriteAll_run (some ⟨w5.heap.size, 0, none⟩) 2 _ (hfa.fr hfx (fun h => h)) hnp (hd.new hfx) hpg (fun x hx => ?_) (by simp) (by simp) (fun i j x y hx hy hxy => ?_) (by omega) (by omega) (by omega) (by omega) (by omega)).mono ?_
  · simp only [List.mem_cons, List.not_mem_nil, or_false] at hx
    rcases hx with rfl | rfl
    · exact ⟨dataOk 0 na (by omega) hna, by show 0 < 3; omega⟩
    · exact ⟨dataOk 2 nb (by omega) hnb, by show 2 < 3; omega⟩
  · have hn : ∀ (k : Nat) (z : PgV × Value), [((⟨0, na, dataB na⟩ : PgV), Value.slice (some ⟨g1, 0, none⟩) 480 480), (⟨2, nb, dataB nb⟩, .slice (some ⟨g2, 0, none⟩) 480 480)][k]? = some z → z.1.no = 2 * k := by
      intro k z hz
      match k, hz with
      | 0, hz => injection hz with hz; rw [← hz]
      | 1, hz => injection hz with hz; rw [← hz]
      | k + 2, hz => simp at hz
    rw [hn i x hx, hn j y hy] at hxy
    omega
  · rintro e w' ⟨he, hd', _, hfr⟩
    have hzx := hfx.size
    refine ⟨_, he, hd', fun b hb => ?_, ?_⟩
    · rcases hb with hb | hb
      · exact .inl hb
      · exact .inr (by omega)
    · exact Fr.step (hfx.mono (fun _ _ h => h.elim)) hfr (fun i hi h => by
        rcases h with h | h
        · exact .inl h.1
        · exact .inr h)
/-- Open behind the crash, and what is there. -/
theorem each_open {hb : List UInt8} {X0 X1 X2 : PgV} (hd : DiskOk R w2 d S) (hst : Still S) (hlen : 104 ≤ S.now.length) (hh : S.now[24]? = some hb)
    (h3 : Fin3 (layNow S.now 0 (lfRes S.now 24 3 hb) (lfRes S.now 24 3 hb).length) X0 X1 X2) (k0 : X0.Ok ∧ X0.no = 0) (k1 : X1.Ok ∧ X1.no = 1) (k2 : X2.Ok ∧ X2.no = 2) :
    Calls Tryd.prog 7 #[.pointer (some ⟨d, 0, none⟩), .int .i64 0, .int .i64 3, .int .i64 (-1), .slice none 0 0] w2 fun e w' => ∃ p', e = .returned (.pointer (some ⟨p', 0, none⟩)) ∧ Fr R w2 w' ∧
      ∀ W, Fr Nob w' W → ∀ (no n : Nat) (X : PgV), (no = 0 ∧ X = X0 ∨ no = 1 ∧ X = X1 ∨ no = 2 ∧ X = X2) → n ≤ 100000 → Calls Tryd.prog 11 #[.pointer (some ⟨p', 0, none⟩), .int .i64 no, .int .i64 n] W fun e w'' => e = .returned (.bool (decide (X.lsn = n ∧ X.d = dataB n))) ∧ Fr Nob W w'' := by
  obtain ⟨hs, q0, q1, q2⟩ := h3.sound k0 k1 k2
  refine (opened_ok (hb := hb) 0 3 hd hst (by omega) (by omega) (by omega) hh (by omega) hs).mono ?_
  rintro e w' ⟨p', R', S', rfl, _, _, hfa, hd', hst', hnow, _, _, hfr⟩
  refine ⟨p', rfl, hfr.fr, fun W hW no n X hX hn => ?_⟩
  have e1 : S'.now = layNow S.now 0 (lfRes S.now 24 3 hb) (lfRes S.now 24 3 hb).length := hnow
  have hs' : PSound S'.now 0 3 := by rw [e1]; exact hs
  have hno : no < 3 := by rcases hX with h | h | h <;> omega
  have := is_any no n (hfa.fr hW (fun h => h)) (hd'.new hW) hst'.calm.dead hs' hno hn
  have e2 : pgAt S'.now 0 no = X := by
    rw [e1]
    rcases hX with ⟨rfl, rfl⟩ | ⟨rfl, rfl⟩ | ⟨rfl, rfl⟩
    · exact q0
    · exact q1
    · exact q2
  rwa [e2] at this
end
end Go.Proofs.YtilclfeaolhoeaaDoor
