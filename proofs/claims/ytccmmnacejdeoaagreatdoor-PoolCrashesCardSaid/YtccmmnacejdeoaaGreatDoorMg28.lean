/-
  Pool11, Pool12, Pool13, Pool14, Pool15, in one text.
-/
import Derived.Test.YtccmmnacejdeoaaGreatDoorMg27
/-
  room: one more page may be held.
-/
namespace Go.Proofs.YtccmmnacejdeoaaGreatDoor
set_option linter.unusedSimpArgs false
set_option linter.unusedVariables false
open Go.RowKit Go.Maps

section
variable {w w' : World} {p f l d pages : Nat} {frames : Int} {V : Nat → PgV} {L : LS} {M N : Nat} {RP RQ RL RD F : Nat → Prop} {hand : Int} {B : Nat} {rv : Value} {fs : List (Nat × Frm)} {cur : Nat → Option PgV} {S : DS} {T : Nat} {lot : List PgV}
theorem own_form {e : TypeId} {size n : Nat} {v : Value} {xs : List Value} {base : Nat} (h : w.ownsRow base e size v n xs) : ∃ A c, v = .slice A n c := by
  rcases h.2 with ⟨e1, e2⟩ | ⟨g, cap, cur, e1, _⟩
  · rw [e2]; exact ⟨_, _, e1⟩
  · exact ⟨_, _, e1⟩
set_option maxHeartbeats 3200000 in
set_option maxRecDepth 100000 in
theorem room_full (h : PIn w p f l d pages frames V L M N RP RQ RL RD hand B rv fs cur S T lot) (hfull : ¬ (fs.length : Int) < frames) (hM : M + 1 ≤ 1000000000000000000) :
    Calls Tryz.prog 25 #[.pointer (some ⟨p, 0, none⟩)] w fun e w' => e = .returned (.int .i64 0) ∧ ∃ L' S' T' lot' RD' hand' rv' fs' cur', PIn w' p f l d pages frames V L' (M + 1) N RP RQ RL RD' hand' B rv' fs' cur' S' T' lot' ∧ LSame L L' ∧ (fs'.length : Int) < frames ∧ (∀ y ∈ fs', ∃ z ∈ fs, z.2.x.no = y.2.x.no ∧ (y.2.dirty = true → z.2.dirty = true)) ∧ (∀ b, RD' b → RD b ∨ w.heap.size ≤ b) ∧ Fr (Uni RP RQ RL RD f) w w' := by
  have qL := len_round
  have H := Lib.hid h
  have hfl := h.pool.len
  have hf0 := h.pool.f0
  obtain ⟨n, hn⟩ : ∃ n, fs.length = n := ⟨_, rfl⟩
  have HNl := Lib.hid hn
  rw [hn] at hfull hfl
  have hro := h.pool.rnd
  rw [hn] at hro
  obtain ⟨g, cap, erv, _⟩ := hro.form (by omega)
  have HErv := Lib.hid erv
  have hlt : ¬ (n : Int) < frames := hfull
  have p4 := h.pool.blk.cell 4
  have p2 := h.pool.blk.cell 2
  have zp := h.pool.blk.lt
  simp only [List.getElem?_toArray, List.getElem?_cons_zero, List.getElem?_cons_succ] at p4 p2
  rw [erv] at p4
  have HVic := Lib.hid (victim_any (h.pool.new (Fr.refl Nob w).drew) (by rw [hn]; omega) (fun y hy => (h.views.ok y hy).1.no))
  clear h hn hro erv
  go_enter Tryz.func25, Tryz.ntmps25
  go_wp2
  have hS : Fr Nob w w.drew := (Fr.refl _ w).drew
  refine Rg.begin (Fr Nob w) [] (by kernel_rfl) ?_
  refine Rg.op 0 (some 3) hS (v := ?v0a) (hy := fun wz hwz => ?h0a) (h := ?_)
  case h0a => (go_simp; try with_reducible rfl)
  refine Rg.op 1 (some 4) hS (v := ?v1a) (hy := fun wz hwz => ?h1a) (h := ?_)
  case h1a => (have hpp := Nat.lt_of_lt_of_le zp hwz.size; go_simp; try with_reducible rfl)
  refine Rg.op 2 (some 5) hS (v := ?v2a) (hy := fun wz hwz => ?h2a) (h := ?_)
  case h2a => (have hpp := Nat.lt_of_lt_of_le zp hwz.size; go_simp; try with_reducible rfl)
  refine Rg.op 3 (some 6) hS (v := (.slice (some ⟨g, 0, none⟩) n cap)) (hy := fun wz hwz => ?h3a) (h := ?_)
  case h3a => (have cx := (hwz.cell (p := ⟨p, 4, none⟩) zp (fun h => h)).trans p4; have hpp := Nat.lt_of_lt_of_le zp hwz.size; go_simp; try with_reducible rfl)
  refine Rg.op 4 (some 7) hS (v := (.int .i64 n)) (hy := fun wz hwz => ?h4a) (h := ?_)
  case h4a => (have hq := qL; go_simp; try with_reducible rfl)
  refine Rg.op 5 (some 8) hS (v := ?v5a) (hy := fun wz hwz => ?h5a) (h := ?_)
  case h5a => (go_simp; try with_reducible rfl)
  refine Rg.op 6 (some 9) hS (v := ?v6a) (hy := fun wz hwz => ?h6a) (h := ?_)
  case h6a => (have hpp := Nat.lt_of_lt_of_le zp hwz.size; go_simp; try with_reducible rfl)
  refine Rg.op 7 (some 10) hS (v := ?v7a) (hy := fun wz hwz => ?h7a) (h := ?_)
  case h7a => (have hpp := Nat.lt_of_lt_of_le zp hwz.size; go_simp; try with_reducible rfl)
  refine Rg.op 8 (some 11) hS (v := (.int .i64 frames)) (hy := fun wz hwz => ?h8a) (h := ?_)
  case h8a => (have cx := (hwz.cell (p := ⟨p, 2, none⟩) zp (fun h => h)).trans p2; have hpp := Nat.lt_of_lt_of_le zp hwz.size; go_simp; try with_reducible rfl)
  refine Rg.op 9 (some 12) hS (v := (.bool false)) (hy := fun wz hwz => ?h9a) (h := ?_)
  case h9a => (have hq := hlt; go_simp; try with_reducible rfl)
  refine Rg.done _ (h := ?_)
  go_wp2_with fail
  refine HVic.out.mono ?_
  rintro e w1 ⟨i, b, m, gs, hd', rfl, hgi, hp1, hsu, hf1⟩
  have hin1 := (H.out.new (Fr.refl Nob w).drew).used hp1 hsu hf1
  have HIn1 := Lib.hid hin1
  have HSu := Lib.hid hsu
  have HF1 : Hid (Fr RP w w1) := ((Fr.refl RP w).drew).trans hf1
  have HEv := Lib.hid (Evict_held hin1 hgi hM)
  clear hin1 hsu hf1 hp1 hgi HVic
  go_wp2_with fail
  refine HEv.out.mono ?_
  rintro e w2 ⟨rfl, L', S', T', lot', RD', rv', fs', cur', hin2, hs2, hl2, hno2, hsub2, hf2⟩
  have HIn2 := Lib.hid hin2
  have HS2 := Lib.hid hs2
  have HNo2 := Lib.hid hno2
  have HSub2 := Lib.hid hsub2
  have HF2 := Lib.hid hf2
  have hl2' : fs'.length + 1 = n := by rw [hl2, HSu.out.1, HNl.out]
  clear hin2 hs2 hno2 hsub2 hf2 HEv hl2
  go_wp2
  go_ret
  have hz1 := HF1.out.size
  refine ⟨rfl, L', S', T', lot', RD', hd', rv', fs', cur', HIn2.out, HS2.out, by omega, fun y hy => ?_, fun x hx => ?_, ?_⟩
  · obtain ⟨_, z, hz, e, ed⟩ := HNo2.out y hy
    obtain ⟨j, hj⟩ := List.mem_iff_getElem?.1 hz
    obtain ⟨z', hz', _, e2, e3⟩ := HSu.out.2 j z hj
    exact ⟨z', List.mem_of_getElem? hz', by rw [e2]; exact e, fun h => by rw [e3]; exact ed h⟩
  · rcases HSub2.out x hx with h | h
    · exact .inl h
    · exact .inr (by omega)
  · exact ((HF1.out.mono (fun b _ e => .inl e)) : Fr (Uni RP RQ RL RD f) w w1).trans HF2.out
theorem room_any (h : PIn w p f l d pages frames V L M N RP RQ RL RD hand B rv fs cur S T lot) (hM : M + 1 ≤ 1000000000000000000) :
    Calls Tryz.prog 25 #[.pointer (some ⟨p, 0, none⟩)] w fun e w' => e = .returned (.int .i64 0) ∧ ∃ L' S' T' lot' RD' hand' rv' fs' cur', PIn w' p f l d pages frames V L' (M + 1) N RP RQ RL RD' hand' B rv' fs' cur' S' T' lot' ∧ LSame L L' ∧ (fs'.length : Int) < frames ∧ (∀ y ∈ fs', ∃ z ∈ fs, z.2.x.no = y.2.x.no ∧ (y.2.dirty = true → z.2.dirty = true)) ∧ (∀ b, RD' b → RD b ∨ w.heap.size ≤ b) ∧ Fr (Uni RP RQ RL RD f) w w' := by
  by_cases hlt : (fs.length : Int) < frames
  · obtain ⟨A, c, erv⟩ := own_form h.pool.rnd
    have hb := h.pool.blk
    rw [erv] at hb
    refine (room_yes (h := hb) hlt).mono ?_
    rintro e w' ⟨rfl, hf⟩
    have h' := h.new hf
    exact ⟨rfl, L, S, T, lot, RD, hand, rv, fs, cur, { h' with tm := by have := h'.tm; omega, M1 := hM }, LSame.refl L, hlt, fun y hy => ⟨y, hy, rfl, id⟩, fun b hb => .inl hb, hf.mono (fun _ _ h => h.elim)⟩
  · exact room_full h hlt hM
end
end Go.Proofs.YtccmmnacejdeoaaGreatDoor

/-
  Get: a page, held or read.
-/
namespace Go.Proofs.YtccmmnacejdeoaaGreatDoor
set_option linter.unusedSimpArgs false
set_option linter.unusedVariables false
open Go.RowKit Go.Maps

section
variable {w w' : World} {p f l d pages : Nat} {frames : Int} {V : Nat → PgV} {L : LS} {M N : Nat} {RP RQ RL RD F : Nat → Prop} {hand : Int} {B : Nat} {rv : Value} {fs : List (Nat × Frm)} {cur : Nat → Option PgV} {S : DS} {T : Nat} {lot : List PgV}
/-- A frame's marks change, nothing else. -/
theorem PIn.mark (h : PIn w p f l d pages frames V L M N RP RQ RL RD hand B rv fs cur S T lot) {i b : Nat} {m : Frm} (hi : fs[i]? = some (b, m)) : PIn (w.setCell ⟨b, 4, none⟩ (.bool true)) p f l d pages frames V L M N RP RQ RL RD hand B rv (fs.set i (b, { m with used := true })) cur S T lot := by
  have hfs : Fr (fun x => x = b) w (w.setCell ⟨b, 4, none⟩ (.bool true)) := (Fr.refl (fun x => x = b) w).setCell (p := ⟨b, 4, none⟩) (.inr rfl) _
  obtain ⟨rb, kb, ko, cc, rq, hfb, hbs⟩ := h.pool.frm _ (List.mem_of_getElem? hi)
  have hm' : FrmAt RP RQ (w.setCell ⟨b, 4, none⟩ (.bool true)) b { m with used := true } := ⟨rb, kb, ko, cc, rq, hfb.set_ 4 _, hbs.fr hfs (fun a ha e => by injection ha with ha; subst ha; exact h.pool.ap b rb (e ▸ rq))⟩
  exact { h with
    pool := h.pool.setF (m' := { m with used := true }) hi hfs rfl hm'
    und := h.und.fr hfs (fun x hx e => (h.ap b (.inl rb)).1 (e ▸ hx)) (fun x hx e => (h.ap b (.inl rb)).2.1 (e ▸ hx)) (fun e => (h.ap b (.inl rb)).2.2 e.symm)
    views := h.views.used hi true }
set_option maxHeartbeats 3200000 in
set_option maxRecDepth 100000 in
theorem Get_held (h : PIn w p f l d pages frames V L M N RP RQ RL RD hand B rv fs cur S T lot) {i b : Nat} {m : Frm} (hi : fs[i]? = some (b, m)) :
    Calls Tryz.prog 9 #[.pointer (some ⟨p, 0, none⟩), .int .i64 m.x.no] w fun e w' => ∃ g, e = .returned (.tuple #[.agg #[.int .i64 m.x.no, .int .u64 m.x.lsn, .slice (some ⟨g, 0, none⟩) 480 480], .int .i64 0]) ∧ CopyIn w' g m.x.d ∧ w.heap.size ≤ g ∧ PIn w' p f l d pages frames V L M N RP RQ RL RD hand B rv (fs.set i (b, { m with used := true })) cur S T lot ∧ Fr RP w w' := by
  obtain ⟨gr, hgr⟩ : ∃ g, w.heap.size = g := ⟨_, rfl⟩
  have HGr := Lib.hid hgr
  have hfa : Fr Nob w (w.alloc (.cells #[.int .i64 0, .int .u64 0, .slice none 0 0] 40)) := (Fr.refl _ w).alloc _
  have hba : Blk (w.alloc (.cells #[.int .i64 0, .int .u64 0, .slice none 0 0] 40)) gr 40 #[.int .i64 0, .int .u64 0, .slice none 0 0] := by rw [← hgr]; exact Blk.new _ _ _
  have hin := h.new hfa
  obtain ⟨wa, hwa⟩ : ∃ W, w.alloc (.cells #[.int .i64 0, .int .u64 0, .slice none 0 0] 40) = W := ⟨_, rfl⟩
  rw [hwa] at hfa hba hin
  have HIn := Lib.hid hin
  have HI := Lib.hid hi
  have HFa := Lib.hid hfa
  have HBa := Lib.hid hba
  have HMap := Lib.hid hin.pool.map
  have HHeld : Hid (heldAt (ksOf fs) (m.x.no : Int) = some b) := heldAt_at h.pool.dis (ksOf_of hi)
  obtain ⟨hmok, hno⟩ := h.views.ok _ (List.mem_of_getElem? hi)
  have hno5 : m.x.no < 100000 := hmok.no
  have HMd : Hid (m.x.d.length = 480) := hmok.d
  obtain ⟨rb, kb, ko, cc, rq, hfb, hbs⟩ := hin.pool.frm _ (List.mem_of_getElem? hi)
  dsimp only at rb hfb hbs
  have hin1 := hin.mark hi
  have hblt : b < w.heap.size := h.pool.lt b rb
  have hb1 : Blk (wa.setCell ⟨b, 4, none⟩ (.bool true)) b 75 #[.int .i64 m.x.no, .int .u64 m.x.lsn, .slice (some ⟨kb, ko, none⟩) 480 cc, .bool m.dirty, .bool true] := hfb.set_ 4 _
  have hbs1 : Bsl (wa.setCell ⟨b, 4, none⟩ (.bool true)) (some ⟨kb, ko, none⟩) cc m.x.d := hbs.fr ((Fr.refl (fun x => x = b) wa).setCell (p := ⟨b, 4, none⟩) (.inr rfl) (.bool true)) (fun a ha e => by injection ha with ha; subst ha; exact h.pool.ap b rb (e ▸ rq))
  have hba1 : Blk (wa.setCell ⟨b, 4, none⟩ (.bool true)) gr 40 #[.int .i64 0, .int .u64 0, .slice none 0 0] := hba.far (p := ⟨b, 4, none⟩) (by show gr ≠ b; omega) _
  have HIn1 := Lib.hid hin1
  have HBa1 := Lib.hid hba1
  have HCp := Lib.hid (copied_any (m.x.no : Int) (m.x.lsn : Int) kb ko cc m.x.d hbs1 hmok.d)
  have fb4 := hfb.cell 4
  have fq4 := hfb.frozen 4
  have zb := hfb.lt
  have p3 := hin.pool.blk.cell 3
  have zp := hin.pool.blk.lt
  have k0 := hb1.cell 0
  have k1 := hb1.cell 1
  have k2 := hb1.cell 2
  have kz := hb1.lt
  simp only [List.getElem?_toArray, List.getElem?_cons_zero, List.getElem?_cons_succ] at p3 fb4 k0 k1 k2
  have HRb := Lib.hid rb
  have HUlt : Hid (∀ x, Uni RP RQ RL RD f x → x < w.heap.size) := fun x hx => h.lt hx
  clear h hi hin hfa hba hfb hbs rq hin1 hb1 hbs1 hba1 hmok rb
  go_enter Tryz.func9, Tryz.ntmps9
  go_wp2_with (with_reducible refine wpList_fr_look _ rfl _ _ _ rfl _ _ key_law Tryz.underlying67 (mapif_zero _) B _ _ rfl HMap.out (m.x.no : Int) rfl (key_of _ (by omega) (by omega)) ?_; rw [HHeld.out]; dsimp only [ptrOf, Option.isSome])
  refine HCp.out.mono ?_
  rintro e w2 ⟨g, rfl, hc2, hg2, hf2⟩
  have hb2 := HBa1.out.fr hf2 (fun h => h)
  have HB2 := Lib.hid hb2
  have HC2 := Lib.hid hc2
  have HF2 := Lib.hid hf2
  have s0 := hb2.cell 0
  have s1 := hb2.cell 1
  have s2 := hb2.cell 2
  have t0 := hb2.frozen 0
  have t1 := hb2.frozen 1
  have t2 := hb2.frozen 2
  have sz := hb2.lt
  have hgl := hc2.lt
  simp only [List.getElem?_toArray, List.getElem?_cons_zero, List.getElem?_cons_succ] at s0 s1 s2
  clear hb2 hc2 hf2 HCp
  go_wp2
  have hfE : Fr (fun x => x = gr) w2 (((w2.setCell ⟨gr, 0, none⟩ (.int .i64 m.x.no)).setCell ⟨gr, 1, none⟩ (.int .u64 m.x.lsn)).setCell ⟨gr, 2, none⟩ (.slice (some ⟨g, 0, none⟩) 480 480)) :=
    (((Fr.refl (fun x => x = gr) w2).setCell (p := ⟨gr, 0, none⟩) (.inr rfl) _).setCell (p := ⟨gr, 1, none⟩) (.inr rfl) _).setCell (p := ⟨gr, 2, none⟩) (.inr rfl) _
  have hbE : Blk (((w2.setCell ⟨gr, 0, none⟩ (.int .i64 m.x.no)).setCell ⟨gr, 1, none⟩ (.int .u64 m.x.lsn)).setCell ⟨gr, 2, none⟩ (.slice (some ⟨g, 0, none⟩) 480 480)) gr 40 #[.int .i64 m.x.no, .int .u64 m.x.lsn, .slice (some ⟨g, 0, none⟩) 480 480] := ((HB2.out.set_ 0 _).set_ 1 _).set_ 2 _
  have hgz : (wa.setCell ⟨b, 4, none⟩ (.bool true)).heap.size ≤ g := hg2
  have hga : gr < (wa.setCell ⟨b, 4, none⟩ (.bool true)).heap.size := HBa1.out.lt
  have hwg := HGr.out
  refine bodyPost_ret (results_cell_rowP rfl _ _ _ _ _ _ rfl hbE Tryz.underlying40 rfl page_size) rfl ⟨g, rfl, HC2.out.fr hfE (fun e => by omega), by omega, (HIn1.out.new HF2.out).fr hfE (fun x hx e => by
    have := (HIn.out.lt (b := x) hx)
    have hx2 : x < w.heap.size := by
      have h0 := HUlt.out x hx
      exact h0
    omega), ?_⟩
  have h1 : Fr RP w (wa.setCell ⟨b, 4, none⟩ (.bool true)) := ((HFa.out.mono (fun _ _ h => h.elim) : Fr RP w wa)).setCell (p := ⟨b, 4, none⟩) (.inr HRb.out) _
  exact (h1.trans (HF2.out.mono (fun _ _ h => h.elim))).step hfE (fun i hi e => by omega)
end
end Go.Proofs.YtccmmnacejdeoaaGreatDoor

/-
  Get of a page that is not held: read, held, copied.
-/
namespace Go.Proofs.YtccmmnacejdeoaaGreatDoor
set_option linter.unusedSimpArgs false
set_option linter.unusedVariables false
open Go.RowKit Go.Maps

section
variable {w w' : World} {p f l d pages : Nat} {frames : Int} {V : Nat → PgV} {L : LS} {M N : Nat} {RP RQ RL RD F : Nat → Prop} {hand : Int} {B : Nat} {rv : Value} {fs : List (Nat × Frm)} {cur : Nat → Option PgV} {S : DS} {T : Nat} {lot : List PgV}
/-- What hold leaves of all. -/
theorem PIn.hold (h : PIn w p f l d pages frames V L M N RP RQ RL RD hand B rv fs cur S T lot) {x : PgV} {dirty : Bool} {gb g0 : Nat} {rv' : Value} {V' : Nat → PgV} (hv : Views (fs ++ [(gb, ⟨x, dirty, true⟩)]) cur pages V') (hvo : ∀ no, no < pages → (V' no).Ok ∧ (V' no).no = no)
    (hp : PoolAt (fun b => RP b ∨ (w.heap.size ≤ b ∧ b < w'.heap.size)) (fun b => RQ b ∨ b = g0) w' p f l frames hand B rv' (fs ++ [(gb, ⟨x, dirty, true⟩)])) (hf : Fr (fun b => b = p ∨ b = B ∨ some b = rv.ownBlock) w w') (hg : ¬ RL g0 ∧ ¬ RD g0 ∧ g0 ≠ f) :
    PIn w' p f l d pages frames V' L M N (fun b => RP b ∨ (w.heap.size ≤ b ∧ b < w'.heap.size)) (fun b => RQ b ∨ b = g0) RL RD hand B rv' (fs ++ [(gb, ⟨x, dirty, true⟩)]) cur S T lot ∧ Fr RP w w' := by
  have hf' : Fr RP w w' := hf.mono (fun b _ e => by
    rcases e with rfl | rfl | e
    · exact h.pool.rp
    · exact h.pool.rB
    · exact h.pool.rA b e.symm)
  refine ⟨?_, hf'⟩
  exact {
    pool := hp
    und := h.und.fr hf' (fun b hb e => (h.ap b (.inl e)).1 hb) (fun b hb e => (h.ap b (.inl e)).2.1 hb) (fun e => (h.ap f (.inl e)).2.2 rfl)
    ap := fun b hb => by
      rcases hb with (hb | hb) | (hb | hb)
      · exact h.ap b (.inl hb)
      · refine ⟨fun e => ?_, fun e => ?_, fun e => ?_⟩
        · have := h.und.log.lt e; omega
        · have := h.und.disk.lt e; omega
        · have := h.und.flt; omega
      · exact h.ap b (.inr hb)
      · rw [hb]; exact hg
    views := hv
    tm := h.tm
    M1 := h.M1
    vok := hvo }
set_option maxHeartbeats 3200000 in
set_option maxRecDepth 100000 in
theorem Get_new (h : PIn w p f l d pages frames V L M N RP RQ RL RD hand B rv fs cur S T lot) (x : PgV) (hno : x.no < pages) (hn : ∀ y ∈ fs, y.2.x.no ≠ x.no) (hx : V x.no = x) (hM : M + 1 ≤ 1000000000000000000) :
    Calls Tryz.prog 9 #[.pointer (some ⟨p, 0, none⟩), .int .i64 x.no] w fun e w' => ∃ g, e = .returned (.tuple #[.agg #[.int .i64 x.no, .int .u64 x.lsn, .slice (some ⟨g, 0, none⟩) 480 480], .int .i64 0]) ∧ CopyIn w' g x.d ∧ w.heap.size ≤ g ∧ ∃ L' S' T' lot' RP' RQ' RD' hand' rv' fs' cur', PIn w' p f l d pages frames V L' (M + 1) N RP' RQ' RL RD' hand' B rv' fs' cur' S' T' lot' ∧ LSame L L' ∧ (∀ y ∈ fs', y.2.dirty = true → ∃ z ∈ fs, z.2.x.no = y.2.x.no ∧ z.2.dirty = true) ∧ ¬ Uni RP' RQ' RL RD' f g ∧ (∀ b, Uni RP' RQ' RL RD' f b → Uni RP RQ RL RD f b ∨ w.heap.size ≤ b) ∧ Fr (Uni RP RQ RL RD f) w w' := by
  obtain ⟨gr, hgr⟩ : ∃ g, w.heap.size = g := ⟨_, rfl⟩
  have HGr := Lib.hid hgr
  have hfa : Fr Nob w (w.alloc (.cells #[.int .i64 0, .int .u64 0, .slice none 0 0] 40)) := (Fr.refl _ w).alloc _
  have hba : Blk (w.alloc (.cells #[.int .i64 0, .int .u64 0, .slice none 0 0] 40)) gr 40 #[.int .i64 0, .int .u64 0, .slice none 0 0] := by rw [← hgr]; exact Blk.new _ _ _
  have hin := h.new hfa
  obtain ⟨wa, hwa⟩ : ∃ W, w.alloc (.cells #[.int .i64 0, .int .u64 0, .slice none 0 0] 40) = W := ⟨_, rfl⟩
  rw [hwa] at hfa hba hin
  have HIn := Lib.hid hin
  have HFa := Lib.hid hfa
  have HBa := Lib.hid hba
  have HN := Lib.hid hn
  have HUlt : Hid (∀ b, Uni RP RQ RL RD f b → b < w.heap.size) := fun b hb => h.lt hb
  have HMap := Lib.hid hin.pool.map
  have HHeld : Hid (heldAt (ksOf fs) (x.no : Int) = none) := heldAt_none (fun k hk e => by
    unfold ksOf at hk
    obtain ⟨y, hy, rfl⟩ := List.mem_map.1 hk
    exact hn y hy (by have e : (y.2.x.no : Int) = x.no := e; omega))
  have hfile : pgOf (cur x.no) x.no = x := by
    rw [h.views.file x.no hno (fun y hy e => absurd e (hn y hy)), hx]
  have HX := Lib.hid hx
  obtain ⟨hxok, _⟩ := h.vok x.no hno
  rw [hx] at hxok
  have HOk := Lib.hid hxok
  have hrd := hin.und.read x.no hno
  rw [hfile] at hrd
  have HRd := Lib.hid hrd
  have hpg := h.und.pg2
  have p3 := hin.pool.blk.cell 3
  have p0 := hin.pool.blk.cell 0
  have zp := hin.pool.blk.lt
  simp only [List.getElem?_toArray, List.getElem?_cons_zero, List.getElem?_cons_succ] at p3 p0
  clear h hin hfa hba hn hx hxok hfile hrd
  go_enter Tryz.func9, Tryz.ntmps9
  go_wp2_with (with_reducible refine wpList_fr_look _ rfl _ _ _ rfl _ _ key_law Tryz.underlying67 (mapif_zero _) B _ _ rfl HMap.out (x.no : Int) rfl (key_of _ (by omega) (by omega)) ?_; rw [HHeld.out]; dsimp only [ptrOf, Option.isSome])
  refine HRd.out.mono ?_
  rintro e w2 ⟨g0, o0, rfl, hb2, _, _, hg2, hf2⟩
  have HB2 := Lib.hid hb2
  have HIn2 := Lib.hid (HIn.out.new hf2)
  have HF2 := Lib.hid (HFa.out.trans hf2)
  have HBa2 := Lib.hid (HBa.out.fr hf2 (fun h => h))
  have hg0l := hb2.lt _ rfl
  have hg0l : g0 < w2.heap.size := hg0l
  clear hb2 hf2 HRd hwa hgr p0 p3 zp
  go_wp2_with fail
  have hf3 : Fr Nob w2 (w2.alloc (.cells #[.int .i64 x.no, .int .u64 x.lsn, .slice (some ⟨g0, o0, none⟩) 480 480] 40)) := (Fr.refl _ w2).alloc _
  have hb3 : Blk (w2.alloc (.cells #[.int .i64 x.no, .int .u64 x.lsn, .slice (some ⟨g0, o0, none⟩) 480 480] 40)) w2.heap.size 40 #[.int .i64 x.no, .int .u64 x.lsn, .slice (some ⟨g0, o0, none⟩) 480 480] := Blk.new _ _ _
  have hz3 : (w2.alloc (.cells #[.int .i64 x.no, .int .u64 x.lsn, .slice (some ⟨g0, o0, none⟩) 480 480] 40)).heap.size = w2.heap.size + 1 := by simp
  have HRoom := Lib.hid (room_any (HIn2.out.new hf3) hM)
  have HF3 := Lib.hid hf3
  have HB3 := Lib.hid hb3
  have HZ3 := Lib.hid hz3
  obtain ⟨gx, hgx⟩ : ∃ g, w2.heap.size = g := ⟨_, rfl⟩
  have HGx := Lib.hid hgx
  obtain ⟨w3, hw3⟩ : ∃ W, w2.alloc (.cells #[.int .i64 x.no, .int .u64 x.lsn, .slice (some ⟨g0, o0, none⟩) 480 480] 40) = W := ⟨_, rfl⟩
  rw [hw3] at HF3 HB3 HZ3 HRoom
  rw [hgx] at HB3
  rw [hw3]
  clear hf3 hb3 hz3 hw3
  refine HRoom.out.mono ?_
  rintro e w4 ⟨rfl, L', S', T', lot', RD', hand', rv', fs', cur', hin4, hs4, hl4, hno4, hsub4, hf4⟩
  have hzz := HFa.out.size
  have hz2 := HF2.out.size
  have hz23 := HF3.out.size
  have hwg := HGr.out
  have hgxz := HGx.out
  have hzeq := HZ3.out
  have hU : ∀ b, w.heap.size ≤ b → ¬ Uni RP RQ RL RD f b := fun b hb e => by have := HUlt.out b e; omega
  have hawlt : w.heap.size ≤ g0 := by omega
  have HIn4 := Lib.hid hin4
  have HS4 := Lib.hid hs4
  have HSub4 := Lib.hid hsub4
  have HF4 := Lib.hid hf4
  have hbx4 := HB3.out.fr hf4 (hU gx (by omega))
  have HBx4 := Lib.hid hbx4
  have HBa4 := Lib.hid ((HBa2.out.fr HF3.out (fun h => h)).fr hf4 (hU gr (by omega)))
  have hbs4 : Bsl w4 (some ⟨g0, o0, none⟩) 480 x.d := (HB2.out.new HF3.out).fr hf4 (fun a ha e => by injection ha with ha; subst ha; exact hU g0 hawlt e)
  have HBs4 := Lib.hid hbs4
  have hn4 : ∀ y ∈ fs', y.2.x.no ≠ x.no := fun y hy e => by
    obtain ⟨z, hz, e2, _⟩ := hno4 y hy
    exact HN.out z hz (e2.trans e)
  have HNo4 := Lib.hid hno4
  have HN4 := Lib.hid hn4
  have hRPg : ¬ RP g0 := fun e => hU g0 hawlt (.inl e)
  have HHold := Lib.hid (hold_any hin4.pool x false g0 o0 480 hbs4 hRPg hl4 hn4 HOk.out.no)
  have k0 := hbx4.cell 0
  have k1 := hbx4.cell 1
  have k2 := hbx4.cell 2
  have kz := hbx4.lt
  simp only [List.getElem?_toArray, List.getElem?_cons_zero, List.getElem?_cons_succ] at k0 k1 k2
  clear hin4 hs4 hsub4 hf4 hbx4 hbs4 hn4 hno4 HRoom hgx
  go_wp2_with fail
  refine HHold.out.mono ?_
  rintro e w5 ⟨rfl, rv5, gb, hp5, hf5⟩
  have hz34 : w3.heap.size ≤ w4.heap.size := HF4.out.size
  have hg0o : ¬ RL g0 ∧ ¬ RD' g0 ∧ g0 ≠ f := ⟨fun e => hU g0 hawlt (.inr (.inr (.inl e))), fun e => by
    rcases HSub4.out g0 e with e | e
    · exact hU g0 hawlt (.inr (.inr (.inr (.inl e))))
    · omega, fun e => hU g0 hawlt (.inr (.inr (.inr (.inr e))))⟩
  obtain ⟨hin5, hf5'⟩ := HIn4.out.hold (HIn4.out.views.hold hno HN4.out gb x HX.out.symm rfl HOk.out) HIn4.out.vok hp5 hf5 hg0o
  have hRP : ∀ b, w.heap.size ≤ b → ¬ RP b := fun b hb e => hU b hb (.inl e)
  have hbx5 := HBx4.out.fr hf5' (hRP gx (by omega))
  have hba5 := HBa4.out.fr hf5' (hRP gr (by omega))
  have hbs5 : Bsl w5 (some ⟨g0, o0, none⟩) 480 x.d := HBs4.out.fr hf5' (fun a ha e => by injection ha with ha; subst ha; exact hRPg e)
  have HIn5 := Lib.hid hin5
  have HF5 := Lib.hid hf5'
  have HBa5 := Lib.hid hba5
  have HCp := Lib.hid (copied_any (x.no : Int) (x.lsn : Int) g0 o0 480 x.d hbs5 HOk.out.d)
  have k0 := hbx5.cell 0
  have k1 := hbx5.cell 1
  have k2 := hbx5.cell 2
  have kz := hbx5.lt
  simp only [List.getElem?_toArray, List.getElem?_cons_zero, List.getElem?_cons_succ] at k0 k1 k2
  clear hp5 hf5 hin5 hf5' hbx5 hba5 hbs5 HHold
  go_wp2_with fail
  refine HCp.out.mono ?_
  rintro e w6 ⟨g, rfl, hc6, hg6, hf6⟩
  have hb6 := HBa5.out.fr hf6 (fun h => h)
  have HB6 := Lib.hid hb6
  have HC6 := Lib.hid hc6
  have HF6 := Lib.hid hf6
  have s0 := hb6.cell 0
  have s1 := hb6.cell 1
  have s2 := hb6.cell 2
  have t0 := hb6.frozen 0
  have t1 := hb6.frozen 1
  have t2 := hb6.frozen 2
  have sz := hb6.lt
  have hgl := hc6.lt
  simp only [List.getElem?_toArray, List.getElem?_cons_zero, List.getElem?_cons_succ] at s0 s1 s2
  clear hb6 hc6 hf6 HCp
  go_wp2
  have hfE : Fr (fun x => x = gr) w6 (((w6.setCell ⟨gr, 0, none⟩ (.int .i64 x.no)).setCell ⟨gr, 1, none⟩ (.int .u64 x.lsn)).setCell ⟨gr, 2, none⟩ (.slice (some ⟨g, 0, none⟩) 480 480)) :=
    (((Fr.refl (fun x => x = gr) w6).setCell (p := ⟨gr, 0, none⟩) (.inr rfl) _).setCell (p := ⟨gr, 1, none⟩) (.inr rfl) _).setCell (p := ⟨gr, 2, none⟩) (.inr rfl) _
  have hbE : Blk (((w6.setCell ⟨gr, 0, none⟩ (.int .i64 x.no)).setCell ⟨gr, 1, none⟩ (.int .u64 x.lsn)).setCell ⟨gr, 2, none⟩ (.slice (some ⟨g, 0, none⟩) 480 480)) gr 40 #[.int .i64 x.no, .int .u64 x.lsn, .slice (some ⟨g, 0, none⟩) 480 480] := ((HB6.out.set_ 0 _).set_ 1 _).set_ 2 _
  have hz45 := HF5.out.size
  have hga5 : gr < w5.heap.size := HBa5.out.lt
  have hUni5 : ∀ b, Uni (fun b => RP b ∨ (w4.heap.size ≤ b ∧ b < w5.heap.size)) (fun b => RQ b ∨ b = g0) RL RD' f b → (Uni RP RQ RL RD f b ∨ (w2.heap.size ≤ b ∧ b ≠ gr) ∨ b = g0) ∧ b < w5.heap.size := fun b hb => by
    refine ⟨?_, HIn5.out.lt hb⟩
    rcases hb with (hb | hb) | (hb | hb) | hb | hb | hb
    · exact .inl (.inl hb)
    · exact .inr (.inl ⟨by omega, by omega⟩)
    · exact .inl (.inr (.inl hb))
    · exact .inr (.inr hb)
    · exact .inl (.inr (.inr (.inl hb)))
    · rcases HSub4.out b hb with e | e
      · exact .inl (.inr (.inr (.inr (.inl e))))
      · exact .inr (.inl ⟨by omega, by omega⟩)
    · exact .inl (.inr (.inr (.inr (.inr hb))))
  refine bodyPost_ret (results_cell_rowP rfl _ _ _ _ _ _ rfl hbE Tryz.underlying40 rfl page_size) rfl ⟨g, rfl, HC6.out.fr hfE (fun e => by omega), by omega, L', S', T', lot', _, _, RD', hand', rv5, _, cur', (HIn5.out.new HF6.out).fr hfE (fun b hb e => ?_), HS4.out, fun y hy hd => ?_, fun e => ?_, fun b hb => ?_, ?_⟩
  · have e : b = gr := e
    subst e
    obtain ⟨h1 | h1 | h1, _⟩ := hUni5 _ hb
    · exact hU _ (by omega) h1
    · exact h1.2 rfl
    · have := HBa.out.lt; omega
  · rcases List.mem_append.1 hy with hy | hy
    · obtain ⟨z, hz, e1, e2⟩ := HNo4.out y hy
      exact ⟨z, hz, e1, e2 hd⟩
    · rw [List.mem_singleton] at hy
      rw [hy] at hd
      exact Bool.noConfusion hd
  · have := (hUni5 _ e).2; omega
  · obtain ⟨h1 | h1 | h1, _⟩ := hUni5 _ hb
    · exact .inl h1
    · exact .inr (by omega)
    · exact .inr (by omega)
  · exact ((((HF2.out.trans HF3.out).mono (fun _ _ h => h.elim) : Fr (Uni RP RQ RL RD f) w w3).trans HF4.out).trans ((HF5.out.mono (fun _ _ h => .inl h) : Fr (Uni RP RQ RL RD f) w4 w5).trans (HF6.out.mono (fun _ _ h => h.elim)))).step hfE (fun i hi e => by omega)
end
end Go.Proofs.YtccmmnacejdeoaaGreatDoor

/-
  Put: a page that is held, another one.
-/
namespace Go.Proofs.YtccmmnacejdeoaaGreatDoor
set_option linter.unusedSimpArgs false
set_option linter.unusedVariables false
open Go.RowKit Go.Maps

section
variable {w w' : World} {p f l d pages : Nat} {frames : Int} {V : Nat → PgV} {L : LS} {M N : Nat} {RP RQ RL RD F : Nat → Prop} {hand : Int} {B : Nat} {rv : Value} {fs : List (Nat × Frm)} {cur : Nat → Option PgV} {S : DS} {T : Nat} {lot : List PgV}
set_option maxHeartbeats 3200000 in
set_option maxRecDepth 100000 in
theorem Put_held (h : PIn w p f l d pages frames V L M N RP RQ RL RD hand B rv fs cur S T lot) (x : PgV) (kb ko c : Nat) (hb : Bsl w (some ⟨kb, ko, none⟩) c x.d) (hok : x.Ok) (hno : x.no < pages) (hls : x.lsn < L.next) {i b : Nat} {m : Frm} (hi : fs[i]? = some (b, m)) (hm : m.x.no = x.no) :
    Calls Tryz.prog 8 #[.pointer (some ⟨p, 0, none⟩), .agg #[.int .i64 x.no, .int .u64 x.lsn, .slice (some ⟨kb, ko, none⟩) 480 c]] w fun e w' => e = .returned (.int .i64 0) ∧ ∃ gn, w.heap.size ≤ gn ∧ gn < w'.heap.size ∧ PIn w' p f l d pages frames (fun no => if no = x.no then x else V no) L M N RP (fun k => RQ k ∨ k = gn) RL RD hand B rv (fs.set i (b, ⟨x, true, true⟩)) cur S T lot ∧ Fr RP w w' := by
  have qB := len_by
  obtain ⟨gx, hgx⟩ : ∃ g, w.heap.size = g := ⟨_, rfl⟩
  have HGx := Lib.hid hgx
  have hfa : Fr Nob w (w.alloc (.cells #[.int .i64 x.no, .int .u64 x.lsn, .slice (some ⟨kb, ko, none⟩) 480 c] 40)) := (Fr.refl _ w).alloc _
  have hbx : Blk (w.alloc (.cells #[.int .i64 x.no, .int .u64 x.lsn, .slice (some ⟨kb, ko, none⟩) 480 c] 40)) gx 40 #[.int .i64 x.no, .int .u64 x.lsn, .slice (some ⟨kb, ko, none⟩) 480 c] := by rw [← hgx]; exact Blk.new _ _ _
  have hin := h.new hfa
  obtain ⟨wa, hwa⟩ : ∃ W, w.alloc (.cells #[.int .i64 x.no, .int .u64 x.lsn, .slice (some ⟨kb, ko, none⟩) 480 c] 40) = W := ⟨_, rfl⟩
  rw [hwa] at hfa hbx hin
  have HIn := Lib.hid hin
  have HFa := Lib.hid hfa
  have HBx := Lib.hid hbx
  have x0 := hbx.cell 0
  have x1 := hbx.cell 1
  have x2 := hbx.cell 2
  have zx := hbx.lt
  have p0 := hin.pool.blk.cell 0
  have p1 := hin.pool.blk.cell 1
  have zp := hin.pool.blk.lt
  have hpg := h.und.pg2
  simp only [List.getElem?_toArray, List.getElem?_cons_zero, List.getElem?_cons_succ] at x0 x1 x2 p0 p1
  have p3 := hin.pool.blk.cell 3
  simp only [List.getElem?_toArray, List.getElem?_cons_zero, List.getElem?_cons_succ] at p3
  have HOk := Lib.hid hok
  have HBa := Lib.hid (hb.new hfa)
  have hno5 := hok.no
  have t0 : ¬ (x.no : Int) < 0 := by omega
  have t1 : ¬ (pages : Int) ≤ (x.no : Int) := by omega
  have t2 : True := trivial
  have t3 : ¬ L.next ≤ x.lsn := by omega
  have HUlt : Hid (∀ b, Uni RP RQ RL RD f b → b < w.heap.size) := fun b hb => h.lt hb
  have HI := Lib.hid hi
  have HM := Lib.hid hm
  have HHeld : Hid (heldAt (ksOf fs) (x.no : Int) = some b) := by
    have := heldAt_at h.pool.dis (ksOf_of hi)
    rw [hm] at this
    exact this
  obtain ⟨rb, kb', ko', cc, rq, hfb, hbs⟩ := hin.pool.frm _ (List.mem_of_getElem? hi)
  dsimp only at rb hfb hbs
  have HFb := Lib.hid hfb
  have HRb := Lib.hid rb
  clear h hin hfa hbx hb hok hi hm hfb hbs rq rb
  go_enter Tryz.func8, Tryz.ntmps8
  go_wp2
  have hS : Fr Nob wa wa.drew := (Fr.refl _ wa).drew
  refine Rg.begin (Fr Nob wa) [] (by kernel_rfl) ?_
  refine Rg.op 0 (some 8) hS (v := ?v0h) (hy := fun wz hwz => ?h0h) (h := ?_)
  case h0h => (go_simp; try with_reducible rfl)
  refine Rg.op 1 (some 9) hS (v := (.int .i64 x.no)) (hy := fun wz hwz => ?h1h) (h := ?_)
  case h1h => (have cx := (hwz.cell (p := ⟨gx, 0, none⟩) zx (fun h => h)).trans x0; have hpp := Nat.lt_of_lt_of_le zx hwz.size; go_simp; try with_reducible rfl)
  refine Rg.op 2 (some 10) hS (v := (.bool false)) (hy := fun wz hwz => ?h2h) (h := ?_)
  case h2h => (have hq := t0; go_simp; try with_reducible rfl)
  refine Rg.op 3 (some 11) hS (v := ?v3h) (hy := fun wz hwz => ?h3h) (h := ?_)
  case h3h => (go_simp; try with_reducible rfl)
  refine Rg.op 4 (some 12) hS (v := ?v4h) (hy := fun wz hwz => ?h4h) (h := ?_)
  case h4h => (go_simp; try with_reducible rfl)
  refine Rg.op 5 (some 13) hS (v := (.int .i64 x.no)) (hy := fun wz hwz => ?h5h) (h := ?_)
  case h5h => (have cx := (hwz.cell (p := ⟨gx, 0, none⟩) zx (fun h => h)).trans x0; have hpp := Nat.lt_of_lt_of_le zx hwz.size; go_simp; try with_reducible rfl)
  refine Rg.op 6 (some 14) hS (v := ?v6h) (hy := fun wz hwz => ?h6h) (h := ?_)
  case h6h => (go_simp; try with_reducible rfl)
  refine Rg.op 7 (some 15) hS (v := ?v7h) (hy := fun wz hwz => ?h7h) (h := ?_)
  case h7h => (have hpp := Nat.lt_of_lt_of_le zp hwz.size; go_simp; try with_reducible rfl)
  refine Rg.op 8 (some 16) hS (v := ?v8h) (hy := fun wz hwz => ?h8h) (h := ?_)
  case h8h => (have hpp := Nat.lt_of_lt_of_le zp hwz.size; go_simp; try with_reducible rfl)
  refine Rg.op 9 (some 17) hS (v := (.pointer (some ⟨f, 0, none⟩))) (hy := fun wz hwz => ?h9h) (h := ?_)
  case h9h => (have cx := (hwz.cell (p := ⟨p, 0, none⟩) zp (fun h => h)).trans p0; have hpp := Nat.lt_of_lt_of_le zp hwz.size; go_simp; try with_reducible rfl)
  refine Rg.call 10 (some 18) (hrun := ?h10h) (hcall := Pages_any (HIn.out.und.file.fr hS (fun h => h))) (h := ?_)
  case h10h => (go_simp)
  rintro e w3h ⟨rfl, rfl⟩
  refine ⟨_, ?a10h, rfl, ?b10h, (fun _ => hS), ?_⟩
  case b10h => (simp only [Act.put, List.setIfInBounds_toArray, List.set_cons_zero, List.set_cons_succ]; rfl)
  refine Rg.op 11 (some 19) hS (v := (.bool false)) (hy := fun wz hwz => ?h11h) (h := ?_)
  case h11h => (have hq := t1; go_simp; try with_reducible rfl)
  refine Rg.op 12 (some 20) hS (v := (.bool false)) (hy := fun wz hwz => ?h12h) (h := ?_)
  case h12h => (go_simp; try with_reducible rfl)
  refine Rg.op 13 (some 21) hS (v := ?v13h) (hy := fun wz hwz => ?h13h) (h := ?_)
  case h13h => (go_simp; try with_reducible rfl)
  refine Rg.op 14 (some 22) hS (v := ?v14h) (hy := fun wz hwz => ?h14h) (h := ?_)
  case h14h => (go_simp; try with_reducible rfl)
  refine Rg.op 15 (some 23) hS (v := (.slice (some ⟨kb, ko, none⟩) 480 c)) (hy := fun wz hwz => ?h15h) (h := ?_)
  case h15h => (have cx := (hwz.cell (p := ⟨gx, 2, none⟩) zx (fun h => h)).trans x2; have hpp := Nat.lt_of_lt_of_le zx hwz.size; go_simp; try with_reducible rfl)
  refine Rg.op 16 (some 24) hS (v := (.int .i64 480)) (hy := fun wz hwz => ?h16h) (h := ?_)
  case h16h => (have hq := qB; go_simp; try with_reducible rfl)
  refine Rg.op 17 (some 25) hS (v := (.bool false)) (hy := fun wz hwz => ?h17h) (h := ?_)
  case h17h => (have hq := t2; go_simp; try with_reducible rfl)
  refine Rg.op 18 (some 26) hS (v := (.bool false)) (hy := fun wz hwz => ?h18h) (h := ?_)
  case h18h => (go_simp; try with_reducible rfl)
  refine Rg.op 19 (some 27) hS (v := ?v19h) (hy := fun wz hwz => ?h19h) (h := ?_)
  case h19h => (go_simp; try with_reducible rfl)
  refine Rg.op 20 (some 28) hS (v := ?v20h) (hy := fun wz hwz => ?h20h) (h := ?_)
  case h20h => (go_simp; try with_reducible rfl)
  refine Rg.op 21 (some 29) hS (v := (.int .u64 x.lsn)) (hy := fun wz hwz => ?h21h) (h := ?_)
  case h21h => (have cx := (hwz.cell (p := ⟨gx, 1, none⟩) zx (fun h => h)).trans x1; have hpp := Nat.lt_of_lt_of_le zx hwz.size; go_simp; try with_reducible rfl)
  refine Rg.op 22 (some 30) hS (v := ?v22h) (hy := fun wz hwz => ?h22h) (h := ?_)
  case h22h => (go_simp; try with_reducible rfl)
  refine Rg.op 23 (some 31) hS (v := ?v23h) (hy := fun wz hwz => ?h23h) (h := ?_)
  case h23h => (have hpp := Nat.lt_of_lt_of_le zp hwz.size; go_simp; try with_reducible rfl)
  refine Rg.op 24 (some 32) hS (v := ?v24h) (hy := fun wz hwz => ?h24h) (h := ?_)
  case h24h => (have hpp := Nat.lt_of_lt_of_le zp hwz.size; go_simp; try with_reducible rfl)
  refine Rg.op 25 (some 33) hS (v := (.pointer (some ⟨l, 0, none⟩))) (hy := fun wz hwz => ?h25h) (h := ?_)
  case h25h => (have cx := (hwz.cell (p := ⟨p, 1, none⟩) zp (fun h => h)).trans p1; have hpp := Nat.lt_of_lt_of_le zp hwz.size; go_simp; try with_reducible rfl)
  refine Rg.call 26 (some 34) (hrun := ?h26h) (hcall := Next_any (HIn.out.und.log.new hS)) (h := ?_)
  case h26h => (go_simp)
  rintro e w4h ⟨rfl, rfl⟩
  refine ⟨_, ?a26h, rfl, ?b26h, (fun _ => hS), ?_⟩
  case b26h => (simp only [Act.put, List.setIfInBounds_toArray, List.set_cons_zero, List.set_cons_succ]; rfl)
  refine Rg.op 27 (some 35) hS (v := (.bool false)) (hy := fun wz hwz => ?h27h) (h := ?_)
  case h27h => (have hq := t3; go_simp; try with_reducible rfl)
  refine Rg.op 28 (some 36) hS (v := (.bool false)) (hy := fun wz hwz => ?h28h) (h := ?_)
  case h28h => (go_simp; try with_reducible rfl)
  refine Rg.done _ (h := ?_)
  go_wp2
  have hT : Fr Nob wa wa.drew.drew := hS.drew
  refine Rg.begin (Fr Nob wa) [] (by kernel_rfl) ?_
  refine Rg.op 0 (some 38) hT (v := ?v0j) (hy := fun wz hwz => ?h0j) (h := ?_)
  case h0j => (go_simp; try with_reducible rfl)
  refine Rg.op 1 (some 39) hT (v := ?v1j) (hy := fun wz hwz => ?h1j) (h := ?_)
  case h1j => (have hpp := Nat.lt_of_lt_of_le zp hwz.size; go_simp; try with_reducible rfl)
  refine Rg.op 2 (some 40) hT (v := ?v2j) (hy := fun wz hwz => ?h2j) (h := ?_)
  case h2j => (have hpp := Nat.lt_of_lt_of_le zp hwz.size; go_simp; try with_reducible rfl)
  refine Rg.op 3 (some 41) hT (v := (.map (some B))) (hy := fun wz hwz => ?h3j) (h := ?_)
  case h3j => (have cx := (hwz.cell (p := ⟨p, 3, none⟩) zp (fun h => h)).trans p3; have hpp := Nat.lt_of_lt_of_le zp hwz.size; go_simp; try with_reducible rfl)
  refine Rg.op 4 (some 42) hT (v := ?v4j) (hy := fun wz hwz => ?h4j) (h := ?_)
  case h4j => (go_simp; try with_reducible rfl)
  refine Rg.op 5 (some 43) hT (v := (.int .i64 x.no)) (hy := fun wz hwz => ?h5j) (h := ?_)
  case h5j => (have cx := (hwz.cell (p := ⟨gx, 0, none⟩) zx (fun h => h)).trans x0; have hpp := Nat.lt_of_lt_of_le zx hwz.size; go_simp; try with_reducible rfl)
  refine Rg.op 6 (some 44) hT (v := (.tuple #[.pointer (some ⟨b, 0, none⟩), .bool true])) (hy := fun wz hwz => ?h6j) (h := ?_)
  case h6j => (have hq := (HIn.out.pool.map.fr (hwz) (fun h => h)).run_ok key_law Tryz.underlying67 (mapif_zero _) (x.no : Int) (key_of _ (by omega) (by omega)); rw [HHeld.out] at hq; dsimp only [ptrOf, Option.isSome] at hq; go_simp; try rfl)
  refine Rg.op 7 (some 37) hT (v := ?v7j) (hy := fun wz hwz => ?h7j) (h := ?_)
  case h7j => (go_simp; try with_reducible rfl)
  refine Rg.op 8 (some 45) hT (v := ?v8j) (hy := fun wz hwz => ?h8j) (h := ?_)
  case h8j => (go_simp; try with_reducible rfl)
  refine Rg.op 9 (some 46) hT (v := ?v9j) (hy := fun wz hwz => ?h9j) (h := ?_)
  case h9j => (go_simp; try with_reducible rfl)
  refine Rg.op 10 (some 5) hT (v := ?v10j) (hy := fun wz hwz => ?h10j) (h := ?_)
  case h10j => (go_simp; try with_reducible rfl)
  refine Rg.op 11 (some 6) hT (v := ?v11j) (hy := fun wz hwz => ?h11j) (h := ?_)
  case h11j => (go_simp; try with_reducible rfl)
  refine Rg.done _ (h := ?_)
  have hbx2 : Blk wa.drew.drew gx 40 #[.int .i64 x.no, .int .u64 x.lsn, .slice (some ⟨kb, ko, none⟩) 480 c] := HBx.out
  have y0 := hbx2.cell 0
  have y1 := hbx2.cell 1
  have y2 := hbx2.cell 2
  have yz := hbx2.lt
  simp only [List.getElem?_toArray, List.getElem?_cons_zero, List.getElem?_cons_succ] at y0 y1 y2
  clear hbx2
  have HCp := Lib.hid (copied_any (x.no : Int) (x.lsn : Int) kb ko c x.d (HBa.out.new hT) HOk.out.d)
  go_wp2_with fail
  refine HCp.out.mono ?_
  rintro e w3 ⟨gn, rfl, hc3, hg3, hf3⟩
  have hf03 : Fr Nob wa w3 := hT.trans hf3
  have hfb3 := HFb.out.fr hf03 (fun h => h)
  have HFb3 := Lib.hid hfb3
  have HC3 := Lib.hid hc3
  have HF3 := Lib.hid hf03
  have s0 := hfb3.cell 0
  have s1 := hfb3.cell 1
  have s2 := hfb3.cell 2
  have s3 := hfb3.cell 3
  have s4 := hfb3.cell 4
  have q0 := hfb3.frozen 0
  have q1 := hfb3.frozen 1
  have q2 := hfb3.frozen 2
  have q3 := hfb3.frozen 3
  have q4 := hfb3.frozen 4
  have sz := hfb3.lt
  have hgl := hc3.lt
  have hg3' : wa.heap.size ≤ gn := hg3
  simp only [List.getElem?_toArray, List.getElem?_cons_zero, List.getElem?_cons_succ] at s0 s1 s2 s3 s4
  clear hfb3 hc3 hf3 hf03 HCp y0 y1 y2 yz hS hT
  go_wp2
  go_ret
  have hwa := HFa.out.size
  have hbE := ((((HFb3.out.set_ 0 (.int .i64 x.no)).set_ 1 (.int .u64 x.lsn)).set_ 2 (.slice (some ⟨gn, 0, none⟩) 480 480)).set_ 3 (.bool true)).set_ 4 (.bool true)
  have hfE : Fr (fun k => k = b) w3 (((((w3.setCell ⟨b, 0, none⟩ (.int .i64 x.no)).setCell ⟨b, 1, none⟩ (.int .u64 x.lsn)).setCell ⟨b, 2, none⟩ (.slice (some ⟨gn, 0, none⟩) 480 480)).setCell ⟨b, 3, none⟩ (.bool true)).setCell ⟨b, 4, none⟩ (.bool true)) :=
    (((((Fr.refl (fun k => k = b) w3).setCell (p := ⟨b, 0, none⟩) (.inr rfl) _).setCell (p := ⟨b, 1, none⟩) (.inr rfl) _).setCell (p := ⟨b, 2, none⟩) (.inr rfl) _).setCell (p := ⟨b, 3, none⟩) (.inr rfl) _).setCell (p := ⟨b, 4, none⟩) (.inr rfl) _
  have hUb : Uni RP RQ RL RD f b := .inl HRb.out
  have hblt := HUlt.out b hUb
  have hin3 := HIn.out.new HF3.out
  have hpm := hin3.pool.more (RP' := RP) (RQ' := fun k => RQ k ∨ k = gn) (fun _ h => h) (fun _ h => .inl h) (fun k hk e => by
    rcases e with e | e
    · exact hin3.pool.ap k hk e
    · have := HUlt.out k (.inl hk); omega) hin3.pool.lt (fun k hk => by
    rcases hk with hk | hk
    · exact hin3.pool.ltq k hk
    · omega)
  have hset := hpm.setF (m' := ⟨x, true, true⟩) HI.out hfE HM.out.symm ⟨HRb.out, gn, 0, 480, .inr rfl, hbE, (HC3.out.bsl 480 (by rw [HOk.out.d]; omega)).fr hfE (fun a ha e => by injection ha with ha; subst ha; have e : gn = b := e; omega)⟩
  refine ⟨rfl, gn, by omega, by have := hfE.size; omega, ?_, ((HFa.out.trans HF3.out).mono (fun _ _ h => h.elim) : Fr RP w w3).step hfE (fun k hk e => by have e : k = b := e; rw [e]; exact HRb.out)⟩
  exact { hin3 with
    pool := hset
    und := hin3.und.fr hfE (fun k hk e => (hin3.ap b (.inl HRb.out)).1 (e ▸ hk)) (fun k hk e => (hin3.ap b (.inl HRb.out)).2.1 (e ▸ hk)) (fun e => (hin3.ap b (.inl HRb.out)).2.2 e.symm)
    ap := fun k hk => by
      rcases hk with hk | hk | hk
      · exact hin3.ap k (.inl hk)
      · exact hin3.ap k (.inr hk)
      · refine ⟨fun e => ?_, fun e => ?_, fun e => ?_⟩
        · have := HUlt.out k (.inr (.inr (.inl e))); omega
        · have := HUlt.out k (.inr (.inr (.inr (.inl e)))); omega
        · have := HUlt.out k (.inr (.inr (.inr (.inr e)))); omega
    views := hin3.views.put HI.out (fun j y hj e => hin3.pool.apart hj HI.out e) x HM.out.symm HOk.out
    vok := fun no hn => by
      by_cases e : no = x.no
      · rw [if_pos e]; exact ⟨HOk.out, e.symm⟩
      · rw [if_neg e]; exact hin3.vok no hn }
set_option maxHeartbeats 3200000 in
set_option maxRecDepth 100000 in
theorem Put_new (h : PIn w p f l d pages frames V L M N RP RQ RL RD hand B rv fs cur S T lot) (x : PgV) (kb ko c : Nat) (hb : Bsl w (some ⟨kb, ko, none⟩) c x.d) (hok : x.Ok) (hno : x.no < pages) (hls : x.lsn < L.next) (hn : ∀ y ∈ fs, y.2.x.no ≠ x.no) (hM : M + 1 ≤ 1000000000000000000) (hkb : ¬ Uni RP RQ RL RD f kb) :
    Calls Tryz.prog 8 #[.pointer (some ⟨p, 0, none⟩), .agg #[.int .i64 x.no, .int .u64 x.lsn, .slice (some ⟨kb, ko, none⟩) 480 c]] w fun e w' => e = .returned (.int .i64 0) ∧ ∃ L' S' T' lot' RP' RQ' RD' hand' rv' fs' cur', PIn w' p f l d pages frames (fun no => if no = x.no then x else V no) L' (M + 1) N RP' RQ' RL RD' hand' B rv' fs' cur' S' T' lot' ∧ LSame L L' ∧ (∀ y ∈ fs', y.2.dirty = true → y.2.x.no = x.no ∨ ∃ z ∈ fs, z.2.x.no = y.2.x.no ∧ z.2.dirty = true) ∧ (∀ b, Uni RP' RQ' RL RD' f b → Uni RP RQ RL RD f b ∨ w.heap.size ≤ b) ∧ Fr (Uni RP RQ RL RD f) w w' := by
  have qB := len_by
  obtain ⟨gx, hgx⟩ : ∃ g, w.heap.size = g := ⟨_, rfl⟩
  have HGx := Lib.hid hgx
  have hfa : Fr Nob w (w.alloc (.cells #[.int .i64 x.no, .int .u64 x.lsn, .slice (some ⟨kb, ko, none⟩) 480 c] 40)) := (Fr.refl _ w).alloc _
  have hbx : Blk (w.alloc (.cells #[.int .i64 x.no, .int .u64 x.lsn, .slice (some ⟨kb, ko, none⟩) 480 c] 40)) gx 40 #[.int .i64 x.no, .int .u64 x.lsn, .slice (some ⟨kb, ko, none⟩) 480 c] := by rw [← hgx]; exact Blk.new _ _ _
  have hin := h.new hfa
  obtain ⟨wa, hwa⟩ : ∃ W, w.alloc (.cells #[.int .i64 x.no, .int .u64 x.lsn, .slice (some ⟨kb, ko, none⟩) 480 c] 40) = W := ⟨_, rfl⟩
  rw [hwa] at hfa hbx hin
  have HIn := Lib.hid hin
  have HFa := Lib.hid hfa
  have HBx := Lib.hid hbx
  have x0 := hbx.cell 0
  have x1 := hbx.cell 1
  have x2 := hbx.cell 2
  have zx := hbx.lt
  have p0 := hin.pool.blk.cell 0
  have p1 := hin.pool.blk.cell 1
  have zp := hin.pool.blk.lt
  have hpg := h.und.pg2
  simp only [List.getElem?_toArray, List.getElem?_cons_zero, List.getElem?_cons_succ] at x0 x1 x2 p0 p1
  have p3 := hin.pool.blk.cell 3
  simp only [List.getElem?_toArray, List.getElem?_cons_zero, List.getElem?_cons_succ] at p3
  have HOk := Lib.hid hok
  have HBa := Lib.hid (hb.new hfa)
  have hno5 := hok.no
  have t0 : ¬ (x.no : Int) < 0 := by omega
  have t1 : ¬ (pages : Int) ≤ (x.no : Int) := by omega
  have t2 : True := trivial
  have t3 : ¬ L.next ≤ x.lsn := by omega
  have HUlt : Hid (∀ b, Uni RP RQ RL RD f b → b < w.heap.size) := fun b hb => h.lt hb
  have HN := Lib.hid hn
  have HHeld : Hid (heldAt (ksOf fs) (x.no : Int) = none) := heldAt_none (fun k hk e => by
    unfold ksOf at hk
    obtain ⟨y, hy, rfl⟩ := List.mem_map.1 hk
    exact hn y hy (by have e : (y.2.x.no : Int) = x.no := e; omega))
  have hkl : kb < w.heap.size := hb.lt _ rfl
  clear h hin hfa hbx hb hok hn
  go_enter Tryz.func8, Tryz.ntmps8
  go_wp2
  have hS : Fr Nob wa wa.drew := (Fr.refl _ wa).drew
  refine Rg.begin (Fr Nob wa) [] (by kernel_rfl) ?_
  refine Rg.op 0 (some 8) hS (v := ?v0h) (hy := fun wz hwz => ?h0h) (h := ?_)
  case h0h => (go_simp; try with_reducible rfl)
  refine Rg.op 1 (some 9) hS (v := (.int .i64 x.no)) (hy := fun wz hwz => ?h1h) (h := ?_)
  case h1h => (have cx := (hwz.cell (p := ⟨gx, 0, none⟩) zx (fun h => h)).trans x0; have hpp := Nat.lt_of_lt_of_le zx hwz.size; go_simp; try with_reducible rfl)
  refine Rg.op 2 (some 10) hS (v := (.bool false)) (hy := fun wz hwz => ?h2h) (h := ?_)
  case h2h => (have hq := t0; go_simp; try with_reducible rfl)
  refine Rg.op 3 (some 11) hS (v := ?v3h) (hy := fun wz hwz => ?h3h) (h := ?_)
  case h3h => (go_simp; try with_reducible rfl)
  refine Rg.op 4 (some 12) hS (v := ?v4h) (hy := fun wz hwz => ?h4h) (h := ?_)
  case h4h => (go_simp; try with_reducible rfl)
  refine Rg.op 5 (some 13) hS (v := (.int .i64 x.no)) (hy := fun wz hwz => ?h5h) (h := ?_)
  case h5h => (have cx := (hwz.cell (p := ⟨gx, 0, none⟩) zx (fun h => h)).trans x0; have hpp := Nat.lt_of_lt_of_le zx hwz.size; go_simp; try with_reducible rfl)
  refine Rg.op 6 (some 14) hS (v := ?v6h) (hy := fun wz hwz => ?h6h) (h := ?_)
  case h6h => (go_simp; try with_reducible rfl)
  refine Rg.op 7 (some 15) hS (v := ?v7h) (hy := fun wz hwz => ?h7h) (h := ?_)
  case h7h => (have hpp := Nat.lt_of_lt_of_le zp hwz.size; go_simp; try with_reducible rfl)
  refine Rg.op 8 (some 16) hS (v := ?v8h) (hy := fun wz hwz => ?h8h) (h := ?_)
  case h8h => (have hpp := Nat.lt_of_lt_of_le zp hwz.size; go_simp; try with_reducible rfl)
  refine Rg.op 9 (some 17) hS (v := (.pointer (some ⟨f, 0, none⟩))) (hy := fun wz hwz => ?h9h) (h := ?_)
  case h9h => (have cx := (hwz.cell (p := ⟨p, 0, none⟩) zp (fun h => h)).trans p0; have hpp := Nat.lt_of_lt_of_le zp hwz.size; go_simp; try with_reducible rfl)
  refine Rg.call 10 (some 18) (hrun := ?h10h) (hcall := Pages_any (HIn.out.und.file.fr hS (fun h => h))) (h := ?_)
  case h10h => (go_simp)
  rintro e w3h ⟨rfl, rfl⟩
  refine ⟨_, ?a10h, rfl, ?b10h, (fun _ => hS), ?_⟩
  case b10h => (simp only [Act.put, List.setIfInBounds_toArray, List.set_cons_zero, List.set_cons_succ]; rfl)
  refine Rg.op 11 (some 19) hS (v := (.bool false)) (hy := fun wz hwz => ?h11h) (h := ?_)
  case h11h => (have hq := t1; go_simp; try with_reducible rfl)
  refine Rg.op 12 (some 20) hS (v := (.bool false)) (hy := fun wz hwz => ?h12h) (h := ?_)
  case h12h => (go_simp; try with_reducible rfl)
  refine Rg.op 13 (some 21) hS (v := ?v13h) (hy := fun wz hwz => ?h13h) (h := ?_)
  case h13h => (go_simp; try with_reducible rfl)
  refine Rg.op 14 (some 22) hS (v := ?v14h) (hy := fun wz hwz => ?h14h) (h := ?_)
  case h14h => (go_simp; try with_reducible rfl)
  refine Rg.op 15 (some 23) hS (v := (.slice (some ⟨kb, ko, none⟩) 480 c)) (hy := fun wz hwz => ?h15h) (h := ?_)
  case h15h => (have cx := (hwz.cell (p := ⟨gx, 2, none⟩) zx (fun h => h)).trans x2; have hpp := Nat.lt_of_lt_of_le zx hwz.size; go_simp; try with_reducible rfl)
  refine Rg.op 16 (some 24) hS (v := (.int .i64 480)) (hy := fun wz hwz => ?h16h) (h := ?_)
  case h16h => (have hq := qB; go_simp; try with_reducible rfl)
  refine Rg.op 17 (some 25) hS (v := (.bool false)) (hy := fun wz hwz => ?h17h) (h := ?_)
  case h17h => (have hq := t2; go_simp; try with_reducible rfl)
  refine Rg.op 18 (some 26) hS (v := (.bool false)) (hy := fun wz hwz => ?h18h) (h := ?_)
  case h18h => (go_simp; try with_reducible rfl)
  refine Rg.op 19 (some 27) hS (v := ?v19h) (hy := fun wz hwz => ?h19h) (h := ?_)
  case h19h => (go_simp; try with_reducible rfl)
  refine Rg.op 20 (some 28) hS (v := ?v20h) (hy := fun wz hwz => ?h20h) (h := ?_)
  case h20h => (go_simp; try with_reducible rfl)
  refine Rg.op 21 (some 29) hS (v := (.int .u64 x.lsn)) (hy := fun wz hwz => ?h21h) (h := ?_)
  case h21h => (have cx := (hwz.cell (p := ⟨gx, 1, none⟩) zx (fun h => h)).trans x1; have hpp := Nat.lt_of_lt_of_le zx hwz.size; go_simp; try with_reducible rfl)
  refine Rg.op 22 (some 30) hS (v := ?v22h) (hy := fun wz hwz => ?h22h) (h := ?_)
  case h22h => (go_simp; try with_reducible rfl)
  refine Rg.op 23 (some 31) hS (v := ?v23h) (hy := fun wz hwz => ?h23h) (h := ?_)
  case h23h => (have hpp := Nat.lt_of_lt_of_le zp hwz.size; go_simp; try with_reducible rfl)
  refine Rg.op 24 (some 32) hS (v := ?v24h) (hy := fun wz hwz => ?h24h) (h := ?_)
  case h24h => (have hpp := Nat.lt_of_lt_of_le zp hwz.size; go_simp; try with_reducible rfl)
  refine Rg.op 25 (some 33) hS (v := (.pointer (some ⟨l, 0, none⟩))) (hy := fun wz hwz => ?h25h) (h := ?_)
  case h25h => (have cx := (hwz.cell (p := ⟨p, 1, none⟩) zp (fun h => h)).trans p1; have hpp := Nat.lt_of_lt_of_le zp hwz.size; go_simp; try with_reducible rfl)
  refine Rg.call 26 (some 34) (hrun := ?h26h) (hcall := Next_any (HIn.out.und.log.new hS)) (h := ?_)
  case h26h => (go_simp)
  rintro e w4h ⟨rfl, rfl⟩
  refine ⟨_, ?a26h, rfl, ?b26h, (fun _ => hS), ?_⟩
  case b26h => (simp only [Act.put, List.setIfInBounds_toArray, List.set_cons_zero, List.set_cons_succ]; rfl)
  refine Rg.op 27 (some 35) hS (v := (.bool false)) (hy := fun wz hwz => ?h27h) (h := ?_)
  case h27h => (have hq := t3; go_simp; try with_reducible rfl)
  refine Rg.op 28 (some 36) hS (v := (.bool false)) (hy := fun wz hwz => ?h28h) (h := ?_)
  case h28h => (go_simp; try with_reducible rfl)
  refine Rg.done _ (h := ?_)
  go_wp2
  have hT : Fr Nob wa wa.drew.drew := hS.drew
  refine Rg.begin (Fr Nob wa) [] (by kernel_rfl) ?_
  refine Rg.op 0 (some 38) hT (v := ?v0j) (hy := fun wz hwz => ?h0j) (h := ?_)
  case h0j => (go_simp; try with_reducible rfl)
  refine Rg.op 1 (some 39) hT (v := ?v1j) (hy := fun wz hwz => ?h1j) (h := ?_)
  case h1j => (have hpp := Nat.lt_of_lt_of_le zp hwz.size; go_simp; try with_reducible rfl)
  refine Rg.op 2 (some 40) hT (v := ?v2j) (hy := fun wz hwz => ?h2j) (h := ?_)
  case h2j => (have hpp := Nat.lt_of_lt_of_le zp hwz.size; go_simp; try with_reducible rfl)
  refine Rg.op 3 (some 41) hT (v := (.map (some B))) (hy := fun wz hwz => ?h3j) (h := ?_)
  case h3j => (have cx := (hwz.cell (p := ⟨p, 3, none⟩) zp (fun h => h)).trans p3; have hpp := Nat.lt_of_lt_of_le zp hwz.size; go_simp; try with_reducible rfl)
  refine Rg.op 4 (some 42) hT (v := ?v4j) (hy := fun wz hwz => ?h4j) (h := ?_)
  case h4j => (go_simp; try with_reducible rfl)
  refine Rg.op 5 (some 43) hT (v := (.int .i64 x.no)) (hy := fun wz hwz => ?h5j) (h := ?_)
  case h5j => (have cx := (hwz.cell (p := ⟨gx, 0, none⟩) zx (fun h => h)).trans x0; have hpp := Nat.lt_of_lt_of_le zx hwz.size; go_simp; try with_reducible rfl)
  refine Rg.op 6 (some 44) hT (v := (.tuple #[.pointer none, .bool false])) (hy := fun wz hwz => ?h6j) (h := ?_)
  case h6j => (have hq := (HIn.out.pool.map.fr (hwz) (fun h => h)).run_ok key_law Tryz.underlying67 (mapif_zero _) (x.no : Int) (key_of _ (by omega) (by omega)); rw [HHeld.out] at hq; dsimp only [ptrOf, Option.isSome] at hq; go_simp; try rfl)
  refine Rg.op 7 (some 37) hT (v := ?v7j) (hy := fun wz hwz => ?h7j) (h := ?_)
  case h7j => (go_simp; try with_reducible rfl)
  refine Rg.op 8 (some 45) hT (v := ?v8j) (hy := fun wz hwz => ?h8j) (h := ?_)
  case h8j => (go_simp; try with_reducible rfl)
  refine Rg.op 9 (some 46) hT (v := ?v9j) (hy := fun wz hwz => ?h9j) (h := ?_)
  case h9j => (go_simp; try with_reducible rfl)
  refine Rg.op 10 (some 5) hT (v := ?v10j) (hy := fun wz hwz => ?h10j) (h := ?_)
  case h10j => (go_simp; try with_reducible rfl)
  refine Rg.op 11 (some 6) hT (v := ?v11j) (hy := fun wz hwz => ?h11j) (h := ?_)
  case h11j => (go_simp; try with_reducible rfl)
  refine Rg.done _ (h := ?_)
  have HRoom := Lib.hid (room_any (HIn.out.new hT) hM)
  have HT := Lib.hid hT
  clear hS
  obtain ⟨w3, hw3⟩ : ∃ W, wa.drew.drew = W := ⟨_, rfl⟩
  rw [hw3] at HRoom HT hT
  go_wp2_with fail
  refine HRoom.out.mono ?_
  rintro e w4 ⟨rfl, L', S', T', lot', RD', hand', rv', fs', cur', hin4, hs4, hl4, hno4, hsub4, hf4⟩
  have hwa := HFa.out.size
  have hz3 := HT.out.size
  have hgxz := HGx.out
  have hU : ∀ b, w.heap.size ≤ b → ¬ Uni RP RQ RL RD f b := fun b hb e => by have := HUlt.out b e; omega
  have HIn4 := Lib.hid hin4
  have HS4 := Lib.hid hs4
  have HSub4 := Lib.hid hsub4
  have HF4 := Lib.hid hf4
  have hbx4 := (HBx.out.fr HT.out (fun h => h)).fr hf4 (hU gx (by omega))
  have hbs4 : Bsl w4 (some ⟨kb, ko, none⟩) c x.d := (HBa.out.new HT.out).fr hf4 (fun a ha e => by injection ha with ha; subst ha; exact hkb e)
  have hn4 : ∀ y ∈ fs', y.2.x.no ≠ x.no := fun y hy e => by
    obtain ⟨z, hz, e2, _⟩ := hno4 y hy
    exact HN.out z hz (e2.trans e)
  have HNo4 := Lib.hid hno4
  have HN4 := Lib.hid hn4
  have HL4 := Lib.hid hl4
  have HCp := Lib.hid (copied_any (x.no : Int) (x.lsn : Int) kb ko c x.d hbs4 HOk.out.d)
  have y0 := hbx4.cell 0
  have y1 := hbx4.cell 1
  have y2 := hbx4.cell 2
  have yz := hbx4.lt
  simp only [List.getElem?_toArray, List.getElem?_cons_zero, List.getElem?_cons_succ] at y0 y1 y2
  clear hin4 hs4 hsub4 hf4 hbx4 hbs4 hn4 hno4 hl4 HRoom hw3 hT
  go_wp2_with fail
  refine HCp.out.mono ?_
  rintro e w5 ⟨gn, rfl, hc5, hg5, hf5⟩
  have hz34 : w3.heap.size ≤ w4.heap.size := HF4.out.size
  have hin5 := HIn4.out.new hf5
  have hRPg : ¬ RP gn := fun e => hU gn (by omega) (.inl e)
  have hbs5 := hc5.bsl 480 (by rw [HOk.out.d]; omega)
  have HHold := Lib.hid (hold_any hin5.pool x true gn 0 480 hbs5 hRPg HL4.out HN4.out HOk.out.no)
  have HIn5 := Lib.hid hin5
  have HF5 := Lib.hid hf5
  have hgl := hc5.lt
  clear hc5 hf5 hin5 hbs5 HCp y0 y1 y2 yz
  go_wp2_with fail
  refine HHold.out.mono ?_
  rintro e w6 ⟨rfl, rv6, gb, hp6, hf6⟩
  have hg5' : w4.heap.size ≤ gn := hg5
  have hg0o : ¬ RL gn ∧ ¬ RD' gn ∧ gn ≠ f := ⟨fun e => hU gn (by omega) (.inr (.inr (.inl e))), fun e => by
    have := HIn4.out.und.disk.lt e; omega, fun e => hU gn (by omega) (.inr (.inr (.inr (.inr e))))⟩
  obtain ⟨hin6, hf6'⟩ := HIn5.out.hold (HIn5.out.views.putNew gb x hno HN4.out HOk.out) (fun no hn => by
      by_cases e : no = x.no
      · rw [if_pos e]; exact ⟨HOk.out, e.symm⟩
      · rw [if_neg e]; exact HIn5.out.vok no hn) hp6 hf6 hg0o
  have HIn6 := Lib.hid hin6
  have HF6 := Lib.hid hf6'
  clear hp6 hf6 hin6 hf6' HHold
  go_wp2
  go_ret
  refine ⟨rfl, L', S', T', lot', _, _, RD', hand', rv6, _, cur', HIn6.out, HS4.out, fun y hy hd => ?_, fun b hb => ?_, ?_⟩
  · rcases List.mem_append.1 hy with hy | hy
    · obtain ⟨z, hz, e1, e2⟩ := HNo4.out y hy
      exact .inr ⟨z, hz, e1, e2 hd⟩
    · rw [List.mem_singleton] at hy
      rw [hy]
      exact .inl rfl
  · have hz5 := HF5.out.size
    rcases hb with (hb | hb) | (hb | hb) | hb | hb | hb
    · exact .inl (.inl hb)
    · exact .inr (by omega)
    · exact .inl (.inr (.inl hb))
    · exact .inr (by omega)
    · exact .inl (.inr (.inr (.inl hb)))
    · rcases HSub4.out b hb with e | e
      · exact .inl (.inr (.inr (.inr (.inl e))))
      · exact .inr (by omega)
    · exact .inl (.inr (.inr (.inr (.inr hb))))
  · exact ((((HFa.out.trans HT.out).mono (fun _ _ h => h.elim) : Fr (Uni RP RQ RL RD f) w w3).trans HF4.out).trans (HF5.out.mono (fun _ _ h => h.elim))).trans (HF6.out.mono (fun _ _ h => .inl h))
end
end Go.Proofs.YtccmmnacejdeoaaGreatDoor
