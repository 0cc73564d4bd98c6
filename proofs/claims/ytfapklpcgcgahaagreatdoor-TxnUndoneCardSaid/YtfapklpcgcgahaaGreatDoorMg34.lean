/-
  TxnW0, TxnW1, TxnTB, TxnW2, in one text.
-/
import Derived.Test.YtfapklpcgcgahaaGreatDoorMg33
import Derived.Test.YtfapklpcgcgahaaGreatDoorMg20
import Derived.Lib.SlBytesConst
/-
  What the statements on transactions say: pages as texts, bytes by a number.
-/
namespace Go.Proofs.YtfapklpcgcgahaaGreatDoor
set_option linter.unusedSimpArgs false
set_option linter.unusedVariables false
open Go.RowKit Go.Maps

/-- A page as a text. -/
def tS (l : List UInt8) : Value := .string ⟨l.toArray⟩
/-- Six pages as texts, in a row of their own. -/
def Row6 (w : World) (base : Nat) (v : Value) (C : Pgs) : Prop := w.ownsRow base 9 1 v 6 ((List.range 6).map fun i => tS (C i))
theorem info_str6 : (Tryz.prog.info? 9).map (fun i => (i.zero, i.size, i.bytes)) = some (some (.string ⟨#[]⟩), 1, 16) := by kernel_rfl
def CZ : Pgs := fun _ => zeros 480
theorem make480T (w : World) : (Instr.makeSlice 40 (.int .i64 480) (.int .i64 480)).run Tryz.prog w = .ok (.slice (some ⟨w.heap.size, 0, none⟩) 480 480) (w.alloc (.cells (bts (zeros 480)).toArray 5)) := by
  rw [← zeroCells_eq]; exact make480 w
theorem conv480 (w : World) : (convert 40 9 (.slice (some ⟨w.heap.size, 0, none⟩) 480 480)).run Tryz.prog (w.alloc (.cells (bts (zeros 480)).toArray 5)) = .ok (tS (zeros 480)) (w.alloc (.cells (bts (zeros 480)).toArray 5)) := by
  have h := conv_in (bytesIn_of (Blk.new w 5 (bts (zeros 480)).toArray)) 480
  rw [zeros_length] at h
  exact h
set_option maxHeartbeats 1600000 in
set_option maxRecDepth 100000 in
theorem Blank6_any (w : World) : Calls Tryz.prog 26 #[] w fun e w' => ∃ v, e = .returned v ∧ Row6 w' w.heap.size v CZ ∧ Fr Nob w w' := by
  obtain ⟨i0, hi0, iz0, iz1, iz2⟩ := info_parts' info_str6
  have hmk := make480T
  have hcv := conv480
  obtain ⟨zv, hzv⟩ : ∃ z, tS (zeros 480) = z := ⟨_, rfl⟩
  have hz1 : zv.oneCell' = true := by rw [← hzv]; rfl
  have HZ1 := Lib.hid hz1
  obtain ⟨za, hza⟩ : ∃ z, (bts (zeros 480)).toArray = z := ⟨_, rfl⟩
  rw [hzv, hza] at hcv
  rw [hza] at hmk
  have hst : ∃ s, zv = .string s := ⟨_, hzv.symm⟩
  obtain ⟨sv, hsv⟩ := hst
  subst hsv
  have HZv := Lib.hid hzv
  clear hzv hza hz1
  go_enter Tryz.func26, Tryz.ntmps26
  go_wp2
  go_loopw [1, 2] (fun v i wr => ∃ k : Nat, k ≤ 6 ∧ i = .int .i64 k ∧ Hid (wr.ownsRow w.heap.size 9 1 v k (List.replicate k (.string sv))) ∧ Hid (Fr Nob w wr)) (fun _ i _ => 6 - (intOf i).toNat)
  case atStart => exact ⟨0, by omega, rfl, World.ownsRow_nil _ _ _ _, Fr.refl _ _⟩
  case round =>
    obtain ⟨k, hk, rfl, hO, hF⟩ := hrel
    by_cases hlt : k < 6
    · have hf1 : Fr Nob wr (wr.alloc (.cells za 5)) := (Fr.refl _ wr).alloc _
      have hf2 : Fr Nob wr ((wr.alloc (.cells za 5)).alloc (.cells #[.string sv] 9)) := hf1.alloc _
      have hb2 : Blk ((wr.alloc (.cells za 5)).alloc (.cells #[.string sv] 9)) (wr.heap.size + 1) 9 #[.string sv] := by
        have := Blk.new (wr.alloc (.cells za 5)) 9 #[.string sv]
        rwa [World.size_alloc] at this
      have HO2 := Lib.hid (own_fr hO.out hf2 (fun _ _ h => h))
      have HN2 : Hid (∀ j u, ([Value.string sv])[j]? = some u → ((wr.alloc (.cells za 5)).alloc (.cells #[.string sv] 9)).cell? ((⟨wr.heap.size + 1, 0, none⟩ : Addr).add j) = some u) := fun j u hu => by
        rw [Addr.add_mid, Nat.zero_add]; exact (hb2.cell j).trans (by simpa using hu)
      have HF2 := Lib.hid (hF.out.trans hf2)
      have hsz := HF2.out.size
      clear hf1 hf2 hb2 hO hF
      go_wp2_with (at_builtin; go_must (refine wpList_append_own_at _ rfl (.tmp 7) (.tmp 10) 34 rfl w.heap.size 9 i0 (.string ⟨#[]⟩) 1 16 Tryz.underlying34 hi0 iz0 iz1 iz2 rfl (by decide) u1 k (List.replicate k (.string sv)) rfl HO2.out ⟨wr.heap.size + 1, 0, none⟩ 1 1 [.string sv] rfl rfl HN2.out (by intro u hu; rw [List.mem_singleton] at hu; subst hu; exact HZ1.out) (by unfold maxLen; omega) (by omega) hsz ?_); intro v3 w3 hown hgr hnil hat; have HOwn := Lib.hid hown; have HGr : Hid (Fr Nob w w3) := HF2.out.grown hgr (fun r hr => .inl (HO2.out.lt r hr).1); clear hown hgr hnil hat)
      go_roundw
      case rel => exact ⟨k + 1, by omega, by go_num, by rw [Hid, List.replicate_succ']; exact HOwn.out, HGr⟩
      case measure => simp [intOf]; omega
    · obtain rfl : k = 6 := by omega
      have hrow : Row6 wr w.heap.size u1 CZ := by
        unfold Row6 CZ
        rw [HZv.out]
        exact hO.out
      have HRow := Lib.hid hrow
      clear hrow hO
      go_wp2
      go_ret
      exact ⟨u1, rfl, HRow.out, hF.out⟩
end Go.Proofs.YtfapklpcgcgahaaGreatDoor

/-
  stands: a store has just these pages.
-/
namespace Go.Proofs.YtfapklpcgcgahaaGreatDoor
set_option linter.unusedSimpArgs false
set_option linter.unusedVariables false
open Go.RowKit Go.Maps

section
variable {RS RO U : Nat → Prop} {w : World} {s M K : Nat} {T : TS}
set_option maxHeartbeats 3200000 in
set_option maxRecDepth 100000 in
theorem Stands_tx (h : TxIn RS RO U w s 6 M K T) (gl cl : Nat) (hl : ∀ i, i < 6 → w.cell? ⟨gl, i, none⟩ = some (tS (T.V i).d)) (hR : ¬ RS gl) (hU : ¬ U gl) (hM : M + 6 ≤ 1000000000000000000) :
    Calls Tryz.prog 21 #[.pointer (some ⟨s, 0, none⟩), .slice (some ⟨gl, 0, none⟩) 6 cl] w fun e w' => e = .returned (.bool true) ∧ ∃ U', TxIn RS RO U' w' s 6 (M + 6) K T ∧ Subs RS RS RO RO U U' w w' := by
  have qL : ∀ (w : World) (A : Option Addr) (n c : Nat), (Builtin.len_ #[34] 3 #[Value.slice A n c]).run Tryz.prog w = .ok (.int .i64 n) w := fun w A n c => by go_simp
  have HPg := Lib.hid (Pages_tx h)
  have hzl : gl < w.heap.size := cell_lt (hl 0 (by omega))
  have HIn := Lib.hid h
  have HL := Lib.hid hl
  have HR := Lib.hid hR
  have HU := Lib.hid hU
  clear h hl hR hU
  go_enter Tryz.func21, Tryz.ntmps21
  go_wp2_with fail
  refine HPg.out.mono ?_
  rintro e w0 ⟨rfl, rfl⟩
  go_wp2_with fail
  go_loopw [5] (fun i wr => ∃ k : Nat, k ≤ 6 ∧ i = .int .i64 k ∧ Hid (∃ U', TxIn RS RO U' wr s 6 (M + k) K T ∧ Subs RS RS RO RO U U' w wr)) (fun i _ => 6 - (intOf i).toNat)
  case atStart => exact ⟨0, by omega, rfl, U, HIn.out, Subs.of (Fr.refl _ _)⟩
  case round =>
    obtain ⟨k, hk, rfl, hX⟩ := hrel
    by_cases hlt : k < 6
    · obtain ⟨U1, h1, hs1⟩ := hX.out
      have hFr := hs1.fr
      have hlk := (hFr.cell (p := ⟨gl, k, none⟩) hzl (fun e => e.elim HR.out HU.out)).trans (HL.out k hlt)
      have HRd := Lib.hid (Read_tx h1 k hlt (by omega))
      have HS1 := Lib.hid hs1
      have hgU : ¬ U1 gl := fun e => by
        rcases hs1.u gl e with e | e
        · exact HU.out e
        · omega
      have HgU := Lib.hid hgU
      have HV := Lib.hid ((h1.pool.vok k hlt).1.d)
      obtain ⟨dk, hdk⟩ : ∃ l, (T.V k).d = l := ⟨_, rfl⟩
      have hlk0 := hlk
      rw [hdk] at HV hlk HRd
      have HLk := Lib.hid hlk
      have hz1 := hFr.size
      clear hX h1 hs1 hFr hgU hlk hlk0 hdk
      go_wp2_with fail
      refine HRd.out.mono ?_
      rintro e w2 ⟨g, rfl, hc, hg, U2, h2, hgU2, hs2⟩
      have hcv0 := conv_in hc.bytes 480
      rw [HV.out] at hcv0
      have hlk2 := (hs2.fr.cell (p := ⟨gl, k, none⟩) (by show gl < wr.heap.size; omega) (fun e => e.elim HR.out HgU.out)).trans HLk.out
      have hz2 := hs2.fr.size
      have zl2 : gl < w2.heap.size := by omega
      have HCv : Hid (∀ W, Fr Nob w2 W → (convert 40 9 (.slice (some ⟨g, 0, none⟩) 480 480)).run Tryz.prog W = .ok (.string ⟨dk.toArray⟩) W) := fun W hW => by
        have := conv_in (hc.bytes.new hW) 480
        rwa [HV.out] at this
      have H2 := Lib.hid h2
      have HS2 := Lib.hid (HS1.out.trans hs2)
      unfold tS at hlk2
      obtain ⟨sv, hsv⟩ : ∃ s : ByteArray, ⟨dk.toArray⟩ = s := ⟨_, rfl⟩
      rw [hsv] at hlk2 HCv
      clear h2 hs2 hcv0 hc hgU2 HLk HRd hsv
      go_wp2_with fail
      have hS : Fr Nob w2 w2.drew := (Fr.refl _ w2).drew
      refine Rg.begin (Fr Nob w2) [] (by kernel_rfl) ?_
      refine Rg.op 0 (some 25) hS (v := ?v0a) (a' := ?a0a) (hy := fun wz hwz => ?h0a) (ha := ?b0a) (h := ?_)
      case h0a => (go_simp; try with_reducible rfl)
      case b0a => (simp only [Act.put, List.setIfInBounds_toArray, List.set_cons_zero, List.set_cons_succ]; rfl)
      refine Rg.op 1 (some 26) hS (v := ?v1a) (a' := ?a1a) (hy := fun wz hwz => ?h1a) (ha := ?b1a) (h := ?_)
      case h1a => (go_simp; try with_reducible rfl)
      case b1a => (simp only [Act.put, List.setIfInBounds_toArray, List.set_cons_zero, List.set_cons_succ]; rfl)
      refine Rg.op 2 (some 27) hS (v := ?v2a) (a' := ?a2a) (hy := fun wz hwz => ?h2a) (ha := ?b2a) (h := ?_)
      case h2a => (go_simp; try with_reducible rfl)
      case b2a => (simp only [Act.put, List.setIfInBounds_toArray, List.set_cons_zero, List.set_cons_succ]; rfl)
      refine Rg.op 3 (some 28) hS (v := ?v3a) (a' := ?a3a) (hy := fun wz hwz => ?h3a) (ha := ?b3a) (h := ?_)
      case h3a => (go_simp; try with_reducible rfl)
      case b3a => (simp only [Act.put, List.setIfInBounds_toArray, List.set_cons_zero, List.set_cons_succ]; rfl)
      refine Rg.op 4 (some 29) hS (v := (.string sv)) (a' := ?a4a) (hy := fun wz hwz => ?h4a) (ha := ?b4a) (h := ?_)
      case h4a => (have hcv := HCv.out wz hwz; go_simp; try with_reducible rfl)
      case b4a => (simp only [Act.put, List.setIfInBounds_toArray, List.set_cons_zero, List.set_cons_succ]; rfl)
      refine Rg.op 5 (some 30) hS (v := ?v5a) (a' := ?a5a) (hy := fun wz hwz => ?h5a) (ha := ?b5a) (h := ?_)
      case h5a => (go_simp; try with_reducible rfl)
      case b5a => (simp only [Act.put, List.setIfInBounds_toArray, List.set_cons_zero, List.set_cons_succ]; rfl)
      refine Rg.op 6 (some 31) hS (v := ?v6a) (a' := ?a6a) (hy := fun wz hwz => ?h6a) (ha := ?b6a) (h := ?_)
      case h6a => (go_simp; try with_reducible rfl)
      case b6a => (simp only [Act.put, List.setIfInBounds_toArray, List.set_cons_zero, List.set_cons_succ]; rfl)
      refine Rg.op 7 (some 32) hS (v := ?v7a) (a' := ?a7a) (hy := fun wz hwz => ?h7a) (ha := ?b7a) (h := ?_)
      case h7a => (have hk6 := hlt; have hpp := Nat.lt_of_lt_of_le zl2 hwz.size; go_simp; try with_reducible rfl)
      case b7a => (simp only [Act.put, List.setIfInBounds_toArray, List.set_cons_zero, List.set_cons_succ]; rfl)
      refine Rg.op 8 (some 33) hS (v := (.string sv)) (a' := ?a8a) (hy := fun wz hwz => ?h8a) (ha := ?b8a) (h := ?_)
      case h8a => (have cx := (hwz.cell (p := ⟨gl, k, none⟩) zl2 (fun h => h)).trans hlk2; have hpp := Nat.lt_of_lt_of_le zl2 hwz.size; go_simp; try with_reducible rfl)
      case b8a => (simp only [Act.put, List.setIfInBounds_toArray, List.set_cons_zero, List.set_cons_succ]; rfl)
      refine Rg.op 9 (some 34) hS (v := (.bool false)) (a' := ?a9a) (hy := fun wz hwz => ?h9a) (ha := ?b9a) (h := ?_)
      case h9a => (go_simp; try with_reducible rfl)
      case b9a => (simp only [Act.put, List.setIfInBounds_toArray, List.set_cons_zero, List.set_cons_succ]; rfl)
      refine Rg.op 10 (some 35) hS (v := ?v10a) (a' := ?a10a) (hy := fun wz hwz => ?h10a) (ha := ?b10a) (h := ?_)
      case h10a => (go_simp; try with_reducible rfl)
      case b10a => (simp only [Act.put, List.setIfInBounds_toArray, List.set_cons_zero, List.set_cons_succ]; rfl)
      refine Rg.done _ (h := ?_)
      go_wp2
      go_roundw
      case rel => exact ⟨k + 1, by omega, by go_num, U2, H2.out.new hS, HS2.out.trans (Subs.of hS)⟩
      case measure => simp [intOf]; omega
    · obtain rfl : k = 6 := by omega
      have hfin := hX.out
      have HFin := Lib.hid hfin
      clear hfin hX
      go_wp2
      go_ret
      obtain ⟨U1, h1, hs1⟩ := HFin.out
      exact ⟨rfl, U1, h1, hs1⟩
end
end Go.Proofs.YtfapklpcgcgahaaGreatDoor

/-
  A store's calls as its callers count: the pages, what they were at Begin and at each save, how much room is left.
-/
namespace Go.Proofs.YtfapklpcgcgahaaGreatDoor
set_option linter.unusedSimpArgs false
set_option linter.unusedVariables false
open Go.RowKit Go.Maps

/-- Within a transaction: pages C, B ahead of it; each save with its number, how many writes were ahead of it, and the pages there; n writes; q bytes of the log to spare. -/
structure TB (T : TS) (d logn : Nat) (C B : Pgs) (svs : List (Nat × Nat × Pgs)) (n last undone : Nat) (q : Int) : Prop where
  busy : T.busy = true
  d : T.d = d
  logn : T.L.n = logn
  pages : (fun k => (T.V k).d) = C
  base : unTo T.cs 0 C = B
  saves : T.ss = svs.map fun x => (x.1, x.2.1)
  sok : ∀ x ∈ svs, x.2.1 ≤ n ∧ unTo T.cs x.2.1 C = x.2.2
  srt : svs.Pairwise fun a b => a.2.1 ≤ b.2.1
  n : T.cms.length = n
  last : T.last = last
  undone : T.undone = undone
  room : q + (needAll T.cs : Nat) + 17 ≤ T.L.room
/-- Outside. -/
structure TI (T : TS) (d logn : Nat) (C : Pgs) (undone : Nat) (q : Int) : Prop where
  busy : T.busy = false
  d : T.d = d
  logn : T.L.n = logn
  pages : (fun k => (T.V k).d) = C
  undone : T.undone = undone
  room : q ≤ T.L.room
theorem TI.fresh (d p l f log : Nat) (frames : Int) : TI (TS.fresh d p l f 6 log frames) d log CZ 0 (48 * ((log : Int) - 8)) := ⟨rfl, rfl, rfl, rfl, rfl, Int.le_refl _⟩
theorem cs_len (T : TS) : T.cs.length = T.cms.length := by simp [TS.cs]
section
variable {RS RO U : Nat → Prop} {w : World} {s pages M K : Nat} {T : TS} {d logn : Nat} {C B : Pgs} {svs : List (Nat × Nat × Pgs)} {n last undone : Nat} {q : Int}
theorem Begin_tb (h : TxIn RS RO U w s pages M K T) (hb : TI T d logn C undone q) (hroom : 48 * ((logn : Int) - 8) - 48 * ((logn : Int) - 8) / 16 ≤ q) (hn : logn ≤ 32768) :
    Calls Tryz.prog 15 #[.pointer (some ⟨s, 0, none⟩)] w fun e w' => e = .returned (.int .i64 0) ∧ ∃ RS' T', TxIn RS' RO U w' s pages M K T' ∧ TB T' d logn C C [] 0 0 undone (q - 17) ∧ Subs RS RS' RO RO U U w w' := by
  have hr := hb.room
  refine (Begin_tx h hb.busy (by rw [hb.logn]; omega) (by rw [hb.logn]; exact hn)).mono ?_
  rintro e w' ⟨rfl, RS', h1, hs⟩
  refine ⟨rfl, RS', _, h1, ⟨rfl, hb.d, hb.logn, hb.pages, rfl, rfl, fun x hx => by simp at hx, List.Pairwise.nil, rfl, rfl, hb.undone, ?_⟩, hs⟩
  show q - 17 + ((0 : Nat) : Int) + 17 ≤ T.L.room
  omega
theorem Write_tb (h : TxIn RS RO U w s pages M K T) (hb : TB T d logn C B svs n last undone q) (no at_ gb ob cb : Nat) (b : List UInt8) (hbi : BytesIn w (some ⟨gb, ob, none⟩) b) (hgb : gb < w.heap.size) (hgf : ¬ RS gb ∧ ¬ RO gb ∧ ¬ U gb) (hno : no < pages) (hat : at_ + b.length ≤ 480) (hat0 : at_ < 480) (hcb : b.length ≤ cb) (hcb2 : cb ≤ 9223372036854775807)
    (hq : 56 + 3 * (b.length : Int) ≤ q) (hK : K + 1 ≤ 400000) (hM : M + 3 ≤ 1000000000000000000) :
    Calls Tryz.prog 17 #[.pointer (some ⟨s, 0, none⟩), .int .i64 no, .int .i64 at_, .slice (some ⟨gb, ob, none⟩) b.length cb] w fun e w' => e = .returned (.int .i64 0) ∧ ∃ RS' RO' U' T', TxIn RS' RO' U' w' s pages (M + 3) (K + 1) T' ∧ TB T' d logn (layP C no at_ b) B svs (n + 1) last undone (q - (56 + 3 * (b.length : Int))) ∧ Subs RS RS' RO RO' U U' w w' := by
  have hpg := h.pool.pg
  have hvd := (h.pool.vok no hno).1.d
  have hr := hb.room
  have hold : (cutP (T.V no).d at_ b.length).length = b.length := cutP_length (by rw [hvd]; exact hat)
  have hu1 := updB_le (no := no) (at_ := at_) (old := cutP (T.V no).d at_ b.length) (b := b) (by omega) (by omega) (by omega) hold
  have hu2 := undB_le (no := no) (at_ := at_) (old := cutP (T.V no).d at_ b.length) (of := 0) (by omega) (by omega) (by omega)
  rw [hold] at hu2
  refine (Write_tx h hb.busy no at_ gb ob cb b hbi hgb hgf hno hat hat0 hcb hcb2 (by omega) hK hM).mono ?_
  rintro e w' ⟨rfl, RS', RO', U', cv', x, h1, hx, h2, h3, h4, h5⟩
  have hcs : ∀ L V, ({ T with L := L, V := V, cv := cv', cms := T.cms ++ [x] } : TS).cs = T.cs ++ [⟨T.L.next, no, at_, cutP (T.V no).d at_ b.length⟩] := fun L V => by
    unfold TS.cs
    rw [List.map_append, List.map_singleton, hx]
  have hpgs : (fun k => (laidV T.V no T.L.next at_ b k).d) = layP C no at_ b := by
    rw [← hb.pages]
    funext k
    unfold laidV layP
    split <;> rfl
  have hCno : at_ + b.length ≤ (C no).length := by rw [← hb.pages]; rw [hvd]; exact hat
  have hcut : cutP (T.V no).d at_ b.length = cutP (C no) at_ b.length := by rw [← hb.pages]
  refine ⟨rfl, RS', RO', U', _, h1, ⟨hb.busy, hb.d, hb.logn, hpgs, ?_, hb.saves, fun y hy => ?_, hb.srt, ?_, hb.last, hb.undone, ?_⟩, h2, h3, h4, h5⟩
  · rw [hcs, hcut, unTo_write _ _ (Nat.zero_le _) _ _ _ _ _ hCno]
    exact hb.base
  · obtain ⟨e1, e2⟩ := hb.sok y hy
    refine ⟨by omega, ?_⟩
    rw [hcs, hcut, unTo_write _ _ (by rw [cs_len, hb.n]; exact e1) _ _ _ _ _ hCno]
    exact e2
  · show (T.cms ++ [x]).length = n + 1
    rw [List.length_append, List.length_singleton, hb.n]
  · rw [hcs, needAll_snoc]
    have hc : needC ⟨T.L.next, no, at_, cutP (T.V no).d at_ b.length⟩ ≤ 31 + b.length := by
      unfold needC
      dsimp only
      omega
    show q - (56 + 3 * (b.length : Int)) + ((needAll T.cs + needC _ : Nat) : Int) + 17 ≤ T.L.room - (16 + (updB no at_ (cutP (T.V no).d at_ b.length) b).length)
    omega
theorem Save_tb (h : TxIn RS RO U w s pages M K T) (hb : TB T d logn C B svs n last undone q) (hK : K + 1 ≤ 400000) :
    Calls Tryz.prog 24 #[.pointer (some ⟨s, 0, none⟩)] w fun e w' => e = .returned (.tuple #[.int .i64 ((last + 1 : Nat) : Int), .int .i64 0]) ∧ ∃ RS' T', TxIn RS' RO U w' s pages M (K + 1) T' ∧ TB T' d logn C B (svs ++ [(last + 1, n, C)]) n (last + 1) undone q ∧ Subs RS RS' RO RO U U w w' := by
  refine (Save_tx h hb.busy hK).mono ?_
  rintro e w' ⟨he, RS', sv', h1, hs⟩
  rw [hb.last] at he
  refine ⟨he, RS', _, h1, ⟨hb.busy, hb.d, hb.logn, hb.pages, hb.base, ?_, fun y hy => ?_, List.pairwise_append.2 ⟨hb.srt, List.pairwise_singleton _ _, fun a ha b hb2 => by rw [List.mem_singleton] at hb2; subst hb2; exact (hb.sok a ha).1⟩, hb.n, by show T.last + 1 = last + 1; rw [hb.last], hb.undone, hb.room⟩, hs⟩
  · show T.ss ++ [(T.last + 1, T.cms.length)] = _
    rw [List.map_append, hb.saves, hb.last, hb.n]; rfl
  · rcases List.mem_append.1 hy with hy | hy
    · exact hb.sok y hy
    · rw [List.mem_singleton] at hy
      subst hy
      refine ⟨Nat.le_refl _, ?_⟩
      show unTo T.cs n C = C
      rw [← hb.n, ← cs_len]
      exact unTo_all _ _
theorem BackS_tb (h : TxIn RS RO U w s pages M K T) (hb : TB T d logn C B svs n last undone q) (id : Nat) (hq : 0 ≤ q) (hK : K + n ≤ 400000) (hM : M + 1000000 ≤ 1000000000000000000) :
    Calls Tryz.prog 25 #[.pointer (some ⟨s, 0, none⟩), .int .i64 id] w fun e w' =>
      (∃ i at_ W RS' U' T', svs[i]? = some (id, at_, W) ∧ (∀ j y, j < i → svs[j]? = some y → y.1 ≠ id) ∧ e = .returned (.int .i64 0) ∧ TxIn RS' RO U' w' s pages (M + 2 * (n - at_)) (K + (n - at_)) T' ∧ TB T' d logn W B (svs.take (i + 1)) at_ last (undone + (n - at_)) q ∧ Subs RS RS' RO RO U U' w w') ∨
      ((∀ y ∈ svs, y.1 ≠ id) ∧ e = .returned (.int .i64 1) ∧ Fr Nob w w') := by
  have hr := hb.room
  refine (BackS_tx h hb.busy id (fun x hx => ?_) (by omega) (by rw [hb.n]; exact hK) hM).mono ?_
  · rw [hb.saves] at hx
    obtain ⟨y, hy, rfl⟩ := List.mem_map.1 hx
    rw [hb.n]
    exact (hb.sok y hy).1
  · rintro e w' (⟨i, at_, RS', U', V', L', cv', sv', ⟨idn, hi, hid⟩, hfirst, rfl, h1, hv, hr1, hn1, hs⟩ | ⟨hno, rfl, hf⟩)
    · obtain rfl : idn = id := by omega
      rw [hb.saves, List.getElem?_map] at hi
      obtain ⟨⟨y1, y2, W⟩, hy, e1⟩ := Option.map_eq_some_iff.1 hi
      simp only [Prod.mk.injEq] at e1
      obtain ⟨rfl, rfl⟩ := e1
      obtain ⟨hle, hW⟩ := hb.sok _ (List.mem_of_getElem? hy)
      dsimp only at hle hW
      rw [hb.n] at h1
      have hcs : ∀ V L, ({ T with V := V, L := L, cv := cv', cms := T.cms.take y2, undone := T.undone + (n - y2), ss := T.ss.take (i + 1), sv := sv' } : TS).cs = T.cs.take y2 := fun V L => by
        unfold TS.cs; rw [List.map_take]
      have hln : y2 ≤ T.cs.length := by rw [cs_len, hb.n]; exact hle
      rw [hb.pages] at hv
      have hr2 : needAll (T.cs.take y2) ≤ needAll T.cs := by
        have e2 : T.cs = T.cs.take y2 ++ T.cs.drop y2 := (List.take_append_drop _ _).symm
        conv => rhs; rw [e2]
        unfold needAll
        rw [List.map_append, List.sum_append]
        omega
      refine .inl ⟨i, y2, W, RS', U', _, hy, fun j y hj hjy => ?_, rfl, h1, ⟨hb.busy, hb.d, hn1.trans hb.logn, hv.trans hW, ?_, ?_, fun x hx => ?_, List.Pairwise.sublist (List.take_sublist _ _) hb.srt, ?_, hb.last, by show T.undone + (n - y2) = _; rw [hb.undone], ?_⟩, hs⟩
      · have := hfirst j (y.1, y.2.1) hj (by rw [hb.saves, List.getElem?_map, hjy]; rfl)
        intro e; apply this; rw [e]
      · rw [hcs, ← hW, unTo_take _ _ _ (Nat.zero_le _) hln]
        exact hb.base
      · show T.ss.take (i + 1) = _
        rw [hb.saves, List.map_take]
      · obtain ⟨j, hj⟩ := List.mem_iff_getElem?.1 hx
        rw [List.getElem?_take] at hj
        split at hj
        · rename_i hji
          have hxy : x.2.1 ≤ y2 := by
            rcases Nat.lt_or_ge j i with e | e
            · obtain ⟨hj1, hj2⟩ := List.getElem?_eq_some_iff.1 hj
              obtain ⟨hi1, hi2⟩ := List.getElem?_eq_some_iff.1 hy
              have := List.pairwise_iff_getElem.1 hb.srt j i hj1 hi1 e
              rw [hj2, hi2] at this
              exact this
            · obtain rfl : j = i := by omega
              rw [hy] at hj
              injection hj with hj
              subst hj
              exact Nat.le_refl _
          refine ⟨hxy, ?_⟩
          rw [hcs, ← hW, unTo_take _ _ _ hxy hln]
          exact (hb.sok x (List.mem_of_getElem? hj)).2
        · cases hj
      · show (T.cms.take y2).length = y2
        rw [List.length_take, hb.n]; omega
      · rw [hcs]
        show q + ((needAll (T.cs.take y2) : Nat) : Int) + 17 ≤ L'.room
        omega
    · refine .inr ⟨fun y hy e => ?_, rfl, hf⟩
      have := hno (y.1, y.2.1) (by rw [hb.saves]; exact List.mem_map.2 ⟨y, hy, rfl⟩)
      apply this
      show ((y.1 : Nat) : Int) = (id : Int)
      rw [e]
theorem Abort_tb (h : TxIn RS RO U w s pages M K T) (hb : TB T d logn C B svs n last undone q) (hq : 0 ≤ q) (hK : K + n + 1 ≤ 400000) (hM : M + 1000000 ≤ 1000000000000000000) :
    Calls Tryz.prog 20 #[.pointer (some ⟨s, 0, none⟩)] w fun e w' => e = .returned (.int .i64 0) ∧ ∃ RS' U' T', TxIn RS' RO U' w' s pages (M + 2 * n) (K + n + 1) T' ∧ TI T' d logn B (undone + n) q ∧ Subs RS RS' RO RO U U' w w' := by
  have hr := hb.room
  refine (Abort_tx h hb.busy (by omega) (by rw [hb.n]; exact hK) hM).mono ?_
  rintro e w' ⟨rfl, RS', U', V', L', h1, hv, hr1, hn1, hs⟩
  rw [hb.n] at h1
  refine ⟨rfl, RS', U', _, h1, ⟨rfl, hb.d, hn1.trans hb.logn, ?_, by show T.undone + n = _; rw [hb.undone], ?_⟩, hs⟩
  · rw [← hb.base, ← hb.pages]; exact hv
  · show q ≤ L'.room
    omega
set_option maxRecDepth 100000 in
/-- A Write outside. -/
theorem Write_idle (h : TxIn RS RO U w s pages M K T) (hbz : T.busy = false) (no at_ : Int) (A : Option Addr) (n c : Nat) :
    Calls Tryz.prog 17 #[.pointer (some ⟨s, 0, none⟩), .int .i64 no, .int .i64 at_, .slice A n c] w fun e w' => e = .returned (.int .i64 7) ∧ w = w' := by
  have c4 := h.cell 4
  have zs := h.blk.lt
  simp only [TS.cells, List.getElem?_toArray, List.getElem?_cons_zero, List.getElem?_cons_succ, hbz] at c4
  clear h hbz
  go_enter Tryz.func17, Tryz.ntmps17
  go_wp2
  go_ret
  exact ⟨rfl, rfl⟩
end
end Go.Proofs.YtfapklpcgcgahaaGreatDoor

/-
  made, awake: a world of the statements on transactions.
-/
namespace Go.Proofs.YtfapklpcgcgahaaGreatDoor
set_option linter.unusedSimpArgs false
set_option linter.unusedVariables false
open Go.RowKit Go.Maps

theorem Row6.at_ {w : World} {base g c : Nat} {C : Pgs} (h : Row6 w base (.slice (some ⟨g, 0, none⟩) 6 c) C) (i : Nat) (hi : i < 6) : w.cell? ⟨g, i, none⟩ = some (tS (C i)) := by
  have h7 := (show w.ownsRow _ 9 1 _ 6 _ from h).cellAt i (by omega)
  rw [h7, List.getElem?_map, List.getElem?_range hi]; rfl
def w6cells (d s : Nat) (log frames : Int) (nv lv : Value) : Array Value := #[.pointer (some ⟨d, 0, none⟩), .pointer (some ⟨s, 0, none⟩), .int .i64 log, .int .i64 frames, nv, lv, .slice none 0 0, .slice none 0 0, .bool false]
/-- A world that was made since w0, its store, and the row of its pages as texts. -/
structure TW (w0 w : World) (RS RO U : Nat → Prop) (g s M K : Nat) (T : TS) (log frames : Int) (nv lv : Value) (N : Pgs) : Prop where
  wld : Blk w g 38 (w6cells T.d s log frames nv lv)
  tx : TxIn RS RO U w s 6 M K T
  now : Row6 w w0.heap.size nv N
  nvb : ∀ b, nv.ownBlock = some b → ¬ All3 RS RO U b
  hi : ∀ b, All3 RS RO U b → w0.heap.size ≤ b
  ng : ¬ All3 RS RO U g
  gg : w0.heap.size ≤ g
  fr : Fr Nob w0 w
section
variable {w0 w w' : World} {RS RO U RS' RO' U' : Nat → Prop} {g s M K : Nat} {T T' : TS} {log frames : Int} {nv lv : Value} {N : Pgs}
theorem TW.new (h : TW w0 w RS RO U g s M K T log frames nv lv N) (hf : Fr Nob w w') : TW w0 w' RS RO U g s M K T log frames nv lv N :=
  ⟨h.wld.fr hf (fun h => h), h.tx.new hf, own_fr h.now hf (fun _ _ h => h), h.nvb, h.hi, h.ng, h.gg, h.fr.trans hf⟩
theorem TW.lt (h : TW w0 w RS RO U g s M K T log frames nv lv N) : g < w.heap.size := h.wld.lt
theorem TW.cs (h : TW w0 w RS RO U g s M K T log frames nv lv N) : w.cell? ⟨g, 1, none⟩ = some (.pointer (some ⟨s, 0, none⟩)) := by
  have := h.wld.cell 1
  simpa [w6cells] using this
theorem TW.cn (h : TW w0 w RS RO U g s M K T log frames nv lv N) : w.cell? ⟨g, 4, none⟩ = some nv := by
  have := h.wld.cell 4
  simpa [w6cells] using this
theorem Subs.fr3 (h : Subs RS RS' RO RO' U U' w w') : Fr (All3 RS RO U) w w' := h.fr.mono (fun _ _ e => e.elim .inl (fun e => .inr (.inr e)))
/-- A call on the store. -/
theorem TW.step (h : TW w0 w RS RO U g s M K T log frames nv lv N) {M' K' : Nat} (ht : TxIn RS' RO' U' w' s 6 M' K' T') (hs : Subs RS RS' RO RO' U U' w w') (hd : T'.d = T.d) : TW w0 w' RS' RO' U' g s M' K' T' log frames nv lv N := by
  have hz := h.fr.size
  have hall : ∀ b, All3 RS' RO' U' b → All3 RS RO U b ∨ w.heap.size ≤ b := fun b hb => by
    rcases hb with hb | hb | hb
    · exact (hs.rs b hb).imp .inl id
    · exact (hs.ro b hb).imp (fun e => .inr (.inl e)) id
    · exact (hs.u b hb).imp (fun e => .inr (.inr e)) id
  refine ⟨by rw [hd]; exact h.wld.fr hs.fr3 h.ng, ht, own_fr h.now hs.fr3 h.nvb, fun b hb e => ?_, fun b hb => ?_, fun e => ?_, h.gg, h.fr.step hs.fr3 (fun i hi e => ?_)⟩
  · rcases hall b e with e | e
    · exact h.nvb b hb e
    · have := own_lt h.now hb; omega
  · rcases hall b hb with e | e
    · exact h.hi b e
    · omega
  · rcases hall g e with e | e
    · exact h.ng e
    · have := h.lt; omega
  · have := h.hi i e; omega
end
set_option maxHeartbeats 3200000 in
set_option maxRecDepth 100000 in
theorem Made6_any (log : Nat) (frames : Int) (w : World) (h3 : 64 ≤ log) (h4 : log ≤ 16384) (h5 : 1 ≤ frames) (h6 : frames ≤ 64) :
    Calls Tryz.prog 14 #[.int .i64 log, .int .i64 frames] w fun e w' => ∃ g s d p l f RS U nv lv, e = .returned (.pointer (some ⟨g, 0, none⟩)) ∧ TW w w' RS (fun _ => False) U g s 0 0 (TS.fresh d p l f 6 log frames) log frames nv lv CZ := by
  have HNe := Lib.hid (NeedT_any 6 log w (by omega) (by omega) (by omega))
  have HNw := Lib.hid (New_good (8 * 6 + 80 + log) w (by omega) (by omega))
  have HBl : Hid (∀ W, Calls Tryz.prog 26 #[] W fun e w' => ∃ v, e = .returned v ∧ Row6 w' W.heap.size v CZ ∧ Fr Nob W w') := Blank6_any
  obtain ⟨nd, hnd⟩ : ∃ x : Nat, 8 * 6 + 80 + log = x := ⟨_, rfl⟩
  rw [hnd] at HNe HNw
  have HNd := Lib.hid hnd
  clear hnd
  go_enter Tryz.func14, Tryz.ntmps14
  go_wp2_with fail
  refine HNe.out.mono ?_
  rintro e w0 ⟨rfl, rfl⟩
  go_wp2_with fail
  refine HNw.out.mono ?_
  rintro e w1 ⟨d, rfl, hd0, hd1, hf1⟩
  have hnd := HNd.out
  have HOp := Lib.hid (OpenT_good (pages := 6) (log := log) (frames := frames) hd1 (by omega) (by omega) h3 h4 h5 h6 (by omega) (by omega))
  have HF1 := Lib.hid hf1
  clear hd1 hf1 HNw hnd
  go_wp2_with fail
  refine HOp.out.mono ?_
  rintro e w2 ⟨s, rfl, p, l, f, RS, U, h2, hRS, hU, hs0, hf2⟩
  have H2 := Lib.hid h2
  have HRS := Lib.hid hRS
  have HU := Lib.hid hU
  have HF2 := Lib.hid hf2
  have hz1 := HF1.out.size
  have hz2 := hf2.size
  clear h2 hRS hU hf2 HOp
  go_wp2_with fail
  refine (HBl.out w2).mono ?_
  rintro e w3 ⟨nv, rfl, hn3, hf3⟩
  obtain ⟨gn, cn, rfl, _⟩ := World.ownsRow.form (show w3.ownsRow w2.heap.size 9 1 nv 6 _ from hn3) (by omega)
  have HN3 := Lib.hid hn3
  have HF3 := Lib.hid hf3
  clear hn3 hf3
  go_wp2_with fail
  refine (HBl.out w3).mono ?_
  rintro e w4 ⟨lv, rfl, hl4, hf4⟩
  obtain ⟨gl, cl, rfl, _⟩ := World.ownsRow.form (show w4.ownsRow w3.heap.size 9 1 lv 6 _ from hl4) (by omega)
  clear hl4
  have HF4 := Lib.hid hf4
  clear hf4
  go_wp2
  have hfa : Fr Nob w4 (w4.alloc (.cells (w6cells d s log frames (.slice (some ⟨gn, 0, none⟩) 6 cn) (.slice (some ⟨gl, 0, none⟩) 6 cl)) 38)) := (Fr.refl _ w4).alloc _
  have hba : Blk (w4.alloc (.cells (w6cells d s log frames (.slice (some ⟨gn, 0, none⟩) 6 cn) (.slice (some ⟨gl, 0, none⟩) 6 cl)) 38)) w4.heap.size 38 (w6cells d s log frames (.slice (some ⟨gn, 0, none⟩) 6 cn) (.slice (some ⟨gl, 0, none⟩) 6 cl)) := Blk.new _ _ _
  have hz3 := HF3.out.size
  have hz4 := HF4.out.size
  have hfr : Fr Nob w (w4.alloc (.cells (w6cells d s log frames (.slice (some ⟨gn, 0, none⟩) 6 cn) (.slice (some ⟨gl, 0, none⟩) 6 cl)) 38)) := (((HF1.out.step HF2.out (fun i hi e => by
    have e : w.heap.size ≤ i := e.1
    omega)).trans HF3.out).trans HF4.out).trans hfa
  have hall : ∀ b, All3 RS (fun _ => False) U b → w.heap.size ≤ b ∧ b < w2.heap.size := fun b hb => by
    rcases hb with hb | hb | hb
    · have := HRS.out b hb; have := H2.out.lts b hb; omega
    · exact hb.elim
    · have h7 := H2.out.ltu b hb
      rcases HU.out b hb with e | e
      · exact ⟨e.1, h7⟩
      · omega
  have hn4 : Row6 (w4.alloc (.cells (w6cells d s log frames (.slice (some ⟨gn, 0, none⟩) 6 cn) (.slice (some ⟨gl, 0, none⟩) 6 cl)) 38)) w2.heap.size (.slice (some ⟨gn, 0, none⟩) 6 cn) CZ := own_fr HN3.out (HF4.out.trans hfa) (fun _ _ h => h)
  go_ret
  exact ⟨w4.heap.size, s, d, p, l, f, RS, U, _, _, rfl, hba, H2.out.new ((HF3.out.trans HF4.out).trans hfa), own_base hn4 (fun b hb => by have := (hn4.lt b hb).1; omega), fun b hb e => by have := (HN3.out.lt b hb).1; have := hall b e; omega, fun b hb => (hall b hb).1, fun e => by have := hall _ e; omega, by omega, hfr⟩
set_option maxHeartbeats 6400000 in
set_option maxRecDepth 100000 in
theorem Awake6_any (w : World) : Calls Tryz.prog 13 #[] w fun e w' => e = .returned (.bool true) ∧ Fr Nob w w' := by
  have kc := fun (w : World) (C : Array Value) (n c : Nat) => Lib.run_convert_bytes_const (P := Tryz.prog) w 40 5 C n c Tryz.underlying40 Tryz.underlying5
  have HMd : Hid (Calls Tryz.prog 14 #[.int .i64 64, .int .i64 2] w fun e w' => ∃ g s d p l f RS U nv lv, e = .returned (.pointer (some ⟨g, 0, none⟩)) ∧ TW w w' RS (fun _ => False) U g s 0 0 (TS.fresh d p l f 6 64 2) (64 : Nat) 2 nv lv CZ) := Made6_any 64 2 w (by omega) (by omega) (by omega) (by omega)
  have HBl : Hid (∀ W, Calls Tryz.prog 26 #[] W fun e w' => ∃ v, e = .returned v ∧ Row6 w' W.heap.size v CZ ∧ Fr Nob W w') := Blank6_any
  go_enter Tryz.func13, Tryz.ntmps13
  go_wp2_with fail
  refine HMd.out.mono ?_
  rintro e w1 ⟨g, s, d, p, l, f, RS1, U1, nv, lv, rfl, hw1⟩
  have hti := TI.fresh d p l f 64 2
  have HBg := Lib.hid (Begin_tb hw1.tx hti (by omega) (by omega))
  have c1 := hw1.cs
  have z1 := hw1.lt
  have HW1 := Lib.hid hw1
  clear hw1 hti HMd
  go_wp2_with fail
  refine HBg.out.mono ?_
  rintro e w2 ⟨rfl, RS2, T2, h2, hb2, hs2⟩
  have hw2 := HW1.out.step h2 hs2 hb2.d
  have hfa : Fr Nob w2 (w2.alloc (.cells #[.int .u8 120] 5 (1, 2))) := (Fr.refl _ w2).alloc _
  have hbi : BytesIn (w2.alloc (.cells #[.int .u8 120] 5 (1, 2))) (some ⟨w2.heap.size, 0, none⟩) [120] := bytesIn_lit w2 [120] (1, 2)
  have hwa := hw2.new hfa
  have hnot : ¬ RS2 w2.heap.size ∧ ¬ (fun _ : Nat => False) w2.heap.size ∧ ¬ U1 w2.heap.size := ⟨fun e => by have := h2.lts _ e; omega, fun h => h, fun e => by have := h2.ltu _ e; omega⟩
  have hwr := Write_tb hwa.tx hb2 0 0 w2.heap.size 0 1 [120] hbi (by simp) hnot (by omega) (by decide) (by omega) (by decide) (by omega) (by decide) (by omega) (by omega)
  have HWr := Lib.hid hwr
  have HWa := Lib.hid hwa
  have HD2 := Lib.hid hb2.d
  have c2 := hw2.cs
  have z2 := hw2.lt
  clear hfa hbi hwa hnot hwr hw2 h2 hb2 hs2 HBg c1 z1 HW1
  go_wp2_with fail
  refine HWr.out.mono ?_
  rintro e w3 ⟨rfl, RS3, RO3, U3, T3, h3, hb3, hs3⟩
  have hw3 := HWa.out.step h3 hs3 (hb3.d.trans HD2.out.symm)
  have HAb := Lib.hid (Abort_tb hw3.tx hb3 (by simp) (by omega) (by omega))
  have c3 := hw3.cs
  have z3 := hw3.lt
  have HW3 := Lib.hid hw3
  have HD3 := Lib.hid hb3.d
  clear h3 hb3 hs3 hw3 HWr HWa HD2 c2 z2
  go_wp2_with fail
  refine HAb.out.mono ?_
  rintro e w4 ⟨rfl, RS4, U4, T4, h4, hb4, hs4⟩
  have hw4 := HW3.out.step h4 hs4 (hb4.d.trans HD3.out.symm)
  have hfa : Fr Nob w4 (w4.alloc (.cells #[.int .u8 120] 5 (1, 2))) := (Fr.refl _ w4).alloc _
  have hwa := hw4.new hfa
  have HWi := Lib.hid (Write_idle hwa.tx hb4.busy 0 0 (some ⟨w4.heap.size, 0, none⟩) 1 1)
  have c4 := hw4.cs
  have z4 := hw4.lt
  have c5 := hwa.cs
  have z5 := hwa.lt
  have HW5 := Lib.hid hwa
  have HPg4 := Lib.hid hb4.pages
  have HBz4 := Lib.hid hb4.busy
  clear h4 hb4 hs4 hw4 hfa hwa HAb HW3 HD3 c3 z3
  go_wp2_with fail
  refine HWi.out.mono ?_
  rintro e w5 ⟨rfl, rfl⟩
  obtain ⟨w5, hw5⟩ : ∃ W, w4.alloc (.cells #[.int .u8 120] 5 (1, 2)) = W := ⟨_, rfl⟩
  rw [hw5] at HW5 c5 z5 ⊢
  clear hw5 HWi c4 z4
  go_wp2_with fail
  have hS : Fr (All3 RS4 RO3 U4) w5 w5.drew := (Fr.refl _ w5).drew
  have hSn : Fr Nob w5 w5.drew := (Fr.refl _ w5).drew
  have hng := HW5.out.ng
  refine Rg.begin (Fr (All3 RS4 RO3 U4) w5) [] (by kernel_rfl) ?_
  refine Rg.op 0 (some 33) hS (v := ?v0a) (a' := ?a0a) (hy := fun wz hwz => ?h0a) (ha := ?b0a) (h := ?_)
  case h0a => (go_simp; try with_reducible rfl)
  case b0a => (simp only [Act.put, List.setIfInBounds_toArray, List.set_cons_zero, List.set_cons_succ]; rfl)
  refine Rg.op 1 (some 34) hS (v := ?v1a) (a' := ?a1a) (hy := fun wz hwz => ?h1a) (ha := ?b1a) (h := ?_)
  case h1a => (go_simp; try with_reducible rfl)
  case b1a => (simp only [Act.put, List.setIfInBounds_toArray, List.set_cons_zero, List.set_cons_succ]; rfl)
  refine Rg.op 2 (some 35) hS (v := ?v2a) (a' := ?a2a) (hy := fun wz hwz => ?h2a) (ha := ?b2a) (h := ?_)
  case h2a => (go_simp; try with_reducible rfl)
  case b2a => (simp only [Act.put, List.setIfInBounds_toArray, List.set_cons_zero, List.set_cons_succ]; rfl)
  refine Rg.op 3 (some 36) hS (v := ?v3a) (a' := ?a3a) (hy := fun wz hwz => ?h3a) (ha := ?b3a) (h := ?_)
  case h3a => (go_simp; try with_reducible rfl)
  case b3a => (simp only [Act.put, List.setIfInBounds_toArray, List.set_cons_zero, List.set_cons_succ]; rfl)
  refine Rg.op 4 (some 37) hS (v := ?v4a) (a' := ?a4a) (hy := fun wz hwz => ?h4a) (ha := ?b4a) (h := ?_)
  case h4a => (go_simp; try with_reducible rfl)
  case b4a => (simp only [Act.put, List.setIfInBounds_toArray, List.set_cons_zero, List.set_cons_succ]; rfl)
  refine Rg.op 5 (some 38) hS (v := ?v5a) (a' := ?a5a) (hy := fun wz hwz => ?h5a) (ha := ?b5a) (h := ?_)
  case h5a => (go_simp; try with_reducible rfl)
  case b5a => (simp only [Act.put, List.setIfInBounds_toArray, List.set_cons_zero, List.set_cons_succ]; rfl)
  refine Rg.op 6 (some 39) hS (v := ?v6a) (a' := ?a6a) (hy := fun wz hwz => ?h6a) (ha := ?b6a) (h := ?_)
  case h6a => (go_simp; try with_reducible rfl)
  case b6a => (simp only [Act.put, List.setIfInBounds_toArray, List.set_cons_zero, List.set_cons_succ]; rfl)
  refine Rg.op 7 (some 40) hS (v := ?v7a) (a' := ?a7a) (hy := fun wz hwz => ?h7a) (ha := ?b7a) (h := ?_)
  case h7a => (go_simp; try with_reducible rfl)
  case b7a => (simp only [Act.put, List.setIfInBounds_toArray, List.set_cons_zero, List.set_cons_succ]; rfl)
  refine Rg.op 8 (some 41) hS (v := ?v8a) (a' := ?a8a) (hy := fun wz hwz => ?h8a) (ha := ?b8a) (h := ?_)
  case h8a => (go_simp; try with_reducible rfl)
  case b8a => (simp only [Act.put, List.setIfInBounds_toArray, List.set_cons_zero, List.set_cons_succ]; rfl)
  refine Rg.op 9 (some 42) hS (v := ?v9a) (a' := ?a9a) (hy := fun wz hwz => ?h9a) (ha := ?b9a) (h := ?_)
  case h9a => (go_simp; try with_reducible rfl)
  case b9a => (simp only [Act.put, List.setIfInBounds_toArray, List.set_cons_zero, List.set_cons_succ]; rfl)
  refine Rg.op 10 (some 43) hS (v := ?v10a) (a' := ?a10a) (hy := fun wz hwz => ?h10a) (ha := ?b10a) (h := ?_)
  case h10a => (go_simp; try with_reducible rfl)
  case b10a => (simp only [Act.put, List.setIfInBounds_toArray, List.set_cons_zero, List.set_cons_succ]; rfl)
  refine Rg.op 11 (some 44) hS (v := ?v11a) (a' := ?a11a) (hy := fun wz hwz => ?h11a) (ha := ?b11a) (h := ?_)
  case h11a => (go_simp; try with_reducible rfl)
  case b11a => (simp only [Act.put, List.setIfInBounds_toArray, List.set_cons_zero, List.set_cons_succ]; rfl)
  refine Rg.op 12 (some 45) hS (v := ?v12a) (a' := ?a12a) (hy := fun wz hwz => ?h12a) (ha := ?b12a) (h := ?_)
  case h12a => (go_simp; try with_reducible rfl)
  case b12a => (simp only [Act.put, List.setIfInBounds_toArray, List.set_cons_zero, List.set_cons_succ]; rfl)
  refine Rg.op 13 (some 46) hS (v := ?v13a) (a' := ?a13a) (hy := fun wz hwz => ?h13a) (ha := ?b13a) (h := ?_)
  case h13a => (go_simp; try with_reducible rfl)
  case b13a => (simp only [Act.put, List.setIfInBounds_toArray, List.set_cons_zero, List.set_cons_succ]; rfl)
  refine Rg.op 14 (some 47) hS (v := ?v14a) (a' := ?a14a) (hy := fun wz hwz => ?h14a) (ha := ?b14a) (h := ?_)
  case h14a => (go_simp; try with_reducible rfl)
  case b14a => (simp only [Act.put, List.setIfInBounds_toArray, List.set_cons_zero, List.set_cons_succ]; rfl)
  refine Rg.op 15 (some 48) hS (v := ?v15a) (a' := ?a15a) (hy := fun wz hwz => ?h15a) (ha := ?b15a) (h := ?_)
  case h15a => (go_simp; try with_reducible rfl)
  case b15a => (simp only [Act.put, List.setIfInBounds_toArray, List.set_cons_zero, List.set_cons_succ]; rfl)
  refine Rg.op 16 (some 49) hS (v := ?v16a) (a' := ?a16a) (hy := fun wz hwz => ?h16a) (ha := ?b16a) (h := ?_)
  case h16a => (have hpp := Nat.lt_of_lt_of_le z5 hwz.size; go_simp; try with_reducible rfl)
  case b16a => (simp only [Act.put, List.setIfInBounds_toArray, List.set_cons_zero, List.set_cons_succ]; rfl)
  refine Rg.op 17 (some 50) hS (v := ?v17a) (a' := ?a17a) (hy := fun wz hwz => ?h17a) (ha := ?b17a) (h := ?_)
  case h17a => (have hpp := Nat.lt_of_lt_of_le z5 hwz.size; go_simp; try with_reducible rfl)
  case b17a => (simp only [Act.put, List.setIfInBounds_toArray, List.set_cons_zero, List.set_cons_succ]; rfl)
  refine Rg.op 18 (some 51) hS (v := (.pointer (some ⟨s, 0, none⟩))) (a' := ?a18a) (hy := fun wz hwz => ?h18a) (ha := ?b18a) (h := ?_)
  case h18a => (have cx := (hwz.cell (p := ⟨g, 1, none⟩) z5 hng).trans c5; have hpp := Nat.lt_of_lt_of_le z5 hwz.size; go_simp; try with_reducible rfl)
  case b18a => (simp only [Act.put, List.setIfInBounds_toArray, List.set_cons_zero, List.set_cons_succ]; rfl)
  refine Rg.call 19 (some 52) (hrun := ?h19a) (hcall := HBl.out _) (h := ?_)
  case h19a => (go_simp)
  rintro e w6 ⟨bv, rfl, hbr, hf6⟩
  have hN6 : Fr Nob w5 w6 := hSn.trans hf6
  have hS6 : Fr (All3 RS4 RO3 U4) w5 w6 := hN6.mono (fun _ _ h => h.elim)
  obtain ⟨gb, cb, rfl, hgb1, hgb2⟩ := World.ownsRow.form (show w6.ownsRow _ 9 1 bv 6 _ from hbr) (by omega)
  have HBr := Lib.hid hbr
  clear hbr hf6
  refine ⟨_, ?a19a, rfl, ?b19a, (fun _ => hS6), ?_⟩
  case b19a => (simp only [Act.put, List.setIfInBounds_toArray, List.set_cons_zero, List.set_cons_succ]; rfl)
  have h6 := HW5.out.tx.new hN6
  have hgbz : w5.heap.size ≤ gb := hgb1
  have hst := Stands_tx h6 gb cb (fun i hi => by rw [congrFun HPg4.out i]; exact Row6.at_ HBr.out i hi) (fun e => by have := HW5.out.tx.lts gb e; omega) (fun e => by have := HW5.out.tx.ltu gb e; omega) (by omega)
  have HSt := Lib.hid hst
  clear hst h6
  refine Rg.call 20 (some 53) (hrun := ?h20a) (hcall := HSt.out) (h := ?_)
  case h20a => (go_simp)
  rintro e w7 ⟨rfl, U7, h7, hs7⟩
  have hS7 : Fr (All3 RS4 RO3 U4) w5 w7 := hS6.trans hs7.fr3
  have H7 := Lib.hid h7
  clear h7 hs7 HSt
  refine ⟨_, ?a20a, rfl, ?b20a, (fun _ => hS7), ?_⟩
  case b20a => (simp only [Act.put, List.setIfInBounds_toArray, List.set_cons_zero, List.set_cons_succ]; rfl)
  refine Rg.op 21 (some 54) hS7 (v := ?v21a) (a' := ?a21a) (hy := fun wz hwz => ?h21a) (ha := ?b21a) (h := ?_)
  case h21a => (go_simp; try with_reducible rfl)
  case b21a => (simp only [Act.put, List.setIfInBounds_toArray, List.set_cons_zero, List.set_cons_succ]; rfl)
  refine Rg.op 22 (some 55) hS7 (v := ?v22a) (a' := ?a22a) (hy := fun wz hwz => ?h22a) (ha := ?b22a) (h := ?_)
  case h22a => (go_simp; try with_reducible rfl)
  case b22a => (simp only [Act.put, List.setIfInBounds_toArray, List.set_cons_zero, List.set_cons_succ]; rfl)
  refine Rg.op 23 (some 56) hS7 (v := ?v23a) (a' := ?a23a) (hy := fun wz hwz => ?h23a) (ha := ?b23a) (h := ?_)
  case h23a => (go_simp; try with_reducible rfl)
  case b23a => (simp only [Act.put, List.setIfInBounds_toArray, List.set_cons_zero, List.set_cons_succ]; rfl)
  refine Rg.op 24 (some 57) hS7 (v := ?v24a) (a' := ?a24a) (hy := fun wz hwz => ?h24a) (ha := ?b24a) (h := ?_)
  case h24a => (have hpp := Nat.lt_of_lt_of_le z5 hwz.size; go_simp; try with_reducible rfl)
  case b24a => (simp only [Act.put, List.setIfInBounds_toArray, List.set_cons_zero, List.set_cons_succ]; rfl)
  refine Rg.op 25 (some 58) hS7 (v := ?v25a) (a' := ?a25a) (hy := fun wz hwz => ?h25a) (ha := ?b25a) (h := ?_)
  case h25a => (have hpp := Nat.lt_of_lt_of_le z5 hwz.size; go_simp; try with_reducible rfl)
  case b25a => (simp only [Act.put, List.setIfInBounds_toArray, List.set_cons_zero, List.set_cons_succ]; rfl)
  refine Rg.op 26 (some 59) hS7 (v := (.pointer (some ⟨s, 0, none⟩))) (a' := ?a26a) (hy := fun wz hwz => ?h26a) (ha := ?b26a) (h := ?_)
  case h26a => (have cx := (hwz.cell (p := ⟨g, 1, none⟩) z5 hng).trans c5; have hpp := Nat.lt_of_lt_of_le z5 hwz.size; go_simp; try with_reducible rfl)
  case b26a => (simp only [Act.put, List.setIfInBounds_toArray, List.set_cons_zero, List.set_cons_succ]; rfl)
  have HBu := Lib.hid (Busy_tx H7.out)
  refine Rg.call 27 (some 60) (hrun := ?h27a) (hcall := HBu.out) (h := ?_)
  case h27a => (go_simp)
  rintro e w8 ⟨rfl, rfl⟩
  refine ⟨_, ?a27a, rfl, ?b27a, (fun _ => hS7), ?_⟩
  case b27a => (simp only [Act.put, List.setIfInBounds_toArray, List.set_cons_zero, List.set_cons_succ]; rfl)
  refine Rg.op 28 (some 61) hS7 (v := ?v28a) (a' := ?a28a) (hy := fun wz hwz => ?h28a) (ha := ?b28a) (h := ?_)
  case h28a => (go_simp; try with_reducible rfl)
  case b28a => (simp only [Act.put, List.setIfInBounds_toArray, List.set_cons_zero, List.set_cons_succ]; rfl)
  refine Rg.op 29 (some 62) hS7 (v := ?v29a) (a' := ?a29a) (hy := fun wz hwz => ?h29a) (ha := ?b29a) (h := ?_)
  case h29a => (go_simp; try with_reducible rfl)
  case b29a => (simp only [Act.put, List.setIfInBounds_toArray, List.set_cons_zero, List.set_cons_succ]; rfl)
  refine Rg.op 30 (some 0) hS7 (v := ?v30a) (a' := ?a30a) (hy := fun wz hwz => ?h30a) (ha := ?b30a) (h := ?_)
  case h30a => (go_simp; try with_reducible rfl)
  case b30a => (simp only [Act.put, List.setIfInBounds_toArray, List.set_cons_zero, List.set_cons_succ]; rfl)
  refine Rg.done _ (h := ?_)
  go_wp2
  go_ret
  refine ⟨by show Ending.returned (Value.bool (!T4.busy)) = _; rw [HBz4.out]; rfl, HW5.out.fr.step hS7 (fun i hi e => ?_)⟩
  have := HW5.out.hi i e
  omega
end Go.Proofs.YtfapklpcgcgahaaGreatDoor
