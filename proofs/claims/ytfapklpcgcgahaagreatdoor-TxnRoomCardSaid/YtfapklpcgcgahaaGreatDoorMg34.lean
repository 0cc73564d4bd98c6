/-
  TxnW0, TxnW1, TxnTB, in one text.
-/
import Derived.Test.YtfapklpcgcgahaaGreatDoorMg33
import Derived.Test.YtfapklpcgcgahaaGreatDoorMg20
/-
  What the statements on transactions say: pages as texts, bytes by a number.
-/
namespace Go.Proofs.YtfapklpcgcgahaaGreatDoor
set_option linter.unusedSimpArgs false
set_option linter.unusedVariables false
open Go.RowKit Go.Maps

/-- A page as a text. -/
def tS (l : List UInt8) : Value := .string ⟨l.toArray⟩
def byAt (n i : Nat) : UInt8 := UInt8.ofNat (n + i * 5)
/-- So many bytes by a number. -/
def byB (n long : Nat) : List UInt8 := (List.range long).map (byAt n)
def byK (n long k : Nat) : List UInt8 := (List.range long).map fun i => if i < k then byAt n i else 0
theorem byB_length (n long : Nat) : (byB n long).length = long := by unfold byB; rw [List.length_map, List.length_range]
theorem byK_length (n long k : Nat) : (byK n long k).length = long := by unfold byK; rw [List.length_map, List.length_range]
theorem byK_zero (n long : Nat) : byK n long 0 = zeros long := by
  refine List.ext_getElem? (fun i => ?_)
  unfold byK zeros
  rw [List.getElem?_map, List.getElem?_replicate]
  by_cases h : i < long
  · rw [List.getElem?_range h, if_pos h]; rfl
  · rw [List.getElem?_eq_none (by rw [List.length_range]; omega), if_neg h]; rfl
theorem byK_succ (n long k : Nat) (h : k < long) : byK n long (k + 1) = (byK n long k).set k (byAt n k) := by
  refine List.ext_getElem? (fun i => ?_)
  rw [List.getElem?_set]
  unfold byK
  rw [List.getElem?_map, List.getElem?_map, List.length_map, List.length_range]
  by_cases hi : i < long
  · rw [List.getElem?_range hi]
    by_cases e : k = i
    · subst e; rw [if_pos rfl, if_pos hi]; simp
    · rw [if_neg e]
      have : (i < k + 1) ↔ (i < k) := by omega
      simp [this]
  · rw [List.getElem?_eq_none (by rw [List.length_range]; omega)]
    rw [if_neg (by omega)]; rfl
theorem byK_full (n long : Nat) : byK n long long = byB n long := by
  unfold byK byB
  refine List.map_congr_left (fun i hi => ?_)
  rw [List.mem_range] at hi
  rw [if_pos hi]
theorem makeT (k : Nat) (hk : k < 1024) (w : World) : (Instr.makeSlice 40 (.int .i64 k) (.int .i64 k)).run Tryz.prog w = .ok (.slice (some ⟨w.heap.size, 0, none⟩) k k) (w.alloc (.cells (zeroCells k) 5)) :=
  run_make_row' (P := Tryz.prog) 40 5 (.int .u8 0) 1 Tryz.underlying40 info_u8z rfl .i64 .i64 k (by omega) (by omega) w
set_option maxHeartbeats 1600000 in
set_option maxRecDepth 100000 in
theorem Bytes6_any (n long : Nat) (w : World) (hn : n ≤ 100000) (hlo : long ≤ 480) :
    Calls Tryz.prog 16 #[.int .i64 n, .int .i64 long] w fun e w' => e = .returned (.slice (some ⟨w.heap.size, 0, none⟩) long long) ∧ Blk w' w.heap.size 5 (bts (byB n long)).toArray ∧ Fr Nob w w' := by
  have hmk := makeT long (by omega)
  have qL := len_by
  have hb0 : Blk (w.alloc (.cells (zeroCells long) 5)) w.heap.size 5 (bts (byK n long 0)).toArray := by rw [byK_zero, ← zeroCells_eq]; exact Blk.new _ _ _
  have HB0 := Lib.hid hb0
  have HF0 : Hid (Fr Nob w (w.alloc (.cells (zeroCells long) 5))) := (Fr.refl _ w).alloc _
  obtain ⟨g, hg⟩ : ∃ g, w.heap.size = g := ⟨_, rfl⟩
  have HG := Lib.hid hg
  rw [hg] at HB0 ⊢
  clear hb0
  go_enter Tryz.func16, Tryz.ntmps16
  go_wp2
  try (rw [qL]; go_wp2)
  clear hg
  go_loopw [6, 11] (fun _ iv wr => ∃ k : Nat, k ≤ long ∧ iv = .int .i64 k ∧ Hid (Blk wr g 5 (bts (byK n long k)).toArray) ∧ Hid (Fr Nob w wr)) (fun _ iv _ => long - (intOf iv).toNat)
  case atStart => exact ⟨0, by omega, rfl, HB0.out, HF0.out⟩
  case round =>
    clear HB0 HF0
    obtain ⟨k, hk, rfl, hB, hF⟩ := hrel
    by_cases hlt : k < long
    · have hlen : k < (byK n long k).length := by rw [byK_length]; exact hlt
      have ck := Blk.cell hB.out k
      have fk := Blk.frozen hB.out k
      have hgl := hB.out.lt
      rw [List.getElem?_toArray, bts_get, List.getElem?_eq_getElem hlen, Option.map_some] at ck
      have e1 : IntKind.i64.wrap ((k : Int) * 5) = (k : Int) * 5 := by rw [IntKind.wrap_i64]; omega
      have e2 : IntKind.i64.wrap ((n : Int) + (k : Int) * 5) = (n : Int) + (k : Int) * 5 := by rw [IntKind.wrap_i64]; omega
      have e5 : ((n : Int) + (k : Int) * 5) % 256 = ((byAt n k).toNat : Int) := by
        unfold byAt
        rw [UInt8.toNat_ofNat']
        omega
      have e4 : IntKind.u8.wrap ((n : Int) + (k : Int) * 5) = ((byAt n k).toNat : Int) := e5
      have HSet : Hid (Blk (wr.setCell ⟨g, k, none⟩ (.int .u8 (byAt n k).toNat)) g 5 (bts (byK n long (k + 1))).toArray) := by
        have := hB.out.set_ k (.int .u8 (byAt n k).toNat)
        rw [bts_set] at this
        rw [byK_succ n long k hlt]; exact this
      have HFs : Hid (Fr Nob w (wr.setCell ⟨g, k, none⟩ (.int .u8 (byAt n k).toNat))) := hF.out.setCell (p := ⟨g, k, none⟩) (.inl (by rw [HG.out]; exact Nat.le_refl _)) _
      generalize (byK n long k)[k] = old at ck
      clear hB hF hlen
      go_wp2
      go_roundw
      case rel => exact ⟨k + 1, by omega, by go_num, HSet.out, HFs.out⟩
      case measure => simp [intOf]; omega
    · obtain rfl : k = long := by omega
      have HBf := Lib.hid hB.out
      rw [byK_full] at HBf
      clear hB
      go_wp2
      go_ret
      exact ⟨rfl, HBf.out, hF.out⟩
/-- Six pages as texts, in a row of their own. -/
def Row6 (w : World) (base : Nat) (v : Value) (C : Pgs) : Prop := w.ownsRow base 9 1 v 6 ((List.range 6).map fun i => tS (C i))
theorem info_str6 : (Tryz.prog.info? 9).map (fun i => (i.zero, i.size, i.bytes)) = some (some (.string ⟨#[]⟩), 1, 16) := by kernel_rfl
def CZ : Pgs := fun _ => zeros 480
theorem make480T (w : World) : (Instr.makeSlice 40 (.int .i64 480) (.int .i64 480)).run Tryz.prog w = .ok (.slice (some ⟨w.heap.size, 0, none⟩) 480 480) (w.alloc (.cells (bts (zeros 480)).toArray 5)) := by
  rw [← zeroCells_eq]; exact make480 w
theorem conv480 (w : World) : (convert 40 9 (.slice (some ⟨w.heap.size, 0, none⟩) 480 480)).run Tryz.prog (w.alloc (.cells (bts (zeros 480)).toArray 5)) = .ok (tS (zeros 480)) (w.alloc (.cells (bts (zeros 480)).toArray 5)) := by
  have h := conv_in (bytesIn_of (Blk.new w 5 (bts (zeros 480)).toArray)) 480
  rw [zeros_length] at h
  exact h
set_option maxHeartbeats 1600000 in
set_option maxRecDepth 100000 in
theorem Blank6_any (w : World) : Calls Tryz.prog 26 #[] w fun e w' => ∃ v, e = .returned v ∧ Row6 w' w.heap.size v CZ ∧ Fr Nob w w' := by
  obtain ⟨i0, hi0, iz0, iz1, iz2⟩ := info_parts' info_str6
  have hmk := make480T
  have hcv := conv480
  obtain ⟨zv, hzv⟩ : ∃ z, tS (zeros 480) = z := ⟨_, rfl⟩
  have hz1 : zv.oneCell' = true := by rw [← hzv]; rfl
  have HZ1 := Lib.hid hz1
  obtain ⟨za, hza⟩ : ∃ z, (bts (zeros 480)).toArray = z := ⟨_, rfl⟩
  rw [hzv, hza] at hcv
  rw [hza] at hmk
  have hst : ∃ s, zv = .string s := ⟨_, hzv.symm⟩
  obtain ⟨sv, hsv⟩ := hst
  subst hsv
  have HZv := Lib.hid hzv
  clear hzv hza hz1
  go_enter Tryz.func26, Tryz.ntmps26
  go_wp2
  go_loopw [1, 2] (fun v i wr => ∃ k : Nat, k ≤ 6 ∧ i = .int .i64 k ∧ Hid (wr.ownsRow w.heap.size 9 1 v k (List.replicate k (.string sv))) ∧ Hid (Fr Nob w wr)) (fun _ i _ => 6 - (intOf i).toNat)
  case atStart => exact ⟨0, by omega, rfl, World.ownsRow_nil _ _ _ _, Fr.refl _ _⟩
  case round =>
    obtain ⟨k, hk, rfl, hO, hF⟩ := hrel
    by_cases hlt : k < 6
    · have hf1 : Fr Nob wr (wr.alloc (.cells za 5)) := (Fr.refl _ wr).alloc _
      have hf2 : Fr Nob wr ((wr.alloc (.cells za 5)).alloc (.cells #[.string sv] 9)) := hf1.alloc _
      have hb2 : Blk ((wr.alloc (.cells za 5)).alloc (.cells #[.string sv] 9)) (wr.heap.size + 1) 9 #[.string sv] := by
        have := Blk.new (wr.alloc (.cells za 5)) 9 #[.string sv]
        rwa [World.size_alloc] at this
      have HO2 := Lib.hid (own_fr hO.out hf2 (fun _ _ h => h))
      have HN2 : Hid (∀ j u, ([Value.string sv])[j]? = some u → ((wr.alloc (.cells za 5)).alloc (.cells #[.string sv] 9)).cell? ((⟨wr.heap.size + 1, 0, none⟩ : Addr).add j) = some u) := fun j u hu => by
        rw [Addr.add_mid, Nat.zero_add]; exact (hb2.cell j).trans (by simpa using hu)
      have HF2 := Lib.hid (hF.out.trans hf2)
      have hsz := HF2.out.size
      clear hf1 hf2 hb2 hO hF
      go_wp2_with (at_builtin; go_must (refine wpList_append_own_at _ rfl (.tmp 7) (.tmp 10) 34 rfl w.heap.size 9 i0 (.string ⟨#[]⟩) 1 16 Tryz.underlying34 hi0 iz0 iz1 iz2 rfl (by decide) u1 k (List.replicate k (.string sv)) rfl HO2.out ⟨wr.heap.size + 1, 0, none⟩ 1 1 [.string sv] rfl rfl HN2.out (by intro u hu; rw [List.mem_singleton] at hu; subst hu; exact HZ1.out) (by unfold maxLen; omega) (by omega) hsz ?_); intro v3 w3 hown hgr hnil hat; have HOwn := Lib.hid hown; have HGr : Hid (Fr Nob w w3) := HF2.out.grown hgr (fun r hr => .inl (HO2.out.lt r hr).1); clear hown hgr hnil hat)
      go_roundw
      case rel => exact ⟨k + 1, by omega, by go_num, by rw [Hid, List.replicate_succ']; exact HOwn.out, HGr⟩
      case measure => simp [intOf]; omega
    · obtain rfl : k = 6 := by omega
      have hrow : Row6 wr w.heap.size u1 CZ := by
        unfold Row6 CZ
        rw [HZv.out]
        exact hO.out
      have HRow := Lib.hid hrow
      clear hrow hO
      go_wp2
      go_ret
      exact ⟨u1, rfl, HRow.out, hF.out⟩
end Go.Proofs.YtfapklpcgcgahaaGreatDoor

/-
  stands: a store has just these pages.
-/
namespace Go.Proofs.YtfapklpcgcgahaaGreatDoor
set_option linter.unusedSimpArgs false
set_option linter.unusedVariables false
open Go.RowKit Go.Maps

section
variable {RS RO U : Nat → Prop} {w : World} {s M K : Nat} {T : TS}
set_option maxHeartbeats 3200000 in
set_option maxRecDepth 100000 in
theorem Stands_tx (h : TxIn RS RO U w s 6 M K T) (gl cl : Nat) (hl : ∀ i, i < 6 → w.cell? ⟨gl, i, none⟩ = some (tS (T.V i).d)) (hR : ¬ RS gl) (hU : ¬ U gl) (hM : M + 6 ≤ 1000000000000000000) :
    Calls Tryz.prog 21 #[.pointer (some ⟨s, 0, none⟩), .slice (some ⟨gl, 0, none⟩) 6 cl] w fun e w' => e = .returned (.bool true) ∧ ∃ U', TxIn RS RO U' w' s 6 (M + 6) K T ∧ Subs RS RS RO RO U U' w w' := by
  have qL : ∀ (w : World) (A : Option Addr) (n c : Nat), (Builtin.len_ #[34] 3 #[Value.slice A n c]).run Tryz.prog w = .ok (.int .i64 n) w := fun w A n c => by go_simp
  have HPg := Lib.hid (Pages_tx h)
  have hzl : gl < w.heap.size := cell_lt (hl 0 (by omega))
  have HIn := Lib.hid h
  have HL := Lib.hid hl
  have HR := Lib.hid hR
  have HU := Lib.hid hU
  clear h hl hR hU
  go_enter Tryz.func21, Tryz.ntmps21
  go_wp2_with fail
  refine HPg.out.mono ?_
  rintro e w0 ⟨rfl, rfl⟩
  go_wp2_with fail
  go_loopw [5] (fun i wr => ∃ k : Nat, k ≤ 6 ∧ i = .int .i64 k ∧ Hid (∃ U', TxIn RS RO U' wr s 6 (M + k) K T ∧ Subs RS RS RO RO U U' w wr)) (fun i _ => 6 - (intOf i).toNat)
  case atStart => exact ⟨0, by omega, rfl, U, HIn.out, Subs.of (Fr.refl _ _)⟩
  case round =>
    obtain ⟨k, hk, rfl, hX⟩ := hrel
    by_cases hlt : k < 6
    · obtain ⟨U1, h1, hs1⟩ := hX.out
      have hFr := hs1.fr
      have hlk := (hFr.cell (p := ⟨gl, k, none⟩) hzl (fun e => e.elim HR.out HU.out)).trans (HL.out k hlt)
      have HRd := Lib.hid (Read_tx h1 k hlt (by omega))
      have HS1 := Lib.hid hs1
      have hgU : ¬ U1 gl := fun e => by
        rcases hs1.u gl e with e | e
        · exact HU.out e
        · omega
      have HgU := Lib.hid hgU
      have HV := Lib.hid ((h1.pool.vok k hlt).1.d)
      obtain ⟨dk, hdk⟩ : ∃ l, (T.V k).d = l := ⟨_, rfl⟩
      have hlk0 := hlk
      rw [hdk] at HV hlk HRd
      have HLk := Lib.hid hlk
      have hz1 := hFr.size
      clear hX h1 hs1 hFr hgU hlk hlk0 hdk
      go_wp2_with fail
      refine HRd.out.mono ?_
      rintro e w2 ⟨g, rfl, hc, hg, U2, h2, hgU2, hs2⟩
      have hcv0 := conv_in hc.bytes 480
      rw [HV.out] at hcv0
      have hlk2 := (hs2.fr.cell (p := ⟨gl, k, none⟩) (by show gl < wr.heap.size; omega) (fun e => e.elim HR.out HgU.out)).trans HLk.out
      have hz2 := hs2.fr.size
      have zl2 : gl < w2.heap.size := by omega
      have HCv : Hid (∀ W, Fr Nob w2 W → (convert 40 9 (.slice (some ⟨g, 0, none⟩) 480 480)).run Tryz.prog W = .ok (.string ⟨dk.toArray⟩) W) := fun W hW => by
        have := conv_in (hc.bytes.new hW) 480
        rwa [HV.out] at this
      have H2 := Lib.hid h2
      have HS2 := Lib.hid (HS1.out.trans hs2)
      unfold tS at hlk2
      obtain ⟨sv, hsv⟩ : ∃ s : ByteArray, ⟨dk.toArray⟩ = s := ⟨_, rfl⟩
      rw [hsv] at hlk2 HCv
      clear h2 hs2 hcv0 hc hgU2 HLk HRd hsv
      go_wp2_with fail
      have hS : Fr Nob w2 w2.drew := (Fr.refl _ w2).drew
      refine Rg.begin (Fr Nob w2) [] (by kernel_rfl) ?_
      refine Rg.op 0 (some 25) hS (v := ?v0a) (hy := fun wz hwz => ?h0a) (h := ?_)
      case h0a => (go_simp; try with_reducible rfl)
      refine Rg.op 1 (some 26) hS (v := ?v1a) (hy := fun wz hwz => ?h1a) (h := ?_)
      case h1a => (go_simp; try with_reducible rfl)
      refine Rg.op 2 (some 27) hS (v := ?v2a) (hy := fun wz hwz => ?h2a) (h := ?_)
      case h2a => (go_simp; try with_reducible rfl)
      refine Rg.op 3 (some 28) hS (v := ?v3a) (hy := fun wz hwz => ?h3a) (h := ?_)
      case h3a => (go_simp; try with_reducible rfl)
      refine Rg.op 4 (some 29) hS (v := (.string sv)) (hy := fun wz hwz => ?h4a) (h := ?_)
      case h4a => (have hcv := HCv.out wz hwz; go_simp; try with_reducible rfl)
      refine Rg.op 5 (some 30) hS (v := ?v5a) (hy := fun wz hwz => ?h5a) (h := ?_)
      case h5a => (go_simp; try with_reducible rfl)
      refine Rg.op 6 (some 31) hS (v := ?v6a) (hy := fun wz hwz => ?h6a) (h := ?_)
      case h6a => (go_simp; try with_reducible rfl)
      refine Rg.op 7 (some 32) hS (v := ?v7a) (hy := fun wz hwz => ?h7a) (h := ?_)
      case h7a => (have hk6 := hlt; have hpp := Nat.lt_of_lt_of_le zl2 hwz.size; go_simp; try with_reducible rfl)
      refine Rg.op 8 (some 33) hS (v := (.string sv)) (hy := fun wz hwz => ?h8a) (h := ?_)
      case h8a => (have cx := (hwz.cell (p := ⟨gl, k, none⟩) zl2 (fun h => h)).trans hlk2; have hpp := Nat.lt_of_lt_of_le zl2 hwz.size; go_simp; try with_reducible rfl)
      refine Rg.op 9 (some 34) hS (v := (.bool false)) (hy := fun wz hwz => ?h9a) (h := ?_)
      case h9a => (go_simp; try with_reducible rfl)
      refine Rg.op 10 (some 35) hS (v := ?v10a) (hy := fun wz hwz => ?h10a) (h := ?_)
      case h10a => (go_simp; try with_reducible rfl)
      refine Rg.done _ (h := ?_)
      go_wp2
      go_roundw
      case rel => exact ⟨k + 1, by omega, by go_num, U2, H2.out.new hS, HS2.out.trans (Subs.of hS)⟩
      case measure => simp [intOf]; omega
    · obtain rfl : k = 6 := by omega
      have hfin := hX.out
      have HFin := Lib.hid hfin
      clear hfin hX
      go_wp2
      go_ret
      obtain ⟨U1, h1, hs1⟩ := HFin.out
      exact ⟨rfl, U1, h1, hs1⟩
end
end Go.Proofs.YtfapklpcgcgahaaGreatDoor

/-
  A store's calls as its callers count: the pages, what they were at Begin and at each save, how much room is left.
-/
namespace Go.Proofs.YtfapklpcgcgahaaGreatDoor
set_option linter.unusedSimpArgs false
set_option linter.unusedVariables false
open Go.RowKit Go.Maps

/-- Within a transaction: pages C, B ahead of it; each save with its number, how many writes were ahead of it, and the pages there; n writes; q bytes of the log to spare. -/
structure TB (T : TS) (d logn : Nat) (C B : Pgs) (svs : List (Nat × Nat × Pgs)) (n last undone : Nat) (q : Int) : Prop where
  busy : T.busy = true
  d : T.d = d
  logn : T.L.n = logn
  pages : (fun k => (T.V k).d) = C
  base : unTo T.cs 0 C = B
  saves : T.ss = svs.map fun x => (x.1, x.2.1)
  sok : ∀ x ∈ svs, x.2.1 ≤ n ∧ unTo T.cs x.2.1 C = x.2.2
  srt : svs.Pairwise fun a b => a.2.1 ≤ b.2.1
  n : T.cms.length = n
  last : T.last = last
  undone : T.undone = undone
  room : q + (needAll T.cs : Nat) + 17 ≤ T.L.room
/-- Outside. -/
structure TI (T : TS) (d logn : Nat) (C : Pgs) (undone : Nat) (q : Int) : Prop where
  busy : T.busy = false
  d : T.d = d
  logn : T.L.n = logn
  pages : (fun k => (T.V k).d) = C
  undone : T.undone = undone
  room : q ≤ T.L.room
theorem TI.fresh (d p l f log : Nat) (frames : Int) : TI (TS.fresh d p l f 6 log frames) d log CZ 0 (48 * ((log : Int) - 8)) := ⟨rfl, rfl, rfl, rfl, rfl, Int.le_refl _⟩
theorem cs_len (T : TS) : T.cs.length = T.cms.length := by simp [TS.cs]
theorem needC_le {c : Chg} (h1 : c.no < 4096) (h2 : c.at_ ≤ 480) (h3 : c.old.length ≤ 480) : needC c ≤ 31 + c.old.length := by
  have := undB_le (no := c.no) (at_ := c.at_) (old := c.old) (of := 0) h1 h2 h3
  unfold needC; omega
section
variable {RS RO U : Nat → Prop} {w : World} {s pages M K : Nat} {T : TS} {d logn : Nat} {C B : Pgs} {svs : List (Nat × Nat × Pgs)} {n last undone : Nat} {q : Int}
theorem Begin_tb (h : TxIn RS RO U w s pages M K T) (hb : TI T d logn C undone q) (hroom : 48 * ((logn : Int) - 8) - 48 * ((logn : Int) - 8) / 16 ≤ q) (hn : logn ≤ 32768) :
    Calls Tryz.prog 15 #[.pointer (some ⟨s, 0, none⟩)] w fun e w' => e = .returned (.int .i64 0) ∧ ∃ RS' T', TxIn RS' RO U w' s pages M K T' ∧ TB T' d logn C C [] 0 0 undone (q - 17) ∧ Subs RS RS' RO RO U U w w' := by
  have hr := hb.room
  refine (Begin_tx h hb.busy (by rw [hb.logn]; omega) (by rw [hb.logn]; exact hn)).mono ?_
  rintro e w' ⟨rfl, RS', h1, hs⟩
  refine ⟨rfl, RS', _, h1, ⟨rfl, hb.d, hb.logn, hb.pages, rfl, rfl, fun x hx => by simp at hx, List.Pairwise.nil, rfl, rfl, hb.undone, ?_⟩, hs⟩
  show q - 17 + ((0 : Nat) : Int) + 17 ≤ T.L.room
  omega
theorem Write_tb (h : TxIn RS RO U w s pages M K T) (hb : TB T d logn C B svs n last undone q) (no at_ gb ob cb : Nat) (b : List UInt8) (hbi : BytesIn w (some ⟨gb, ob, none⟩) b) (hgb : gb < w.heap.size) (hgf : ¬ RS gb ∧ ¬ RO gb ∧ ¬ U gb) (hno : no < pages) (hat : at_ + b.length ≤ 480) (hat0 : at_ < 480) (hcb : b.length ≤ cb) (hcb2 : cb ≤ 9223372036854775807)
    (hq : 56 + 3 * (b.length : Int) ≤ q) (hK : K + 1 ≤ 400000) (hM : M + 3 ≤ 1000000000000000000) :
    Calls Tryz.prog 17 #[.pointer (some ⟨s, 0, none⟩), .int .i64 no, .int .i64 at_, .slice (some ⟨gb, ob, none⟩) b.length cb] w fun e w' => e = .returned (.int .i64 0) ∧ ∃ RS' RO' U' T', TxIn RS' RO' U' w' s pages (M + 3) (K + 1) T' ∧ TB T' d logn (layP C no at_ b) B svs (n + 1) last undone (q - (56 + 3 * (b.length : Int))) ∧ Subs RS RS' RO RO' U U' w w' := by
  have hpg := h.pool.pg
  have hvd := (h.pool.vok no hno).1.d
  have hr := hb.room
  have hold : (cutP (T.V no).d at_ b.length).length = b.length := cutP_length (by rw [hvd]; exact hat)
  have hu1 := updB_le (no := no) (at_ := at_) (old := cutP (T.V no).d at_ b.length) (b := b) (by omega) (by omega) (by omega) hold
  have hu2 := undB_le (no := no) (at_ := at_) (old := cutP (T.V no).d at_ b.length) (of := 0) (by omega) (by omega) (by omega)
  rw [hold] at hu2
  refine (Write_tx h hb.busy no at_ gb ob cb b hbi hgb hgf hno hat hat0 hcb hcb2 (by omega) hK hM).mono ?_
  rintro e w' ⟨rfl, RS', RO', U', cv', x, h1, hx, h2, h3, h4, h5⟩
  have hcs : ∀ L V, ({ T with L := L, V := V, cv := cv', cms := T.cms ++ [x] } : TS).cs = T.cs ++ [⟨T.L.next, no, at_, cutP (T.V no).d at_ b.length⟩] := fun L V => by
    unfold TS.cs
    rw [List.map_append, List.map_singleton, hx]
  have hpgs : (fun k => (laidV T.V no T.L.next at_ b k).d) = layP C no at_ b := by
    rw [← hb.pages]
    funext k
    unfold laidV layP
    split <;> rfl
  have hCno : at_ + b.length ≤ (C no).length := by rw [← hb.pages]; rw [hvd]; exact hat
  have hcut : cutP (T.V no).d at_ b.length = cutP (C no) at_ b.length := by rw [← hb.pages]
  refine ⟨rfl, RS', RO', U', _, h1, ⟨hb.busy, hb.d, hb.logn, hpgs, ?_, hb.saves, fun y hy => ?_, hb.srt, ?_, hb.last, hb.undone, ?_⟩, h2, h3, h4, h5⟩
  · rw [hcs, hcut, unTo_write _ _ (Nat.zero_le _) _ _ _ _ _ hCno]
    exact hb.base
  · obtain ⟨e1, e2⟩ := hb.sok y hy
    refine ⟨by omega, ?_⟩
    rw [hcs, hcut, unTo_write _ _ (by rw [cs_len, hb.n]; exact e1) _ _ _ _ _ hCno]
    exact e2
  · show (T.cms ++ [x]).length = n + 1
    rw [List.length_append, List.length_singleton, hb.n]
  · rw [hcs, needAll_snoc]
    have hc : needC ⟨T.L.next, no, at_, cutP (T.V no).d at_ b.length⟩ ≤ 31 + b.length := by
      unfold needC
      dsimp only
      omega
    show q - (56 + 3 * (b.length : Int)) + ((needAll T.cs + needC _ : Nat) : Int) + 17 ≤ T.L.room - (16 + (updB no at_ (cutP (T.V no).d at_ b.length) b).length)
    omega
theorem Save_tb (h : TxIn RS RO U w s pages M K T) (hb : TB T d logn C B svs n last undone q) (hK : K + 1 ≤ 400000) :
    Calls Tryz.prog 24 #[.pointer (some ⟨s, 0, none⟩)] w fun e w' => e = .returned (.tuple #[.int .i64 ((last + 1 : Nat) : Int), .int .i64 0]) ∧ ∃ RS' T', TxIn RS' RO U w' s pages M (K + 1) T' ∧ TB T' d logn C B (svs ++ [(last + 1, n, C)]) n (last + 1) undone q ∧ Subs RS RS' RO RO U U w w' := by
  refine (Save_tx h hb.busy hK).mono ?_
  rintro e w' ⟨he, RS', sv', h1, hs⟩
  rw [hb.last] at he
  refine ⟨he, RS', _, h1, ⟨hb.busy, hb.d, hb.logn, hb.pages, hb.base, ?_, fun y hy => ?_, List.pairwise_append.2 ⟨hb.srt, List.pairwise_singleton _ _, fun a ha b hb2 => by rw [List.mem_singleton] at hb2; subst hb2; exact (hb.sok a ha).1⟩, hb.n, by show T.last + 1 = last + 1; rw [hb.last], hb.undone, hb.room⟩, hs⟩
  · show T.ss ++ [(T.last + 1, T.cms.length)] = _
    rw [List.map_append, hb.saves, hb.last, hb.n]; rfl
  · rcases List.mem_append.1 hy with hy | hy
    · exact hb.sok y hy
    · rw [List.mem_singleton] at hy
      subst hy
      refine ⟨Nat.le_refl _, ?_⟩
      show unTo T.cs n C = C
      rw [← hb.n, ← cs_len]
      exact unTo_all _ _
theorem BackS_tb (h : TxIn RS RO U w s pages M K T) (hb : TB T d logn C B svs n last undone q) (id : Nat) (hq : 0 ≤ q) (hK : K + n ≤ 400000) (hM : M + 1000000 ≤ 1000000000000000000) :
    Calls Tryz.prog 25 #[.pointer (some ⟨s, 0, none⟩), .int .i64 id] w fun e w' =>
      (∃ i at_ W RS' U' T', svs[i]? = some (id, at_, W) ∧ (∀ j y, j < i → svs[j]? = some y → y.1 ≠ id) ∧ e = .returned (.int .i64 0) ∧ TxIn RS' RO U' w' s pages (M + 2 * (n - at_)) (K + (n - at_)) T' ∧ TB T' d logn W B (svs.take (i + 1)) at_ last (undone + (n - at_)) q ∧ Subs RS RS' RO RO U U' w w') ∨
      ((∀ y ∈ svs, y.1 ≠ id) ∧ e = .returned (.int .i64 1) ∧ Fr Nob w w') := by
  have hr := hb.room
  refine (BackS_tx h hb.busy id (fun x hx => ?_) (by omega) (by rw [hb.n]; exact hK) hM).mono ?_
  · rw [hb.saves] at hx
    obtain ⟨y, hy, rfl⟩ := List.mem_map.1 hx
    rw [hb.n]
    exact (hb.sok y hy).1
  · rintro e w' (⟨i, at_, RS', U', V', L', cv', sv', ⟨idn, hi, hid⟩, hfirst, rfl, h1, hv, hr1, hn1, hs⟩ | ⟨hno, rfl, hf⟩)
    · obtain rfl : idn = id := by omega
      rw [hb.saves, List.getElem?_map] at hi
      obtain ⟨⟨y1, y2, W⟩, hy, e1⟩ := Option.map_eq_some_iff.1 hi
      simp only [Prod.mk.injEq] at e1
      obtain ⟨rfl, rfl⟩ := e1
      obtain ⟨hle, hW⟩ := hb.sok _ (List.mem_of_getElem? hy)
      dsimp only at hle hW
      rw [hb.n] at h1
      have hcs : ∀ V L, ({ T with V := V, L := L, cv := cv', cms := T.cms.take y2, undone := T.undone + (n - y2), ss := T.ss.take (i + 1), sv := sv' } : TS).cs = T.cs.take y2 := fun V L => by
        unfold TS.cs; rw [List.map_take]
      have hln : y2 ≤ T.cs.length := by rw [cs_len, hb.n]; exact hle
      rw [hb.pages] at hv
      have hr2 : needAll (T.cs.take y2) ≤ needAll T.cs := by
        have e2 : T.cs = T.cs.take y2 ++ T.cs.drop y2 := (List.take_append_drop _ _).symm
        conv => rhs; rw [e2]
        unfold needAll
        rw [List.map_append, List.sum_append]
        omega
      refine .inl ⟨i, y2, W, RS', U', _, hy, fun j y hj hjy => ?_, rfl, h1, ⟨hb.busy, hb.d, hn1.trans hb.logn, hv.trans hW, ?_, ?_, fun x hx => ?_, List.Pairwise.sublist (List.take_sublist _ _) hb.srt, ?_, hb.last, by show T.undone + (n - y2) = _; rw [hb.undone], ?_⟩, hs⟩
      · have := hfirst j (y.1, y.2.1) hj (by rw [hb.saves, List.getElem?_map, hjy]; rfl)
        intro e; apply this; rw [e]
      · rw [hcs, ← hW, unTo_take _ _ _ (Nat.zero_le _) hln]
        exact hb.base
      · show T.ss.take (i + 1) = _
        rw [hb.saves, List.map_take]
      · obtain ⟨j, hj⟩ := List.mem_iff_getElem?.1 hx
        rw [List.getElem?_take] at hj
        split at hj
        · rename_i hji
          have hxy : x.2.1 ≤ y2 := by
            rcases Nat.lt_or_ge j i with e | e
            · obtain ⟨hj1, hj2⟩ := List.getElem?_eq_some_iff.1 hj
              obtain ⟨hi1, hi2⟩ := List.getElem?_eq_some_iff.1 hy
              have := List.pairwise_iff_getElem.1 hb.srt j i hj1 hi1 e
              rw [hj2, hi2] at this
              exact this
            · obtain rfl : j = i := by omega
              rw [hy] at hj
              injection hj with hj
              subst hj
              exact Nat.le_refl _
          refine ⟨hxy, ?_⟩
          rw [hcs, ← hW, unTo_take _ _ _ hxy hln]
          exact (hb.sok x (List.mem_of_getElem? hj)).2
        · cases hj
      · show (T.cms.take y2).length = y2
        rw [List.length_take, hb.n]; omega
      · rw [hcs]
        show q + ((needAll (T.cs.take y2) : Nat) : Int) + 17 ≤ L'.room
        omega
    · refine .inr ⟨fun y hy e => ?_, rfl, hf⟩
      have := hno (y.1, y.2.1) (by rw [hb.saves]; exact List.mem_map.2 ⟨y, hy, rfl⟩)
      apply this
      show ((y.1 : Nat) : Int) = (id : Int)
      rw [e]
theorem Abort_tb (h : TxIn RS RO U w s pages M K T) (hb : TB T d logn C B svs n last undone q) (hq : 0 ≤ q) (hK : K + n + 1 ≤ 400000) (hM : M + 1000000 ≤ 1000000000000000000) :
    Calls Tryz.prog 20 #[.pointer (some ⟨s, 0, none⟩)] w fun e w' => e = .returned (.int .i64 0) ∧ ∃ RS' U' T', TxIn RS' RO U' w' s pages (M + 2 * n) (K + n + 1) T' ∧ TI T' d logn B (undone + n) q ∧ Subs RS RS' RO RO U U' w w' := by
  have hr := hb.room
  refine (Abort_tx h hb.busy (by omega) (by rw [hb.n]; exact hK) hM).mono ?_
  rintro e w' ⟨rfl, RS', U', V', L', h1, hv, hr1, hn1, hs⟩
  rw [hb.n] at h1
  refine ⟨rfl, RS', U', _, h1, ⟨rfl, hb.d, hn1.trans hb.logn, ?_, by show T.undone + n = _; rw [hb.undone], ?_⟩, hs⟩
  · rw [← hb.base, ← hb.pages]; exact hv
  · show q ≤ L'.room
    omega
theorem Commit_tb (h : TxIn RS RO U w s pages M K T) (hb : TB T d logn C B svs n last undone q) (hq : 0 ≤ q) (hK : K + 1 ≤ 400000) :
    Calls Tryz.prog 19 #[.pointer (some ⟨s, 0, none⟩)] w fun e w' => e = .returned (.int .i64 0) ∧ ∃ RS' U' T', TxIn RS' RO U' w' s pages M (K + 1) T' ∧ TI T' d logn C undone q ∧ Subs RS RS' RO RO U U' w w' := by
  have hr := hb.room
  refine (Commit_tx h hb.busy (by omega) hK).mono ?_
  rintro e w' ⟨rfl, RS', U', h1, hs⟩
  refine ⟨rfl, RS', U', _, h1, ⟨rfl, hb.d, hb.logn, hb.pages, hb.undone, ?_⟩, hs⟩
  show q ≤ T.L.room - (16 + (1 : Nat))
  omega
set_option maxRecDepth 100000 in
/-- A Write outside. -/
theorem Write_idle (h : TxIn RS RO U w s pages M K T) (hbz : T.busy = false) (no at_ : Int) (A : Option Addr) (n c : Nat) :
    Calls Tryz.prog 17 #[.pointer (some ⟨s, 0, none⟩), .int .i64 no, .int .i64 at_, .slice A n c] w fun e w' => e = .returned (.int .i64 7) ∧ w = w' := by
  have c4 := h.cell 4
  have zs := h.blk.lt
  simp only [TS.cells, List.getElem?_toArray, List.getElem?_cons_zero, List.getElem?_cons_succ, hbz] at c4
  clear h hbz
  go_enter Tryz.func17, Tryz.ntmps17
  go_wp2
  go_ret
  exact ⟨rfl, rfl⟩
end
end Go.Proofs.YtfapklpcgcgahaaGreatDoor
