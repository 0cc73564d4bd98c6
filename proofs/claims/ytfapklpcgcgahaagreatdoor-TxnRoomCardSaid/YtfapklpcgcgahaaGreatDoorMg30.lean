/-
  TxnUndo, TxnUndM, TxnWrite, in one text.
-/
import Derived.Test.YtfapklpcgcgahaaGreatDoorMg29
import Derived.Test.YtfapklpcgcgahaaGreatDoorMg28
import Derived.BigQuiet
/-
  The record of an undoing.
-/
namespace Go.Proofs.YtfapklpcgcgahaaGreatDoor
set_option linter.unusedSimpArgs false
set_option linter.unusedVariables false
open Go.RowKit

/-- The eight bytes, so far. -/
def leI (x i : Nat) : Int := (x : Int) / 2 ^ (8 * i) % 256
def leK (x k : Nat) : List Value := (List.range 8).map fun i => .int .u8 (if i < k then leI x i else 0)
theorem leK_get (x k i : Nat) (h : i < 8) : (leK x k)[i]? = some (.int .u8 (if i < k then leI x i else 0)) := by
  unfold leK
  rw [List.getElem?_map, List.getElem?_range h]; rfl
theorem leK_length (x k : Nat) : (leK x k).length = 8 := by simp [leK]
theorem leK_set (x k : Nat) (hk : k < 8) : (leK x k).toArray.setIfInBounds k (.int .u8 (leI x k)) = (leK x (k + 1)).toArray := by
  rw [List.setIfInBounds_toArray]
  congr 1
  apply List.ext_getElem?
  intro i
  rw [List.getElem?_set, leK_length]
  by_cases h : i < 8
  · rw [leK_get _ _ _ h, leK_get _ _ _ h]
    by_cases e : k = i
    · subst e; rw [if_pos rfl, if_pos hk, if_pos (by omega)]
    · rw [if_neg e]
      by_cases h2 : i < k
      · rw [if_pos h2, if_pos (by omega)]
      · rw [if_neg h2, if_neg (by omega)]
  · rw [List.getElem?_eq_none (by rw [leK_length]; omega), List.getElem?_eq_none (by rw [leK_length]; omega), if_neg (by omega)]
theorem leK_all (x : Nat) : leK x 8 = bts (le64 x) := by
  unfold leK bts le64
  rw [List.map_map]
  apply List.map_congr_left
  intro i hi
  rw [List.mem_range] at hi
  rw [if_pos hi]
  show Value.int .u8 (leI x i) = .int .u8 ((UInt8.ofNat (x / 256 ^ i % 256)).toNat : Nat)
  rw [ofNat_toNat (by omega)]
  unfold leI
  have e : (256 : Nat) ^ i = 2 ^ (8 * i) := by rw [Nat.pow_mul]
  rw [e]
  congr 1
set_option maxHeartbeats 3200000 in
set_option maxRecDepth 100000 in
theorem UndoR_any (no at_ of : Nat) (ga oa ca n : Nat) (old : List UInt8) (w : World) (ho : BytesIn w (some ⟨ga, oa, none⟩) old) (h1 : no < 4096) (h2 : at_ ≤ 480) (h3 : n ≤ 480) (h4 : old.length = n) (hca : n ≤ ca) (hca2 : ca ≤ 9223372036854775807) (hof : of < 18446744073709551616) :
    Calls Tryz.prog 45 #[.int .i64 no, .int .i64 at_, .slice (some ⟨ga, oa, none⟩) n ca, .int .u64 of] w fun e w' => ∃ g c, e = .returned (.slice (some ⟨g, 0, none⟩) (undB no at_ old of).length c) ∧ BytesIn w' (some ⟨g, 0, none⟩) (undB no at_ old of) ∧ w.heap.size ≤ g ∧ g < w'.heap.size ∧ Fr Nob w w' := by
  obtain ⟨i0, hi0, hz0, hz1, hz2⟩ := info_parts' info_u8'
  have qL := len_bytesT
  have HOld := Lib.hid ho
  have H4 := Lib.hid h4
  clear ho h4
  go_enter Tryz.func45, Tryz.ntmps45
  go_wp2_with fail
  have hO0 : (w.alloc (.cells #[.int .u8 2] 5)).ownsRow w.heap.size 5 1 (.slice (some ⟨w.heap.size, 0, none⟩) 1 1) ([2] : List UInt8).length (bts [2]) := RowB.lit w w.heap.size [2] (Nat.le_refl _) (by decide)
  have HO0 := Lib.hid hO0
  have HF0 : Hid (Fr Nob w (w.alloc (.cells #[.int .u8 2] 5))) := (Fr.refl _ w).alloc _
  clear hO0
  have HU1 := Lib.hid (Number_any no (w.alloc (.cells #[.int .u8 2] 5)) (by omega))
  refine HU1.out.mono ?_
  rintro e wn1 ⟨vn1, rfl, gn1, rfl, hb1, hga1, hgb1, hf1⟩
  have HOn1 := Lib.hid (own_fr HO0.out hf1 (fun _ _ h => h))
  have HFn1 := Lib.hid (HF0.out.trans hf1)
  have hul1 := uvar_le2 (x := no) (by omega)
  obtain ⟨ua, hua⟩ : ∃ us, uvar no = us := ⟨_, rfl⟩
  have Hua := Lib.hid hua
  rw [hua] at hb1 hul1
  rw [hua]
  have C11 : Hid ((bts ua).length = ua.length * 1) := by rw [Hid, bts_length]; omega
  have C21 : Hid (∀ j u, (bts ua)[j]? = some u → wn1.cell? ((⟨gn1, 0, none⟩ : Addr).add j) = some u) := fun j u hu => bytesIn_cells hb1 j u hu
  have hsz1 : w.heap.size ≤ wn1.heap.size := HFn1.out.size
  have hln1 : (([2] : List UInt8) ++ ua).length ≤ 3 := by rw [List.length_append]; first | omega | (simp only [List.length_cons, List.length_nil]; omega)
  clear hb1 hf1 hua HU1
  obtain ⟨v0, hv0⟩ : ∃ v, (.slice (some ⟨w.heap.size, 0, none⟩) 1 1 : Value) = v := ⟨_, rfl⟩
  rw [hv0] at HOn1 ⊢
  obtain ⟨bs0, hbs0⟩ : ∃ l, ([2] : List UInt8) = l := ⟨_, rfl⟩
  have hl0 : bs0.length ≤ 1 := by rw [← hbs0]; decide
  have HBs0 := Lib.hid hbs0
  rw [hbs0] at HOn1 hln1
  clear hv0 hbs0
  go_wp2_with (at_builtin; go_must (refine wpList_append_own_at _ rfl (.tmp 12) (.tmp 14) 40 rfl w.heap.size 5 i0 (.int .u8 0) 1 1 Tryz.underlying40 hi0 hz0 hz1 hz2 rfl (by decide) v0 (bs0).length (bts (bs0)) rfl HOn1.out ⟨gn1, 0, none⟩ ua.length ua.length (bts ua) rfl C11.out C21.out (bts_one _) (by unfold maxLen; omega) (by omega) hsz1 ?_); intro v2 w2 hown2 hg2 hn2 hat2; have HO2 : Hid (w2.ownsRow w.heap.size 5 1 v2 (bs0 ++ ua).length (bts (bs0 ++ ua))) := (by rw [List.length_append, bts_append]; exact hown2); have HF2 : Hid (Fr Nob w w2) := Fr.grown HFn1.out hg2 (fun r hr => .inl (HOn1.out.lt r hr).1); clear hown2 hg2 hn2 hat2)
  have HU3 := Lib.hid (Number_any at_ w2 (by omega))
  refine HU3.out.mono ?_
  rintro e wn3 ⟨vn3, rfl, gn3, rfl, hb3, hga3, hgb3, hf3⟩
  have HOn3 := Lib.hid (own_fr HO2.out hf3 (fun _ _ h => h))
  have HFn3 := Lib.hid (HF2.out.trans hf3)
  have hul3 := uvar_le2 (x := at_) (by omega)
  obtain ⟨ub, hub⟩ : ∃ us, uvar at_ = us := ⟨_, rfl⟩
  have Hub := Lib.hid hub
  rw [hub] at hb3 hul3
  rw [hub]
  have C13 : Hid ((bts ub).length = ub.length * 1) := by rw [Hid, bts_length]; omega
  have C23 : Hid (∀ j u, (bts ub)[j]? = some u → wn3.cell? ((⟨gn3, 0, none⟩ : Addr).add j) = some u) := fun j u hu => bytesIn_cells hb3 j u hu
  have hsz3 : w.heap.size ≤ wn3.heap.size := HFn3.out.size
  have hln3 : ((bs0 ++ ua) ++ ub).length ≤ 5 := by rw [List.length_append]; first | omega | (simp only [List.length_cons, List.length_nil]; omega)
  clear hb3 hf3 hub HU3
  go_wp2_with (at_builtin; go_must (refine wpList_append_own_at _ rfl (.tmp 16) (.tmp 18) 40 rfl w.heap.size 5 i0 (.int .u8 0) 1 1 Tryz.underlying40 hi0 hz0 hz1 hz2 rfl (by decide) v2 ((bs0 ++ ua)).length (bts ((bs0 ++ ua))) rfl HOn3.out ⟨gn3, 0, none⟩ ub.length ub.length (bts ub) rfl C13.out C23.out (bts_one _) (by unfold maxLen; omega) (by omega) hsz3 ?_); intro v4 w4 hown4 hg4 hn4 hat4; have HO4 : Hid (w4.ownsRow w.heap.size 5 1 v4 ((bs0 ++ ua) ++ ub).length (bts ((bs0 ++ ua) ++ ub))) := (by rw [List.length_append, bts_append]; exact hown4); have HF4 : Hid (Fr Nob w w4) := Fr.grown HFn3.out hg4 (fun r hr => .inl (HOn3.out.lt r hr).1); clear hown4 hg4 hn4 hat4)
  have HU5 := Lib.hid (Number_any n w4 (by omega))
  refine HU5.out.mono ?_
  rintro e wn5 ⟨vn5, rfl, gn5, rfl, hb5, hga5, hgb5, hf5⟩
  have HOn5 := Lib.hid (own_fr HO4.out hf5 (fun _ _ h => h))
  have HFn5 := Lib.hid (HF4.out.trans hf5)
  have hul5 := uvar_le2 (x := n) (by omega)
  obtain ⟨uc, huc⟩ : ∃ us, uvar n = us := ⟨_, rfl⟩
  have Huc := Lib.hid huc
  rw [huc] at hb5 hul5
  rw [huc]
  have C15 : Hid ((bts uc).length = uc.length * 1) := by rw [Hid, bts_length]; omega
  have C25 : Hid (∀ j u, (bts uc)[j]? = some u → wn5.cell? ((⟨gn5, 0, none⟩ : Addr).add j) = some u) := fun j u hu => bytesIn_cells hb5 j u hu
  have hsz5 : w.heap.size ≤ wn5.heap.size := HFn5.out.size
  have hln5 : ((bs0 ++ ua ++ ub) ++ uc).length ≤ 7 := by rw [List.length_append]; first | omega | (simp only [List.length_cons, List.length_nil]; omega)
  clear hb5 hf5 huc HU5
  go_wp2_with (at_builtin; go_must (refine wpList_append_own_at _ rfl (.tmp 20) (.tmp 23) 40 rfl w.heap.size 5 i0 (.int .u8 0) 1 1 Tryz.underlying40 hi0 hz0 hz1 hz2 rfl (by decide) v4 ((bs0 ++ ua ++ ub)).length (bts ((bs0 ++ ua ++ ub))) rfl HOn5.out ⟨gn5, 0, none⟩ uc.length uc.length (bts uc) rfl C15.out C25.out (bts_one _) (by unfold maxLen; omega) (by omega) hsz5 ?_); intro v6 w6 hown6 hg6 hn6 hat6; have HO6 : Hid (w6.ownsRow w.heap.size 5 1 v6 ((bs0 ++ ua ++ ub) ++ uc).length (bts ((bs0 ++ ua ++ ub) ++ uc))) := (by rw [List.length_append, bts_append]; exact hown6); have HF6 : Hid (Fr Nob w w6) := Fr.grown HFn5.out hg6 (fun r hr => .inl (HOn5.out.lt r hr).1); clear hown6 hg6 hn6 hat6)
  have hln6 := hln5
  have HF7 : Hid (Fr Nob w (w6.alloc (.cells (leK of 0).toArray 135))) := HF6.out.alloc _
  have HB7 : Hid (Blk (w6.alloc (.cells (leK of 0).toArray 135)) w6.heap.size 135 (leK of 0).toArray) := Blk.new w6 _ _
  have HO7 : Hid ((w6.alloc (.cells (leK of 0).toArray 135)).ownsRow w.heap.size 5 1 v6 (bs0 ++ ua ++ ub ++ uc).length (bts (bs0 ++ ua ++ ub ++ uc))) := own_fr HO6.out ((Fr.refl Nob w6).alloc _) (fun _ _ h => h)
  have hz6 := HF6.out.size
  obtain ⟨g, hg⟩ : ∃ g, w6.heap.size = g := ⟨_, rfl⟩
  have HG : Hid (w.heap.size ≤ g) := by rw [Hid, ← hg]; exact hz6
  go_wp2_with fail
  rw [hg] at HB7 ⊢
  clear hg hz6
  go_loopw [11, 25] (fun _ i wr => ∃ k : Nat, k ≤ 8 ∧ i = .int .i64 k ∧ Hid (Blk wr g 135 (leK of k).toArray) ∧ Hid (wr.ownsRow w.heap.size 5 1 v6 (bs0 ++ ua ++ ub ++ uc).length (bts (bs0 ++ ua ++ ub ++ uc))) ∧ Hid (Fr Nob w wr)) (fun _ i _ => 8 - (intOf i).toNat)
  case atStart => exact ⟨0, by omega, rfl, HB7, HO7, HF7⟩
  case round =>
    clear HB7 HO7 HF7
    obtain ⟨k, hk, rfl, hB, hO, hF⟩ := hrel
    by_cases hlt : k < 8
    · obtain ⟨v0', c0⟩ : ∃ v, wr.cell? ⟨g, k, none⟩ = some v := by
        rw [hB.out.cell, List.getElem?_toArray]; exact ⟨_, leK_get of k k hlt⟩
      have f0 := hB.out.frozen k
      have HS : Hid (Blk (wr.setCell ⟨g, k, none⟩ (.int .u8 ((of : Int) / 2 ^ (8 * k) % 256))) g 135 (leK of (k + 1)).toArray) := by
        show Blk _ _ _ _
        rw [← leK_set of k hlt]
        exact hB.out.set_ _ _
      have HF : Hid (Fr Nob w (wr.setCell ⟨g, k, none⟩ (.int .u8 ((of : Int) / 2 ^ (8 * k) % 256)))) := hF.out.setCell (p := ⟨g, k, none⟩) (.inl HG.out) _
      have HOs : Hid ((wr.setCell ⟨g, k, none⟩ (.int .u8 ((of : Int) / 2 ^ (8 * k) % 256))).ownsRow w.heap.size 5 1 v6 (bs0 ++ ua ++ ub ++ uc).length (bts (bs0 ++ ua ++ ub ++ uc))) := own_set hO.out hB.out (by decide)
      clear hB hO hF
      go_wp2
      go_roundw
      case rel => exact ⟨k + 1, by omega, by go_num, HS, HOs, HF⟩
      case measure => simp [intOf]; omega
    · obtain rfl : k = 8 := by omega
      rw [leK_all] at hB
      obtain ⟨ud, hud⟩ : ∃ us, le64 of = us := ⟨_, rfl⟩
      have Hud := Lib.hid hud
      have hul8 : ud.length = 8 := by rw [← hud]; exact le64_length of
      have HL8 := Lib.hid hul8
      rw [hud] at hB
      have C18 : Hid ((bts ud).length = 8 * 1) := by rw [Hid, bts_length, HL8.out]
      have C28 : Hid (∀ j u, (bts ud)[j]? = some u → wr.cell? ((⟨g, 0, none⟩ : Addr).add j) = some u) := fun j u hu => by
        rw [show (⟨g, 0, none⟩ : Addr).add j = ⟨g, 0 + j, none⟩ from by simp [Addr.add]; exact fun h => h.symm, Nat.zero_add, hB.out.cell, List.getElem?_toArray]; exact hu
      have hsz8 : w.heap.size ≤ wr.heap.size := hF.out.size
      have hln8 : ((bs0 ++ ua ++ ub ++ uc) ++ ud).length ≤ 15 := by rw [List.length_append, HL8.out]; omega
      have hgl := hB.out.lt
      clear hud hul8
      go_wp2_with (at_builtin; go_must (refine wpList_append_own_at _ rfl (.tmp 36) (.tmp 37) 40 rfl w.heap.size 5 i0 (.int .u8 0) 1 1 Tryz.underlying40 hi0 hz0 hz1 hz2 rfl (by decide) v6 ((bs0 ++ ua ++ ub ++ uc)).length (bts ((bs0 ++ ua ++ ub ++ uc))) rfl hO.out ⟨g, 0, none⟩ 8 8 (bts ud) rfl C18.out C28.out (bts_one _) (by unfold maxLen; omega) (by omega) hsz8 ?_); intro v9 w9 hown9 hg9 hn9 hat9; have HO9 : Hid (w9.ownsRow w.heap.size 5 1 v9 ((bs0 ++ ua ++ ub ++ uc) ++ ud).length (bts ((bs0 ++ ua ++ ub ++ uc) ++ ud))) := (by rw [List.length_append, bts_append, HL8.out]; exact hown9); have HF9 : Hid (Fr Nob w w9) := Fr.grown hF.out hg9 (fun r hr => .inl (hO.out.lt r hr).1); clear hown9 hg9 hn9 hat9)
      have hsh := Short_any (some ⟨ga, oa, none⟩) ca old w9 (HOld.out.new HF9.out) (by rw [H4.out]; omega) hca2
      rw [H4.out] at hsh
      have HSh := Lib.hid hsh
      have hso := shortB_le old
      rw [H4.out] at hso
      have hbs : BytesIn w9 (some ⟨ga, oa, none⟩) (shortB old) := bytesIn_short (HOld.out.new HF9.out)
      clear hsh
      refine HSh.out.mono ?_
      rintro e w10 ⟨rfl, rfl⟩
      obtain ⟨ue, hue⟩ : ∃ us, shortB old = us := ⟨_, rfl⟩
      have Hue := Lib.hid hue
      rw [hue] at hbs hso ⊢
      have C1e : Hid ((bts ue).length = ue.length * 1) := by rw [Hid, bts_length]; omega
      have C2e : Hid (∀ j u, (bts ue)[j]? = some u → w9.cell? ((⟨ga, oa, none⟩ : Addr).add j) = some u) := fun j u hu => bytesIn_cells hbs j u hu
      have hsze : w.heap.size ≤ w9.heap.size := HF9.out.size
      clear hbs hue HSh
      go_wp2_with (at_builtin; go_must (refine wpList_append_own_at _ rfl (.tmp 39) (.tmp 41) 40 rfl w.heap.size 5 i0 (.int .u8 0) 1 1 Tryz.underlying40 hi0 hz0 hz1 hz2 rfl (by decide) v9 ((bs0 ++ ua ++ ub ++ uc ++ ud)).length (bts ((bs0 ++ ua ++ ub ++ uc ++ ud))) rfl HO9.out ⟨ga, oa, none⟩ ue.length ca (bts ue) rfl C1e.out C2e.out (bts_one _) (by unfold maxLen; omega) (by omega) hsze ?_); intro v11 w11 hown11 hg11 hn11 hat11; have HO11 : Hid (w11.ownsRow w.heap.size 5 1 v11 ((bs0 ++ ua ++ ub ++ uc ++ ud) ++ ue).length (bts ((bs0 ++ ua ++ ub ++ uc ++ ud) ++ ue))) := (by rw [List.length_append, bts_append]; exact hown11); have HF11 : Hid (Fr Nob w w11) := Fr.grown HF9.out hg11 (fun r hr => .inl (HO9.out.lt r hr).1); clear hown11 hg11 hn11 hat11)
      go_wp2
      have hE : bs0 ++ ua ++ ub ++ uc ++ ud ++ ue = undB no at_ old of := by
        rw [← HBs0.out, ← Hua.out, ← Hub.out, ← Huc.out, ← Hud.out, ← Hue.out, undB, H4.out]
      have hpos : 0 < (bs0 ++ ua ++ ub ++ uc ++ ud ++ ue).length := by rw [hE]; simp [undB]
      obtain ⟨g7, cap, hv, hgb7, hgl7⟩ := HO11.out.form hpos
      have ho := HO11.out
      rw [hv] at ho
      have hbi := bytesIn_own ho
      rw [hE] at hbi
      rw [hE] at hv
      go_ret
      exact ⟨g7, cap, by rw [hv]; rfl, hbi, hgb7, hgl7, HF11.out⟩
end Go.Proofs.YtfapklpcgcgahaaGreatDoor

/-
  undo: a change is undone.
-/
namespace Go.Proofs.YtfapklpcgcgahaaGreatDoor
set_option linter.unusedSimpArgs false
set_option linter.unusedVariables false
open Go.RowKit Go.Maps

/-- A bound on all of it. -/
theorem undB_big {no at_ : Nat} {old : List UInt8} {of : Nat} (h1 : no < 4096) (h2 : at_ ≤ 480) (h3 : old.length ≤ 480) : (undB no at_ old of).length ≤ 2000 := by
  have := undB_le (of := of) h1 h2 h3
  omega
section
variable {RS RO U : Nat → Prop} {w : World} {s pages M K : Nat} {T : TS}
theorem TxIn.cell (h : TxIn RS RO U w s pages M K T) (i : Nat) : w.cell? ⟨s, i, none⟩ = (T.cells pages)[i]? := h.blk.cell i
set_option maxHeartbeats 3200000 in
set_option maxRecDepth 100000 in
theorem Undo_any (h : TxIn RS RO U w s pages M K T) (x : CM) (hx : RO x.g ∧ BytesIn w (some ⟨x.g, x.o, none⟩) x.c.old ∧ x.Good pages) (hroom : ((undB x.c.no x.c.at_ x.c.old x.c.lsn).length : Int) + 16 ≤ T.L.room) (hK : K + 1 ≤ 400000) (hM : M + 2 ≤ 1000000000000000000) :
    Calls Tryz.prog 68 #[.pointer (some ⟨s, 0, none⟩), .agg #[.int .u64 x.c.lsn, .int .i64 x.c.no, .int .i64 x.c.at_, .slice (some ⟨x.g, x.o, none⟩) x.c.old.length x.cap]] w fun e w' => e = .returned (.int .i64 0) ∧ ∃ RS' U', TxIn RS' RO U' w' s pages (M + 2) (K + 1) { T with L := T.L.add (undB x.c.no x.c.at_ x.c.old x.c.lsn), V := laidV T.V x.c.no T.L.next x.c.at_ x.c.old, undone := T.undone + 1 } ∧ (∀ b, RS' b → RS b ∨ w.heap.size ≤ b) ∧ (∀ b, U' b → U b ∨ w.heap.size ≤ b) ∧ Fr (fun b => RS b ∨ U b) w w' := by
  obtain ⟨hx1, hx2, hx3⟩ := hx
  have hpg := h.pool.pg
  have hno := hx3.no
  have hfit := hx3.fit
  have hat1 := hx3.at1
  have hcap := hx3.cap
  have hcap1 := hx3.cap1
  have hlsn := hx3.lsn
  have hun := h.n4
  obtain ⟨⟨lsn, no, at_, old⟩, ga, oa, ca⟩ := x
  dsimp only at hx1 hx2 hno hfit hat1 hcap hcap1 hlsn hroom ⊢
  have HIn := Lib.hid h
  have HO1 := Lib.hid hx1
  have HO2 := Lib.hid hx2
  obtain ⟨n, hn⟩ : ∃ n, old.length = n := ⟨_, rfl⟩
  have HN := Lib.hid hn
  rw [hn] at hfit hcap ⊢
  obtain ⟨rec, hrec⟩ : ∃ r, undB no at_ old lsn = r := ⟨_, rfl⟩
  have HRc := Lib.hid hrec
  have hrl : rec.length ≤ 2000 := by rw [← hrec]; exact undB_big (by omega) (by omega) (by omega)
  rw [hrec] at hroom ⊢
  obtain ⟨w1, hw1⟩ : ∃ W, w.alloc (.cells #[.int .u64 lsn, .int .i64 no, .int .i64 at_, .slice (some ⟨ga, oa, none⟩) n ca] 93) = W := ⟨_, rfl⟩
  obtain ⟨gx, hgx⟩ : ∃ g, w.heap.size = g := ⟨_, rfl⟩
  have hf1 : Fr Nob w w1 := by rw [← hw1]; exact (Fr.refl _ w).alloc _
  have hb1 : Blk w1 gx 93 #[.int .u64 lsn, .int .i64 no, .int .i64 at_, .slice (some ⟨ga, oa, none⟩) n ca] := by rw [← hw1, ← hgx]; exact Blk.new _ _ _
  have h1 := h.new hf1
  have c2 := h1.cell 2
  have zs := h1.blk.lt
  have zx := hb1.lt
  have x0 := hb1.cell 0
  have x1 := hb1.cell 1
  have x2 := hb1.cell 2
  have x3 := hb1.cell 3
  simp only [TS.cells, List.getElem?_toArray, List.getElem?_cons_zero, List.getElem?_cons_succ] at c2 x0 x1 x2 x3
  have hs0 := h.blk.lt
  have HF1 := Lib.hid hf1
  have HB1 := Lib.hid hb1
  have H1 := Lib.hid h1
  have HGx := Lib.hid hgx
  clear h hx1 hx2 hx3 hrec hn hf1 hb1 h1
  go_enter Tryz.func68, Tryz.ntmps68
  go_wp2_with fail
  try rw [hgx]
  try rw [hw1]
  have hS : Fr U w1 w1.drew := (Fr.refl _ w1).drew
  have hSn : Fr Nob w1 w1.drew := (Fr.refl _ w1).drew
  have hUs : ¬ U s := fun e => (HIn.out.ap s HIn.out.rs).2 e
  have hUx : ¬ U gx := fun e => by have := HIn.out.ltu gx e; rw [← HGx.out] at this; omega
  refine Rg.begin (Fr U w1) [] (by kernel_rfl) ?_
  refine Rg.op 0 (some 8) hS (v := ?v0) (hy := fun wz hwz => ?h0) (h := ?_)
  case h0 => (go_simp; try with_reducible rfl)
  refine Rg.op 1 (some 9) hS (v := ?v1) (hy := fun wz hwz => ?h1) (h := ?_)
  case h1 => (have hpp := Nat.lt_of_lt_of_le zs hwz.size; go_simp; try with_reducible rfl)
  refine Rg.op 2 (some 10) hS (v := ?v2) (hy := fun wz hwz => ?h2) (h := ?_)
  case h2 => (have hpp := Nat.lt_of_lt_of_le zs hwz.size; go_simp; try with_reducible rfl)
  refine Rg.op 3 (some 11) hS (v := (.pointer (some ⟨T.l, 0, none⟩))) (hy := fun wz hwz => ?h3) (h := ?_)
  case h3 => (have cx := (hwz.cell (p := ⟨s, 2, none⟩) zs hUs).trans c2; have hpp := Nat.lt_of_lt_of_le zs hwz.size; go_simp; try with_reducible rfl)
  refine Rg.op 4 (some 12) hS (v := ?v4) (hy := fun wz hwz => ?h4) (h := ?_)
  case h4 => (have hpp := Nat.lt_of_lt_of_le zx hwz.size; go_simp; try with_reducible rfl)
  refine Rg.op 5 (some 13) hS (v := (.int .i64 no)) (hy := fun wz hwz => ?h5) (h := ?_)
  case h5 => (have cx := (hwz.cell (p := ⟨gx, 1, none⟩) zx hUx).trans x1; have hpp := Nat.lt_of_lt_of_le zx hwz.size; go_simp; try with_reducible rfl)
  refine Rg.op 6 (some 14) hS (v := ?v6) (hy := fun wz hwz => ?h6) (h := ?_)
  case h6 => (have hpp := Nat.lt_of_lt_of_le zx hwz.size; go_simp; try with_reducible rfl)
  refine Rg.op 7 (some 15) hS (v := (.int .i64 at_)) (hy := fun wz hwz => ?h7) (h := ?_)
  case h7 => (have cx := (hwz.cell (p := ⟨gx, 2, none⟩) zx hUx).trans x2; have hpp := Nat.lt_of_lt_of_le zx hwz.size; go_simp; try with_reducible rfl)
  refine Rg.op 8 (some 16) hS (v := ?v8) (hy := fun wz hwz => ?h8) (h := ?_)
  case h8 => (have hpp := Nat.lt_of_lt_of_le zx hwz.size; go_simp; try with_reducible rfl)
  refine Rg.op 9 (some 17) hS (v := (.slice (some ⟨ga, oa, none⟩) n ca)) (hy := fun wz hwz => ?h9) (h := ?_)
  case h9 => (have cx := (hwz.cell (p := ⟨gx, 3, none⟩) zx hUx).trans x3; have hpp := Nat.lt_of_lt_of_le zx hwz.size; go_simp; try with_reducible rfl)
  refine Rg.op 10 (some 18) hS (v := ?v10) (hy := fun wz hwz => ?h10) (h := ?_)
  case h10 => (have hpp := Nat.lt_of_lt_of_le zx hwz.size; go_simp; try with_reducible rfl)
  refine Rg.op 11 (some 19) hS (v := (.int .u64 lsn)) (hy := fun wz hwz => ?h11) (h := ?_)
  case h11 => (have cx := (hwz.cell (p := ⟨gx, 0, none⟩) zx hUx).trans x0; have hpp := Nat.lt_of_lt_of_le zx hwz.size; go_simp; try with_reducible rfl)
  have hrc := UndoR_any no at_ lsn ga oa ca n old _ ((HO2.out.new HF1.out).new hSn) (by omega) (by omega) (by omega) HN.out hcap hcap1 hlsn
  rw [HRc.out] at hrc
  have HRec := Lib.hid hrc
  clear hrc
  refine Rg.call 12 (some 20) (hrun := ?h12) (hcall := HRec.out) (h := ?_)
  case h12 => (go_simp)
  rintro e w2 ⟨gr, cr, rfl, hbr, hgr1, hgr2, hfr⟩
  have hS2 : Fr U w1 w2 := hS.trans (hfr.mono (fun _ _ h => h.elim))
  have hN2 : Fr Nob w1 w2 := hSn.trans hfr
  have HBr := Lib.hid hbr
  clear hbr hfr HRec
  refine ⟨_, ?a12, rfl, ?b12, (fun _ => hS2), ?_⟩
  case b12 => (simp only [Act.put, List.setIfInBounds_toArray, List.set_cons_zero, List.set_cons_succ]; rfl)
  have h2 := H1.out.new hN2
  have hap := h2.pool.append ⟨gr, 0, none⟩ cr rec HBr.out hgr2 hrl hroom hK
  have H2 := Lib.hid h2
  have HAp := Lib.hid hap
  clear h2 hap
  refine Rg.call 13 (some 21) (hrun := ?h13) (hcall := HAp.out) (h := ?_)
  case h13 => (go_simp)
  rintro e w3 ⟨rfl, U3, hok3, hsub3, hf3⟩
  have hS3 : Fr U w1 w3 := hS2.trans hf3
  refine ⟨_, ?a13, rfl, ?b13, (fun _ => hS3), ?_⟩
  case b13 => (simp only [Act.put, List.setIfInBounds_toArray, List.set_cons_zero, List.set_cons_succ]; rfl)
  refine Rg.op 14 (some 7) hS3 (v := ?v14) (hy := fun wz hwz => ?h14) (h := ?_)
  case h14 => (go_simp; try with_reducible rfl)
  refine Rg.op 15 (some 22) hS3 (v := ?v15) (hy := fun wz hwz => ?h15) (h := ?_)
  case h15 => (go_simp; try with_reducible rfl)
  refine Rg.op 16 (some 23) hS3 (v := ?v16) (hy := fun wz hwz => ?h16) (h := ?_)
  case h16 => (go_simp; try with_reducible rfl)
  refine Rg.op 17 (some 5) hS3 (v := ?v17) (hy := fun wz hwz => ?h17) (h := ?_)
  case h17 => (go_simp; try with_reducible rfl)
  refine Rg.op 18 (some 6) hS3 (v := ?v18) (hy := fun wz hwz => ?h18) (h := ?_)
  case h18 => (go_simp; try with_reducible rfl)
  refine Rg.done _ (h := ?_)
  have h3 := H2.out.add hok3 hsub3 hf3
  have hz12 := hN2.size
  have hzw1 := HF1.out.size
  have hUlt : ∀ b, U b → b < gx := fun b hb => by rw [← HGx.out]; exact HIn.out.ltu b hb
  have hx3 := (HB1.out.fr hN2 (fun h => h)).fr hf3 (fun e => by have := hUlt gx e; omega)
  have HSub3 := Lib.hid hsub3
  have HF3 := Lib.hid hf3
  have c9 := h3.cell 9
  have f9 := h3.blk.frozen 9
  have z9 := h3.blk.lt
  have y1 := hx3.cell 1
  have y2 := hx3.cell 2
  have y3 := hx3.cell 3
  have zy := hx3.lt
  simp only [TS.cells, List.getElem?_toArray, List.getElem?_cons_zero, List.getElem?_cons_succ] at c9 y1 y2 y3
  have hne : gx ≠ s := by omega
  have hne2 : s ≠ gx := by omega
  have hw4f : Fr (fun k => k = s) w3 (w3.setCell ⟨s, 9, none⟩ (.int .i64 ((T.undone : Int) + 1))) := (Fr.refl (fun k => k = s) w3).setCell (p := ⟨s, 9, none⟩) (.inr rfl) _
  have hb4 := h3.blk.set_ 9 (.int .i64 ((T.undone : Int) + 1))
  have h4 := h3.turn hw4f (fun b _ e => e ▸ h3.rs) T.busy T.cv T.sv T.cms T.ss T.last (T.undone + 1)
    (by simp only [TS.cells, TS.cs, List.setIfInBounds_toArray, List.set_cons_zero, List.set_cons_succ] at hb4 ⊢
        rw [show ((T.undone + 1 : Nat) : Int) = (T.undone : Int) + 1 from by omega]; exact hb4)
    (own_set h3.chg h3.blk (by decide)) (own_set h3.sav h3.blk (by decide)) (fun g hg => .inl (h3.rc g hg)) (fun g hg => .inl (h3.rv g hg)) (fun x hx => .inl hx) h3.n1 h3.n2 h3.n3 (by show T.undone + 1 ≤ K + 1; omega)
  have hnx : T.L.next < (T.L.add rec).next := Nat.lt_succ_self _
  have cs4 := h4.cell 1
  simp only [TS.cells, List.getElem?_toArray, List.getElem?_cons_zero, List.getElem?_cons_succ] at cs4
  obtain ⟨w4, hw4⟩ : ∃ W, w3.setCell ⟨s, 9, none⟩ (.int .i64 ((T.undone : Int) + 1)) = W := ⟨_, rfl⟩
  have hz13 : w2.heap.size ≤ w3.heap.size := hf3.size
  have hz34 : w3.heap.size ≤ w4.heap.size := by rw [← hw4]; exact hw4f.size
  have hO4 : BytesIn w4 (some ⟨ga, oa, none⟩) old := by
    rw [← hw4]
    exact (((HO2.out.new HF1.out).new hN2).fr hf3 (fun a ha => by injection ha with ha; subst ha; exact HIn.out.ap2 ga HO1.out)).fr hw4f (fun a ha e => by
      injection ha with ha
      subst ha
      have e : ga = s := e
      exact (HIn.out.ap s HIn.out.rs).1 (e ▸ HO1.out))
  have hx4 := hx3.fr hw4f hne
  rw [hw4] at h4 hw4f cs4 hx4
  have q1 := hx4.cell 1
  have q2 := hx4.cell 2
  have q3 := hx4.cell 3
  have zq := hx4.lt
  simp only [List.getElem?_toArray, List.getElem?_cons_zero, List.getElem?_cons_succ] at q1 q2 q3
  have hgalt := HIn.out.lto ga HO1.out
  have hlay := Lay_any h4.pool s no at_ T.L.next ga oa ca old cs4 (h4.ap s h4.rs).2 hO4 (h4.ap2 ga HO1.out) (by omega) hno (by rw [HN.out]; exact hfit) hat1 hnx hM
  rw [HN.out] at hlay
  have HLay := Lib.hid hlay
  have H4 := Lib.hid h4
  have H3 := Lib.hid h3
  have HW4 := Lib.hid hw4f
  clear h3 h4 hok3 hsub3 hf3 hx3 hx4 hb4 hw4f cs4 hlay hO4 hnx
  go_wp2_with fail
  refine HLay.out.mono ?_
  rintro e w5 ⟨rfl, U5, hok5, hsub5, hf5⟩
  have h5 := H4.out.step hok5 hsub5 hf5
  go_wp2
  go_ret
  refine ⟨rfl, _, _, h5, fun b hb => ?_, fun b hb => ?_, ?_⟩
  · rcases hb with hb | hb | hb
    · exact .inl hb
    · exact .inl (HIn.out.rc b hb)
    · exact .inl (HIn.out.rv b hb)
  · rcases hsub5 b hb.1 with e | e
    · rcases HSub3.out b e.1 with e | e
      · exact .inl e
      · exact .inr (by omega)
    · exact .inr (by omega)
  · refine (((HF1.out.trans hN2).mono (fun _ _ h => h.elim)).step HF3.out (fun i hi e => .inr e)).step HW4.out (fun i hi e => ?_) |>.step hf5 (fun i hi e => ?_)
    · have e : i = s := e
      exact .inl (e ▸ HIn.out.rs)
    · rcases HSub3.out i e.1 with e | e
      · exact .inr e
      · omega
end
end Go.Proofs.YtfapklpcgcgahaaGreatDoor

/-
  Write: a page is changed, and what stood there is kept.
-/
namespace Go.Proofs.YtfapklpcgcgahaaGreatDoor
set_option linter.unusedSimpArgs false
set_option linter.unusedVariables false
open Go.RowKit Go.Maps

theorem info_change : (Tryz.prog.info? 93).map (fun i => (i.zero, i.size, i.bytes)) = some (some (.agg #[.int .u64 0, .int .i64 0, .int .i64 0, .slice none 0 0]), 4, 48) := by kernel_rfl
/-- A cut of a page that was handed over. -/
theorem CopyIn.cut {w : World} {g : Nat} {d : List UInt8} (h : CopyIn w g d) {k n : Nat} (hk : k < d.length) (hn : k + n ≤ d.length) : BytesIn w (some ⟨g, k, none⟩) (cutP d k n) := by
  have := bytesIn_cut h.bytes k n d.length (Nat.le_refl _) hn
  unfold cutA at this
  rw [if_neg (by omega), Nat.zero_add] at this
  exact this
section
variable {RS RO U : Nat → Prop} {w : World} {s pages M K : Nat} {T : TS}
set_option maxHeartbeats 6400000 in
set_option maxRecDepth 100000 in
theorem Write_tx (h : TxIn RS RO U w s pages M K T) (hbz : T.busy = true) (no at_ gb ob cb : Nat) (b : List UInt8) (hb : BytesIn w (some ⟨gb, ob, none⟩) b) (hgb : gb < w.heap.size) (hgf : ¬ RS gb ∧ ¬ RO gb ∧ ¬ U gb) (hno : no < pages) (hat : at_ + b.length ≤ 480) (hat0 : at_ < 480) (hcb : b.length ≤ cb) (hcb2 : cb ≤ 9223372036854775807)
    (hroom : 16 + ((updB no at_ (cutP (T.V no).d at_ b.length) b).length : Int) + (needAll T.cs : Nat) + (16 + ((undB no at_ (cutP (T.V no).d at_ b.length) 0).length : Int)) + 17 ≤ T.L.room) (hK : K + 1 ≤ 400000) (hM : M + 3 ≤ 1000000000000000000) :
    Calls Tryz.prog 17 #[.pointer (some ⟨s, 0, none⟩), .int .i64 no, .int .i64 at_, .slice (some ⟨gb, ob, none⟩) b.length cb] w fun e w' => e = .returned (.int .i64 0) ∧ ∃ RS' RO' U' cv' x, TxIn RS' RO' U' w' s pages (M + 3) (K + 1) { T with L := T.L.add (updB no at_ (cutP (T.V no).d at_ b.length) b), V := laidV T.V no T.L.next at_ b, cv := cv', cms := T.cms ++ [x] } ∧ x.c = ⟨T.L.next, no, at_, cutP (T.V no).d at_ b.length⟩ ∧ (∀ b, RS' b → RS b ∨ w.heap.size ≤ b) ∧ (∀ b, RO' b → RO b ∨ w.heap.size ≤ b) ∧ (∀ b, U' b → U b ∨ w.heap.size ≤ b) ∧ Fr (fun b => RS b ∨ U b) w w' := by
  obtain ⟨i0, hi0, iz0, iz1, iz2⟩ := info_parts' info_change
  have hpg := h.pool.pg
  have hnx := h.pool.nx
  have hvd := (h.pool.vok no hno).1.d
  have hn1 := h.n1
  have qL : ∀ (w : World) (A : Option Addr) (n c : Nat), (Builtin.len_ #[40] 3 #[Value.slice A n c]).run Tryz.prog w = .ok (.int .i64 n) w := fun w A n c => by go_simp
  have HIn := Lib.hid h
  have HB := Lib.hid hb
  have HGf := Lib.hid hgf
  have HV := Lib.hid hvd
  obtain ⟨n, hn⟩ : ∃ n, b.length = n := ⟨_, rfl⟩
  have HN := Lib.hid hn
  rw [hn] at hat hcb hroom ⊢
  obtain ⟨old, hold⟩ : ∃ l, cutP (T.V no).d at_ n = l := ⟨_, rfl⟩
  have hol : old.length = n := by rw [← hold]; exact cutP_length (by rw [hvd]; exact hat)
  have HOld := Lib.hid hold
  have HOl := Lib.hid hol
  rw [hold] at hroom ⊢
  obtain ⟨rec, hrec⟩ : ∃ r, updB no at_ old b = r := ⟨_, rfl⟩
  have HRec := Lib.hid hrec
  have hrl : rec.length ≤ 2000 := by
    have := updB_le (no := no) (at_ := at_) (old := old) (b := b) (by omega) (by omega) (by omega) (by rw [hol, hn])
    rw [hrec, hn] at this; omega
  obtain ⟨rec2, hrec2⟩ : ∃ r, undB no at_ old 0 = r := ⟨_, rfl⟩
  have HRec2 := Lib.hid hrec2
  have hrl2 : rec2.length ≤ 2000 := by rw [← hrec2]; exact undB_big (by omega) (by omega) (by omega)
  rw [hrec, hrec2] at hroom
  rw [hrec]
  obtain ⟨nd, hnd⟩ : ∃ m, needAll T.cs = m := ⟨_, rfl⟩
  have HNd := Lib.hid hnd
  rw [hnd] at hroom
  have c0 := h.cell 0
  have c1 := h.cell 1
  have c3 := h.cell 3
  have c4 := h.cell 4
  have zs := h.blk.lt
  simp only [TS.cells, List.getElem?_toArray, List.getElem?_cons_zero, List.getElem?_cons_succ, hbz] at c0 c1 c3 c4
  have HDead := Lib.hid h.pool.dead
  have HGet := Lib.hid (h.pool.get no hno (by omega))
  have HUs : Hid (¬ U s) := (h.ap s h.rs).2
  have HBz := Lib.hid hbz
  clear h hb hgf hvd hn hold hol hrec hrec2 hnd hbz
  go_enter Tryz.func17, Tryz.ntmps17
  go_wp2_with fail
  refine HDead.out.mono ?_
  rintro e w0 ⟨rfl, rfl⟩
  go_wp2_with fail
  refine HGet.out.mono ?_
  rintro e w1 ⟨g, rfl, hc, hg, U1, hok, hug, hsub, hf⟩
  have h1 := HIn.out.step hok hsub hf
  have hz1 := hf.size
  obtain ⟨wa, hwa⟩ : ∃ W, w1.alloc (.cells #[.int .i64 no, .int .u64 (T.V no).lsn, .slice (some ⟨g, 0, none⟩) 480 480] 84) = W := ⟨_, rfl⟩
  have hfa : Fr Nob w1 wa := by rw [← hwa]; exact (Fr.refl _ w1).alloc _
  have hba : Blk wa w1.heap.size 84 #[.int .i64 no, .int .u64 (T.V no).lsn, .slice (some ⟨g, 0, none⟩) 480 480] := by rw [← hwa]; exact Blk.new _ _ _
  obtain ⟨gp, hgp⟩ : ∃ g, w1.heap.size = g := ⟨_, rfl⟩
  rw [hgp] at hba
  have a2 := hba.cell 2
  have za := hba.lt
  simp only [List.getElem?_toArray, List.getElem?_cons_zero, List.getElem?_cons_succ] at a2
  have hca := hc.fr hfa (fun h => h)
  have hcut := hca.cut (k := at_) (n := n) (by rw [HV.out]; omega) (by rw [HV.out]; omega)
  rw [HOld.out] at hcut
  have hcl := bytesClone_cut (w := wa) ⟨g, at_, none⟩ (480 - at_) old hcut (hca.lt) (by rw [HOl.out]; omega)
  rw [HOl.out] at hcl
  have HCl := Lib.hid hcl
  have H1 := Lib.hid h1
  have HF1 := Lib.hid hf
  have HSub1 := Lib.hid hsub
  have HFa := Lib.hid hfa
  have hg1 := hc.lt
  have hne : ¬ (480 = at_) := by omega
  have HGp := Lib.hid hgp
  clear hok hug hsub hf h1 hc hcl hcut hca hba hfa HDead HGet
  go_wp2_with fail
  refine HCl.out.mono ?_
  rintro e w3 ⟨go, cap, rfl, ho3, hf3⟩
  have hbo3 := bytesIn_own ho3
  have hcap : n ≤ cap ∧ cap ≤ 9223372036854775807 := by
    rcases ho3.2 with ⟨e, _⟩ | ⟨_, _, _, e, _, _, h5, h6, _⟩
    · cases e
    · injection e with _ _ e
      unfold maxLen at h6
      omega
  have hgo := own_lt ho3 (g := go) rfl
  have hgo2 := (ho3.lt go rfl).1
  obtain ⟨hcp1, hcp2⟩ := hcap
  have hfa3 : Fr Nob w1 w3 := HFa.out.trans hf3
  have hbb3 : BytesIn w3 (some ⟨gb, ob, none⟩) b := (HB.out.fr HF1.out (fun a ha => by injection ha with ha; subst ha; exact HGf.out.2.2)).new hfa3
  have hup := Update_any no at_ go 0 gb ob cap cb n old b w3 hbo3 hbb3 (by omega) (by omega) (by omega) HOl.out HN.out hcp1 hcb (by omega) hcb2
  rw [HRec.out] at hup
  have HUp := Lib.hid hup
  have HBo3 := Lib.hid hbo3
  have HF13 := Lib.hid hfa3
  have HBb3 := Lib.hid hbb3
  clear ho3 hbo3 hup hf3 hfa3 hbb3 HCl
  go_wp2_with fail
  refine HUp.out.mono ?_
  rintro e w4 ⟨gr, cr, rfl, hbr, hgr1, hgr2, hf4⟩
  have hud := UndoR_any no at_ 0 go 0 cap n old w4 (HBo3.out.new hf4) (by omega) (by omega) (by omega) HOl.out hcp1 (by omega) (by omega)
  rw [HRec2.out] at hud
  have HUd := Lib.hid hud
  have HBr := Lib.hid hbr
  have HBo4 := Lib.hid (HBo3.out.new hf4)
  have HBb4 := Lib.hid (HBb3.out.new hf4)
  have HF14 := Lib.hid (HF13.out.trans hf4)
  clear hud hbr hf4 HUp
  go_wp2_with fail
  refine HUd.out.mono ?_
  rintro e w5 ⟨gr2, cr2, rfl, _, _, _, hf5⟩
  have HF15 := Lib.hid (HF14.out.trans hf5)
  have HBr5 := Lib.hid (HBr.out.new hf5)
  have HBo5 := Lib.hid (HBo4.out.new hf5)
  have HBb5 := Lib.hid (HBb4.out.new hf5)
  have hz5 := hf5.size
  have h5 := H1.out.new HF15.out
  have hz15 := HF15.out.size
  have hgoR : ¬ RS go := fun e => by have := HIn.out.lts go e; have := HFa.out.size; omega
  have hgoU : ¬ (U1 go ∧ go < w1.heap.size) := fun e => by have := HFa.out.size; omega
  have hz13 := HF13.out.size
  have hz14 := HF14.out.size
  have h5o := h5.moreO (g := go) (by omega) hgoR hgoU
  have d2 := h5.cell 2
  have d8 := h5.cell 8
  have z5 := h5.blk.lt
  simp only [TS.cells, List.getElem?_toArray, List.getElem?_cons_zero, List.getElem?_cons_succ] at d2 d8
  have hnd2 : needAll ({ T with V := T.V } : TS).cs = nd := HNd.out
  rw [show needAll ({ T with V := T.V } : TS).cs = nd from HNd.out] at d8
  have HRoom : Hid (∀ k, Calls Tryz.prog 39 #[.pointer (some ⟨T.l, 0, none⟩)] (w5.drewN k) fun e w' => e = .returned (.int .i64 T.L.room) ∧ w5.drewN k = w') := fun k => (h5.pool.new ((Fr.refl _ w5).drewN k)).room
  have H5 := Lib.hid h5o
  clear h5 h5o hf5 HUd hnd2
  go_wp2_with fail
  go_quiet ((go_at_call 39; exact quiet_eq (HRoom.out _)))
  have hfq : Fr Nob w5 (w5.drewN nq) := (Fr.refl _ w5).drewN nq
  have h6 := H5.out.new hfq
  have hbr6 := HBr5.out.new hfq
  have hz56 : w5.heap.size ≤ (w5.drewN nq).heap.size := hfq.size
  have hF16 := HF15.out.trans hfq
  have hbo6 := HBo5.out.new hfq
  have hbb6 := HBb5.out.new hfq
  generalize w5.drewN nq = w6 at *
  have d2' := h6.cell 2
  have z6 := h6.blk.lt
  simp only [TS.cells, List.getElem?_toArray, List.getElem?_cons_zero, List.getElem?_cons_succ] at d2'
  have hroom6 : (rec.length : Int) + 16 ≤ T.L.room := by omega
  have hap := h6.pool.append ⟨gr, 0, none⟩ cr rec hbr6 (by show gr < _; omega) hrl hroom6 hK
  have HAp := Lib.hid hap
  have H6 := Lib.hid h6
  have HF16 := Lib.hid hF16
  have HBo6 := Lib.hid hbo6
  have HBb6 := Lib.hid hbb6
  clear hap h6 hbr6 hbo6 hbb6 hF16 hfq HRoom d2 d8 z5
  go_wp2_with fail
  refine HAp.out.mono ?_
  rintro e w7 ⟨rfl, U7, hok7, hsub7, hf7⟩
  have h7 := H6.out.add hok7 hsub7 hf7
  have hz7 := hf7.size
  have HSub7 := Lib.hid hsub7
  have HF7 := Lib.hid hf7
  have H7 := Lib.hid h7
  have e8 := h7.cell 8
  have e5 := h7.cell 5
  have e8f := h7.blk.frozen 8
  have z7 := h7.blk.lt
  have hb7 := h7.blk
  simp only [TS.cells, List.getElem?_toArray, List.getElem?_cons_zero, List.getElem?_cons_succ] at e8 e5
  rw [show TS.cs { d := T.d, p := T.p, l := T.l, f := T.f, frames := T.frames, V := T.V, L := T.L.add rec, busy := T.busy, cv := T.cv, sv := T.sv, cms := T.cms, ss := T.ss, last := T.last, undone := T.undone } = T.cs from rfl, HNd.out] at e8
  obtain ⟨m2, hm2⟩ : ∃ m : Nat, nd + (16 + rec2.length) = m := ⟨_, rfl⟩
  have hm2i : (nd : Int) + (16 + (rec2.length : Int)) = (m2 : Int) := by omega
  have hb8 := hb7.set_ 8 (.int .i64 (m2 : Int))
  have hf78 : Fr (fun k => k = s) w7 (w7.setCell ⟨s, 8, none⟩ (.int .i64 (m2 : Int))) := (Fr.refl (fun k => k = s) w7).setCell (p := ⟨s, 8, none⟩) (.inr rfl) _
  have hchg8 := own_set (i := 8) (u := .int .i64 (m2 : Int)) h7.chg h7.blk (by decide)
  clear h7 hok7 hsub7 hf7 HAp
  obtain ⟨w8, hw8⟩ : ∃ W, w7.setCell ⟨s, 8, none⟩ (.int .i64 (m2 : Int)) = W := ⟨_, rfl⟩
  rw [hw8] at hb8 hf78 hchg8
  have e5w := hb8.cell 5
  have z8 := hb8.lt
  simp only [TS.cells, List.getElem?_toArray, List.getElem?_cons_zero, List.getElem?_cons_succ, List.setIfInBounds_toArray, List.set_cons_zero, List.set_cons_succ] at e5w
  have hfa8 : Fr Nob w8 (w8.alloc (.cells #[.int .u64 T.L.next, .int .i64 no, .int .i64 at_, .slice (some ⟨go, 0, none⟩) n cap] 93)) := (Fr.refl _ w8).alloc _
  have hq8 : Blk (w8.alloc (.cells #[.int .u64 T.L.next, .int .i64 no, .int .i64 at_, .slice (some ⟨go, 0, none⟩) n cap] 93)) w8.heap.size 93 #[.int .u64 T.L.next, .int .i64 no, .int .i64 at_, .slice (some ⟨go, 0, none⟩) n cap] := Blk.new _ _ _
  obtain ⟨xc, hxc⟩ : ∃ x : CM, (⟨⟨T.L.next, no, at_, old⟩, go, 0, cap⟩ : CM) = x := ⟨_, rfl⟩
  have hxcells : xc.cells = [.int .u64 T.L.next, .int .i64 no, .int .i64 at_, .slice (some ⟨go, 0, none⟩) n cap] := by rw [← hxc, CM.cells, HOl.out]
  have HChg := Lib.hid (own_fr hchg8 hfa8 (fun _ _ h => h))
  have HB8 := Lib.hid (hb8.fr hfa8 (fun h => h))
  have HC : Hid (∀ j u, xc.cells[j]? = some u → (w8.alloc (.cells #[.int .u64 T.L.next, .int .i64 no, .int .i64 at_, .slice (some ⟨go, 0, none⟩) n cap] 93)).cell? ((⟨w8.heap.size, 0, none⟩ : Addr).add j) = some u) := fun j u hu => by
    rw [show (⟨w8.heap.size, 0, none⟩ : Addr).add j = ⟨w8.heap.size, 0 + j, none⟩ from by simp [Addr.add]; exact fun h => h.symm, Nat.zero_add, hq8.cell, List.getElem?_toArray, ← hxcells]; exact hu
  have HXl : Hid (xc.cells.length = 1 * 4) := by rw [hxcells]; rfl
  have HX1 : Hid (∀ u ∈ xc.cells, u.oneCell' = true) := by have := cm_one [xc]; rwa [cmCells_one] at this
  obtain ⟨wq, hwq⟩ : ∃ W, w8.alloc (.cells #[.int .u64 T.L.next, .int .i64 no, .int .i64 at_, .slice (some ⟨go, 0, none⟩) n cap] 93) = W := ⟨_, rfl⟩
  rw [hwq] at HChg HB8 HC hfa8
  have HFq := Lib.hid (hf78.trans (hfa8.mono (fun _ _ h => h.elim)))
  have HXc := Lib.hid hxc
  have HXs := Lib.hid hxcells
  have HFa8 := Lib.hid hfa8
  have hz78 := hf78.size
  have hzq := hfa8.size
  clear hb8 hf78 hchg8 hfa8 hq8 hxc hxcells hb7
  go_wp2_with (at_builtin; go_must (refine wpList_append_own_at _ rfl (.tmp 127) (.tmp 133) 78 rfl 0 93 i0 (.agg #[.int .u64 0, .int .i64 0, .int .i64 0, .slice none 0 0]) 4 48 Tryz.underlying78 hi0 iz0 iz1 iz2 rfl (by decide) T.cv T.cms.length (cmCells T.cms) rfl HChg.out ⟨w8.heap.size, 0, none⟩ 1 1 xc.cells rfl HXl.out HC.out HX1.out (by unfold maxLen; omega) (by omega) (Nat.zero_le _) ?_); intro cv' w9 hown hgr hnil hat; obtain ⟨gv, capv, hcv, _, hgv⟩ := hown.form (by omega); subst hcv; have HOwn := Lib.hid hown; have HGr := Lib.hid hgr; have HAt := Lib.hid hat; have hb9 := HB8.out.grown hgr (Blk.own_ne HB8.out HChg.out (by decide)); have HB9 := Lib.hid hb9; have e5' := hb9.cell 5; have e5f := hb9.frozen 5; have z9 := hb9.lt; simp only [TS.cells, List.getElem?_toArray, List.getElem?_cons_zero, List.getElem?_cons_succ, List.setIfInBounds_toArray, List.set_cons_zero, List.set_cons_succ] at e5'; clear hown hgr hnil hat hb9)
  have hw1z := HF16.out.size
  have hfF : Fr (fun k => k = s ∨ T.cv.ownBlock = some k) w7 (w9.setCell ⟨s, 5, none⟩ (.slice (some ⟨gv, 0, none⟩) (T.cms.length + 1) capv)) :=
    (((HFq.out.mono (fun _ _ e => .inl e) : Fr (fun k => k = s ∨ T.cv.ownBlock = some k) w7 wq).grown HGr.out (fun r hr => .inr (.inr hr)))).setCell (p := ⟨s, 5, none⟩) (.inr (.inl rfl)) _
  have hsav7 : ∀ g', T.sv.ownBlock = some g' → ¬ (g' = s ∨ T.cv.ownBlock = some g') := fun g' hg' e => by
    obtain ⟨cs1, hb1⟩ := own_blk H7.out.sav hg'
    rcases e with e | e
    · subst e
      exact Blk.ne_ (t := 97) (t' := 81) hb1 H7.out.blk (by decide) rfl
    · obtain ⟨cs2, hb2⟩ := own_blk H7.out.chg e
      exact Blk.ne_ (t := 97) (t' := 93) hb1 hb2 (by decide) rfl
  have hneed : needAll ((T.cms ++ [xc]).map (·.c)) = m2 := by
    rw [List.map_append, List.map_singleton, needAll_snoc, show needAll (T.cms.map (·.c)) = nd from HNd.out]
    rw [← HXc.out]
    unfold needC
    rw [HRec2.out]
    exact hm2
  have h10 := H7.out.turn hfF (fun b hb e => e.elim (fun e => e ▸ H7.out.rs) (H7.out.rc b)) T.busy (.slice (some ⟨gv, 0, none⟩) (T.cms.length + 1) capv) T.sv (T.cms ++ [xc]) T.ss T.last T.undone
    (by
      have hb10 := HB9.out.set_ 5 (.slice (some ⟨gv, 0, none⟩) (T.cms.length + 1) capv)
      simp only [TS.cells, TS.cs, List.setIfInBounds_toArray, List.set_cons_zero, List.set_cons_succ] at hb10 ⊢
      rw [hneed]
      exact hb10)
    (by
      rw [List.length_append, List.length_singleton, cmCells_append, cmCells_one]
      exact own_set HOwn.out HB9.out (by decide))
    (own_fr H7.out.sav hfF hsav7)
    (fun g' hg' => by
      rcases HAt.out with e | e
      · exact .inl (H7.out.rc g' (e ▸ hg'))
      · rw [e] at hg'
        injection hg' with hg'
        exact .inr (by omega))
    (fun g' hg' => .inl (H7.out.rv g' hg'))
    (fun x hx => by
      rcases List.mem_append.1 hx with hx | hx
      · exact .inl hx
      · rw [List.mem_singleton] at hx
        subst hx
        rw [← HXc.out]
        exact .inr ⟨.inr rfl, HBo6.out.fr HF7.out (fun a ha => by injection ha with ha; subst ha; exact H6.out.ap2 go (.inr rfl)), ⟨hno, by show at_ + old.length ≤ 480; rw [HOl.out]; exact hat, hat0, by show old.length ≤ cap; rw [HOl.out]; exact hcp1, hcp2, by show T.L.next < _; omega⟩⟩)
    (by rw [List.length_append, List.length_singleton]; omega) H7.out.n2 H7.out.n3 H7.out.n4
  have hbb10 := (HBb6.out.fr HF7.out (fun a ha => by
    injection ha with ha; subst ha
    intro e
    rcases HSub1.out gb e.1 with e | e
    · exact HGf.out.2.2 e
    · omega)).fr hfF (fun a ha => by
    injection ha with ha; subst ha
    intro e
    rcases e with e | e
    · have e : gb = s := e
      exact HGf.out.1 (e ▸ HIn.out.rs)
    · exact HGf.out.1 (HIn.out.rc gb e))
  have hzF := hfF.size
  have HFF := Lib.hid hfF
  obtain ⟨w10, hw10⟩ : ∃ W, w9.setCell ⟨s, 5, none⟩ (.slice (some ⟨gv, 0, none⟩) (T.cms.length + 1) capv) = W := ⟨_, rfl⟩
  rw [hw10] at h10 hbb10 hzF HFF ⊢
  have cs10 := h10.cell 1
  simp only [TS.cells, List.getElem?_toArray, List.getElem?_cons_zero, List.getElem?_cons_succ] at cs10
  have hgbU : ¬ (U7 gb ∧ gb < w7.heap.size) := fun e => by
    rcases HSub7.out gb e.1 with e | e
    · rcases HSub1.out gb e.1 with e | e
      · exact HGf.out.2.2 e
      · omega
    · omega
  have hlay := Lay_any h10.pool s no at_ T.L.next gb ob cb b cs10 (h10.ap s h10.rs).2 hbb10 hgbU (by omega) hno (by rw [HN.out]; exact hat) hat0 (Nat.lt_succ_self _) (by omega)
  rw [HN.out] at hlay
  refine hlay.mono ?_
  rintro e w11 ⟨rfl, U11, hok11, hsub11, hf11⟩
  have h11 := h10.step hok11 hsub11 hf11
  go_wp2
  go_ret
  have hUU : ∀ b, U7 b ∧ b < w7.heap.size → U b ∨ w.heap.size ≤ b := fun b hb => by
    rcases HSub7.out b hb.1 with e | e
    · rcases HSub1.out b e.1 with e | e
      · exact .inl e
      · exact .inr e
    · exact .inr (by omega)
  refine ⟨rfl, _, _, _, _, xc, h11, by rw [← HXc.out], fun b hb => ?_, fun b hb => ?_, fun b hb => ?_, ?_⟩
  · rcases hb with hb | hb | hb
    · exact .inl hb
    · rcases HAt.out with e | e
      · exact .inl (HIn.out.rc b (e ▸ hb))
      · rw [e] at hb
        injection hb with hb
        exact .inr (by omega)
    · exact .inl (HIn.out.rv b hb)
  · rcases hb with hb | rfl
    · exact .inl hb
    · have := HFa.out.size
      exact .inr (by omega)
  · rcases hsub11 b hb.1 with e | e
    · exact hUU b e
    · exact .inr (by omega)
  · refine ((((HF1.out.trans (HF16.out.mono (fun _ _ h => h.elim))).mono (fun _ _ e => .inr e)).step HF7.out (fun i hi e => ?_)).step HFF.out (fun i hi e => ?_)).step hf11 (fun i hi e => ?_)
    · rcases HSub1.out i e.1 with e | e
      · exact .inr e
      · omega
    · rcases e with e | e
      · have e : i = s := e
        exact .inl (e ▸ HIn.out.rs)
      · exact .inl (HIn.out.rc i e)
    · rcases hUU i e with e | e
      · exact .inr e
      · omega
end
end Go.Proofs.YtfapklpcgcgahaaGreatDoor
