/-
  Join and Seal.
-/
import Derived.Test.YtofabaeadnljbaaDoorPkRead
import Derived.Test.YtofabaeadnljbaaDoorWal2
namespace Go.Proofs.YtofabaeadnljbaaDoor
set_option linter.unusedSimpArgs false
set_option linter.unusedVariables false
open Go.RowKit

/-- Parts that can be read, none empty. -/
def PartsIn (w : World) (A : Option Addr) (ps : List (List UInt8)) : Prop := 0 < ps.length → ∃ g o, A = some ⟨g, o, none⟩ ∧ ∀ (j : Nat) p, ps[j]? = some p → ∃ gp op c, w.cell? ⟨g, o + j, none⟩ = some (.slice (some ⟨gp, op, none⟩) p.length c) ∧ BytesIn w (some ⟨gp, op, none⟩) p
def joinB (ps : List (List UInt8)) : List UInt8 := ps.flatMap fun p => uvar p.length ++ p
theorem joinB_take (ps : List (List UInt8)) (k : Nat) (h : k < ps.length) : joinB (ps.take (k + 1)) = joinB (ps.take k) ++ uvar ps[k].length ++ ps[k] := by
  unfold joinB
  rw [List.take_add_one, List.getElem?_eq_getElem h, List.flatMap_append, List.append_assoc]
  simp
theorem joinB_len (ps : List (List UInt8)) (M : Nat) (hM : ∀ p ∈ ps, p.length ≤ M) (h : M < 18446744073709551616) : (joinB ps).length ≤ (10 + M) * ps.length := by
  induction ps with
  | nil => simp [joinB]
  | cons p ps ih =>
    have h1 := ih (fun q hq => hM q (List.mem_cons_of_mem _ hq))
    have h2 := hM p (List.mem_cons_self ..)
    have h3 := uvar_le p.length (by omega)
    simp only [joinB, List.flatMap_cons, List.length_append, List.length_cons, Nat.mul_add, Nat.mul_one] at h1 ⊢
    omega

set_option maxHeartbeats 1600000 in
set_option maxRecDepth 100000 in
theorem Join_any (A : Option Addr) (cp : Nat) (ps : List (List UInt8)) (w : World) (h : PartsIn w A ps) (h0 : 0 < ps.length) (hl : ps.length ≤ 10000) (hp : ∀ p ∈ ps, p.length ≤ 10000) :
    Calls Tryd.prog 53 #[.slice A ps.length cp] w fun e w' => ∃ v, e = .returned v ∧ Made w w' v (joinB ps) := by
  obtain ⟨i0, hi0, hz0, hz1, hz2⟩ := info_parts' info_u8'
  have qL := len_bytes
  have HP := Lib.hid hp
  obtain ⟨g, o, rfl, hc⟩ := h h0
  have HC := Lib.hid hc
  have HJl : Hid (∀ k, (joinB (ps.take k)).length ≤ 200200000) := by
    intro k
    have h1 := joinB_len (ps.take k) 10000 (fun p hq => hp p (List.mem_of_mem_take hq)) (by omega)
    have h2 : (ps.take k).length ≤ 10000 := by rw [List.length_take]; omega
    have h3 : (10 + 10000) * (ps.take k).length ≤ (10 + 10000) * 10000 := Nat.mul_le_mul_left _ h2
    omega
  clear hc h hp
  go_enter Tryd.func53, Tryd.ntmps53
  go_wp2
  go_loopw [3, 5, 8] (fun v _ i wr => ∃ k : Nat, k ≤ ps.length ∧ i = .int .i64 k ∧ Hid (wr.ownsRow w.heap.size 5 1 v (joinB (ps.take k)).length (bts (joinB (ps.take k)))) ∧ Hid (Fr Nob w wr)) (fun _ _ i _ => ps.length - (intOf i).toNat)
  case atStart => exact ⟨0, Nat.zero_le _, rfl, World.ownsRow_nil _ _ _ _, Fr.refl _ _⟩
  case round =>
    obtain ⟨k, hk, rfl, ho, hF⟩ := hrel
    have hnl := HJl.out k
    by_cases hlt : k < ps.length
    · obtain ⟨gp, op, c, c0, hbp⟩ := HC.out k _ (List.getElem?_eq_getElem hlt)
      have hcl := cell_lt c0
      rw [← hF.out.cell hcl (fun h => h)] at c0
      have hpl := HP.out _ (List.getElem_mem hlt)
      have hnt := joinB_take ps k hlt
      obtain ⟨p, hpp⟩ : ∃ p, ps[k] = p := ⟨_, rfl⟩
      rw [hpp] at c0 hpl hnt hbp
      have HNt := Lib.hid hnt
      have HBp := Lib.hid hbp
      obtain ⟨bs, hbs⟩ : ∃ bs, joinB (ps.take k) = bs := ⟨_, rfl⟩
      rw [hbs] at ho hnl HNt
      obtain ⟨pl, hpln⟩ : ∃ n, p.length = n := ⟨_, rfl⟩
      have HPn := Lib.hid hpln
      rw [hpln] at c0 hpl HNt
      have HU := Lib.hid (Uvar_any pl wr (by omega))
      have hul := uvar_le pl (by omega)
      have e64 : IntKind.u64.wrap (pl : Int) = (pl : Int) := by rw [IntKind.wrap_u64]; omega
      clear hpp hnt hbs hcl hpln hbp
      go_wp2_with fail
      refine HU.out.mono ?_
      rintro e w1 ⟨v1, rfl, g1, rfl, hb1, hg1, hg2, hf1⟩
      have hown := own_fr ho.out hf1 (fun _ _ h => h)
      have HF1 := Lib.hid (hF.out.trans hf1)
      obtain ⟨us, hus⟩ : ∃ us, uvar pl = us := ⟨_, rfl⟩
      rw [hus] at hb1 hul HNt ⊢
      have C1 : Hid ((bts us).length = us.length * 1) := by rw [Hid, bts_length]; omega
      have C2 : Hid (∀ j u, (bts us)[j]? = some u → w1.cell? ((⟨g1, 0, none⟩ : Addr).add j) = some u) := fun j u hu => bytesIn_cells hb1 j u hu
      have hsz := HF1.out.size
      have HO := Lib.hid hown
      clear hb1 hf1 hown ho HU hF hus
      have D1 : Hid ((bts p).length = pl * 1) := by rw [Hid, bts_length, HPn.out]; omega
      have hbu : (bs ++ us).length ≤ 200200010 := by rw [List.length_append]; omega
      go_wp2_with (at_builtin; first
        | (refine wpList_append_own_at _ rfl (.tmp 12) (.tmp 16) 26 rfl w.heap.size 5 i0 (.int .u8 0) 1 1 Tryd.underlying26 hi0 hz0 hz1 hz2 rfl (by decide) u3 bs.length (bts bs) rfl HO.out ⟨g1, 0, none⟩ us.length us.length (bts us) rfl C1.out C2.out (bts_one _) (by unfold maxLen; omega) (by omega) hsz ?_
           intro v7 w7 hown7 hg7 hn7 hat7
           have HO7 : Hid (w7.ownsRow w.heap.size 5 1 v7 (bs ++ us).length (bts (bs ++ us))) := by rw [List.length_append, bts_append]; exact hown7
           have HF7 : Hid (Fr Nob w w7) := Fr.grown HF1.out hg7 (fun r hr => .inl (HO.out.lt r hr).1)
           have hsz7 := HF7.out.size
           have D2 : Hid (∀ j u, (bts p)[j]? = some u → w7.cell? ((⟨gp, op, none⟩ : Addr).add j) = some u) := fun j u hu => bytesIn_cells (HBp.out.new HF7.out) j u hu
           clear hown7 hg7 hn7 hat7)
        | (refine wpList_append_own_at _ rfl (.tmp 18) (.tmp 19) 26 rfl w.heap.size 5 i0 (.int .u8 0) 1 1 Tryd.underlying26 hi0 hz0 hz1 hz2 rfl (by decide) v7 (bs ++ us).length (bts (bs ++ us)) rfl HO7.out ⟨gp, op, none⟩ pl c (bts p) rfl D1.out D2.out (bts_one _) (by unfold maxLen; omega) (by omega) hsz7 ?_
           intro v8 w8 hown8 hg8 hn8 hat8))
      have HO8 : Hid (w8.ownsRow w.heap.size 5 1 v8 (joinB (ps.take (k + 1))).length (bts (joinB (ps.take (k + 1))))) := by rw [HNt.out, List.length_append, bts_append, HPn.out]; exact hown8
      have HF8 : Hid (Fr Nob w w8) := Fr.grown HF7.out hg8 (fun r hr => .inl (HO7.out.lt r hr).1)
      clear hown8 hg8 hn8 hat8
      go_wp2
      go_roundw
      case rel => exact ⟨k + 1, by omega, by go_num, HO8, HF8⟩
      case measure => simp [intOf]; omega
    · obtain rfl : k = ps.length := by omega
      rw [List.take_length] at ho hnl
      have hpos : 0 < (joinB ps).length := by
        cases ps with
        | nil => simp at h0
        | cons p ps =>
          have := uvar_pos p.length
          simp only [joinB, List.flatMap_cons, List.length_append]
          omega
      obtain ⟨g7, cap, rfl, hgb, hgl⟩ := ho.out.form hpos
      have hcap : (joinB ps).length ≤ cap := by
        rcases ho.out.2 with ⟨e, _⟩ | ⟨_, _, _, e, _, _, h5, _⟩
        · cases e
        · injection e with _ _ e; omega
      have HB : Hid (BytesIn wr (some ⟨g7, 0, none⟩) (joinB ps)) := bytesIn_own ho.out
      obtain ⟨m, hm⟩ : ∃ m, (joinB ps).length = m := ⟨_, rfl⟩
      have HM := Lib.hid hm
      rw [hm] at hcap hpos hnl ⊢
      clear hm ho
      go_wp2
      try (rw [qL]; go_wp2)
      go_ret
      exact ⟨.slice (some ⟨g7, 0, none⟩) m m, rfl, g7, by rw [HM.out], HB.out, hgb, hgl, hF.out⟩

/-- Bytes' sum, as bytes. -/
def sumB (b : List UInt8) : List UInt8 := [UInt8.ofNat (crcN b / 16777216), UInt8.ofNat (crcN b / 65536 % 256), UInt8.ofNat (crcN b / 256 % 256), UInt8.ofNat (crcN b % 256)]
def sealB (b : List UInt8) : List UInt8 := b ++ sumB b

set_option maxHeartbeats 1600000 in
set_option maxRecDepth 100000 in
theorem Seal_any (A : Option Addr) (cp : Nat) (b : List UInt8) (w : World) (h : BytesIn w A b) (h0 : 0 < b.length) (hl : b.length ≤ 1000000000) :
    Calls Tryd.prog 52 #[.slice A b.length cp] w fun e w' => ∃ v, e = .returned v ∧ Made w w' v (sealB b) := by
  obtain ⟨i0, hi0, hz0, hz1, hz2⟩ := info_parts' info_u8'
  have qL := len_bytes
  have HC := Lib.hid (CRC_any A cp b w h (by omega))
  have hcl := crcN_lt b
  have HS : Hid (sealB b = b ++ [UInt8.ofNat (crcN b / 16777216), UInt8.ofNat (crcN b / 65536 % 256), UInt8.ofNat (crcN b / 256 % 256), UInt8.ofNat (crcN b % 256)]) := rfl
  obtain ⟨c, hc⟩ : ∃ c, crcN b = c := ⟨_, rfl⟩
  rw [hc] at HC hcl HS
  clear hc
  obtain ⟨g, o, rfl, _⟩ := h h0
  have HB := Lib.hid h
  have y1 : (UInt8.ofNat (c / 16777216)).toNat = c / 16777216 := ofNat_toNat (by omega)
  have y2 : (UInt8.ofNat (c / 65536 % 256)).toNat = c / 65536 % 256 := ofNat_toNat (by omega)
  have y3 : (UInt8.ofNat (c / 256 % 256)).toNat = c / 256 % 256 := ofNat_toNat (by omega)
  have y4 : (UInt8.ofNat (c % 256)).toNat = c % 256 := ofNat_toNat (by omega)
  obtain ⟨x1, hx1⟩ : ∃ x, UInt8.ofNat (c / 16777216) = x := ⟨_, rfl⟩
  obtain ⟨x2, hx2⟩ : ∃ x, UInt8.ofNat (c / 65536 % 256) = x := ⟨_, rfl⟩
  obtain ⟨x3, hx3⟩ : ∃ x, UInt8.ofNat (c / 256 % 256) = x := ⟨_, rfl⟩
  obtain ⟨x4, hx4⟩ : ∃ x, UInt8.ofNat (c % 256) = x := ⟨_, rfl⟩
  rw [hx1] at y1 HS
  rw [hx2] at y2 HS
  rw [hx3] at y3 HS
  rw [hx4] at y4 HS
  clear hx1 hx2 hx3 hx4 h
  have z1 : (c : Int) / 16777216 = (x1.toNat : Int) := by omega
  have z2 : (c : Int) / 65536 % 256 = (x2.toNat : Int) := by omega
  have z3 : (c : Int) / 256 % 256 = (x3.toNat : Int) := by omega
  have z4 : (c : Int) % 256 = (x4.toNat : Int) := by omega
  have z5 : (x1.toNat : Int) % 256 = (x1.toNat : Int) := by have := UInt8.toNat_lt x1; omega
  have C1 : Hid ((bts b).length = b.length * 1) := by rw [Hid, bts_length]; omega
  clear y1 y2 y3 y4
  go_enter Tryd.func52, Tryd.ntmps52
  go_wp2_with fail
  refine HC.out.mono ?_
  rintro e w1 ⟨rfl, hf1⟩
  have HF1 := Lib.hid hf1
  have hsz1 := hf1.size
  have HO : Hid ((w1.alloc (.cells #[] 5)).ownsRow w.heap.size 5 1 (.slice (some ⟨w1.heap.size, 0, none⟩) 0 0) 0 []) := World.ownsRow_made (base := w.heap.size) w1 #[] 0 hsz1 (by unfold maxLen; omega) (by rfl)
  have C2 : Hid (∀ j u, (bts b)[j]? = some u → (w1.alloc (.cells #[] 5)).cell? ((⟨g, o, none⟩ : Addr).add j) = some u) := fun j u hu => bytesIn_cells (HB.out.new (hf1.alloc _)) j u hu
  have hsz2 : w.heap.size ≤ (w1.alloc (.cells #[] 5)).heap.size := by rw [World.size_alloc]; omega
  clear hf1 HC
  go_wp2_with (at_builtin; first
    | (refine wpList_append_own_at _ rfl (.tmp 7) (.tmp 8) 26 rfl w.heap.size 5 i0 (.int .u8 0) 1 1 Tryd.underlying26 hi0 hz0 hz1 hz2 rfl (by decide) (.slice (some ⟨w1.heap.size, 0, none⟩) 0 0) 0 [] rfl HO.out ⟨g, o, none⟩ b.length cp (bts b) rfl C1.out C2.out (bts_one _) (by unfold maxLen; omega) (by omega) hsz2 ?_
       intro v7 w7 hown7 hg7 hn7 hat7
       have HO7 : Hid (w7.ownsRow w.heap.size 5 1 v7 b.length (bts b)) := by rw [Nat.zero_add, List.nil_append] at hown7; exact hown7
       have HF7 : Hid (Fr Nob w w7) := Fr.grown (HF1.out.alloc _) hg7 (fun r hr => .inl (HO.out.lt r hr).1)
       have hsz7 := HF7.out.size
       clear hown7 hg7 hn7 hat7)
    | (refine wpList_append_own_at _ rfl (.tmp 9) (.tmp 21) 26 rfl w.heap.size 5 i0 (.int .u8 0) 1 1 Tryd.underlying26 hi0 hz0 hz1 hz2 rfl (by decide) v7 b.length (bts b) rfl (HO7.out.alloc _) ⟨w7.heap.size, 0, none⟩ 4 4 (bts [x1, x2, x3, x4]) rfl rfl (fun j u hu => bytesIn_cells (bytesIn_of (Blk.new w7 5 (bts [x1, x2, x3, x4]).toArray)) j u hu) (bts_one _) (by unfold maxLen; omega) (by omega) (by rw [World.size_alloc]; omega) ?_
       intro v8 w8 hown8 hg8 hn8 hat8))
  have HO8 : w8.ownsRow w.heap.size 5 1 v8 (sealB b).length (bts (sealB b)) := by rw [HS.out, List.length_append, bts_append]; exact hown8
  have HF8 : Hid (Fr Nob w w8) := Fr.grown (HF7.out.alloc _) hg8 (fun r hr => .inl (HO7.out.lt r hr).1)
  have hpos : 0 < (sealB b).length := by rw [HS.out, List.length_append]; omega
  have hlen : (sealB b).length ≤ 1000000004 := by rw [HS.out, List.length_append]; simp; omega
  clear hown8 hg8 hn8 hat8
  obtain ⟨g7, cap, rfl, hgb, hgl⟩ := HO8.form hpos
  have hcap : (sealB b).length ≤ cap := by
    rcases HO8.2 with ⟨e, _⟩ | ⟨_, _, _, e, _, _, h5, _⟩
    · cases e
    · injection e with _ _ e; omega
  have HBs : Hid (BytesIn w8 (some ⟨g7, 0, none⟩) (sealB b)) := bytesIn_own HO8
  have e4 : b.length + 4 = (sealB b).length := by rw [HS.out, List.length_append]; rfl
  obtain ⟨m, hm⟩ : ∃ m, (sealB b).length = m := ⟨_, rfl⟩
  have HM := Lib.hid hm
  rw [hm] at hcap hpos hlen e4
  try rw [e4]
  try rw [hm]
  clear hm HO8 e4
  go_wp2
  try (rw [qL]; go_wp2)
  go_ret
  exact ⟨.slice (some ⟨g7, 0, none⟩) m m, rfl, g7, by rw [HM.out], HBs.out, hgb, hgl, HF8.out⟩
end Go.Proofs.YtofabaeadnljbaaDoor
