/-
  Edge: an edge's bytes.
-/
import Derived.Test.YtofabaeadnljbaaDoorPkSum
namespace Go.Proofs.YtofabaeadnljbaaDoor
set_option linter.unusedSimpArgs false
set_option linter.unusedVariables false
open Go.RowKit

theorem info_i64' : (Tryd.prog.info? 2).map (fun i => (i.zero, i.size, i.bytes)) = some (some (.int .i64 0), 1, 8) := by kernel_rfl
theorem info_P' : (Tryd.prog.info? 23).map (fun i => (i.zero, i.size, i.bytes)) = some (some (.agg #[.int .i64 0, .int .i64 0]), 2, 16) := by kernel_rfl
theorem len_Ps (w : World) (A : Option Addr) (n c : Nat) : (Builtin.len_ #[36] 3 #[Value.slice A n c]).run Tryd.prog w = .ok (.int .i64 n) w := by go_simp
theorem addr_add (g o j : Nat) : (⟨g, o, none⟩ : Addr).add j = ⟨g, o + j, none⟩ := by simp [Addr.add]
def ints (l : List Int) : List Value := l.map fun x => .int .i64 x
theorem ints_length (l : List Int) : (ints l).length = l.length := by simp [ints]
theorem ints_append (a b : List Int) : ints (a ++ b) = ints a ++ ints b := by simp [ints]
theorem ints_get (s : List Int) (i : Nat) : (ints s)[i]? = s[i]?.map fun x => Value.int .i64 x := by simp [ints]
theorem ints_one (s : List Int) : ∀ u ∈ ints s, u.oneCell' = true := by
  intro u hu
  simp only [ints, List.mem_map] at hu
  obtain ⟨x, _, rfl⟩ := hu
  rfl
theorem i64In_own {w : World} {base g n cap : Nat} {l : List Int} (h : w.ownsRow base 2 1 (.slice (some ⟨g, 0, none⟩) n cap) n (ints l)) : I64In w (some ⟨g, 0, none⟩) l := by
  intro h0
  rcases h.2 with ⟨e, _⟩ | ⟨g', cap', cur, e, _, hh, _, _, _, ht⟩
  · cases e
  · injection e with e _ _
    injection e with e
    injection e with e _
    subst e
    refine ⟨g, 0, rfl, fun j x hx => ?_⟩
    have hb : (ints l)[j]? = some (.int .i64 x) := by rw [ints_get, hx]; rfl
    rw [← ht, List.getElem?_take] at hb
    split at hb
    · rw [Nat.zero_add, Blk.cell hh j, ← Array.getElem?_toList]; exact hb
    · cases hb
/-- A row of points that can be read. -/
def PtsIn (w : World) (A : Option Addr) (ps : List (Int × Int)) : Prop := 0 < ps.length → ∃ g, A = some ⟨g, 0, none⟩ ∧ ∀ (j : Nat) p, ps[j]? = some p → w.cell? ⟨g, j * 2, none⟩ = some (.int .i64 p.1) ∧ w.cell? ⟨g, j * 2 + 1, none⟩ = some (.int .i64 p.2)
def Ed.v (e : Ed) (L : Value) : Value := .agg #[.int .i64 e.id, .int .i64 e.st, .int .i64 e.en, L, .int .i64 e.le, .int .i64 e.ri]
theorem Ed.fits (e : Ed) (h : e.Ok) : Fits e.l := by
  have hl := h.len
  intro x hx
  simp only [Ed.l, List.cons_append, List.nil_append, List.mem_cons] at hx
  rcases hx with rfl | rfl | rfl | rfl | rfl | rfl | hx
  · exact h.id
  · exact h.st
  · exact h.en
  · exact h.le
  · exact h.ri
  · exact ⟨by omega, by omega⟩
  · exact dls_num _ _ _ x hx

set_option maxHeartbeats 1600000 in
set_option maxRecDepth 100000 in
theorem Edge_any (e : Ed) (A : Option Addr) (cp : Nat) (w : World) (h : e.Ok) (hl : PtsIn w A e.line) : Calls Tryd.prog 13 #[e.v (.slice A e.line.length cp)] w fun x w' => ∃ v, x = .returned v ∧ Made w w' v e.b := by
  obtain ⟨i0, hi0, hz0, hz1, hz2⟩ := info_parts' info_i64'
  have qP := len_Ps
  have hlen := h.len
  have HFt := Lib.hid (e.fits h)
  have HB : Hid (e.b = nums e.l) := rfl
  have HLl : Hid (e.l.length = 6 + 2 * e.line.length) := by unfold Hid Ed.l; rw [List.length_append, dls_length]; rfl
  have HLe : Hid (e.l = [e.id, e.st, e.en, e.le, e.ri, (e.line.length : Int)] ++ dls 0 0 e.line) := rfl
  have HPi := Lib.hid hl
  unfold Ed.v
  obtain ⟨id, st, en, le, ri, line⟩ := e
  dsimp only at HB HLl HLe HPi hlen ⊢
  obtain ⟨L, hL⟩ : ∃ L, Ed.l { id := id, st := st, en := en, le := le, ri := ri, line := line } = L := ⟨_, rfl⟩
  rw [hL] at HB HLl HLe HFt
  obtain ⟨n, hn⟩ : ∃ n, line.length = n := ⟨_, rfl⟩
  have HN := Lib.hid hn
  rw [hn] at HLl HLe hlen
  rw [hn]
  clear hL hn h hl
  go_enter Tryd.func13, Tryd.ntmps13
  go_wp2
  try (rw [qP]; go_wp2)
  have hF0 : Fr Nob w (((w.alloc (.cells #[.int .i64 id, .int .i64 st, .int .i64 en, .slice A n cp, .int .i64 le, .int .i64 ri] 38)).alloc (.cells #[.int .i64 id, .int .i64 st, .int .i64 en, .int .i64 le, .int .i64 ri, .int .i64 (n : Int)] 2)).alloc (.cells #[.int .i64 0, .int .i64 0] 23)) := (((Fr.refl _ w).alloc _).alloc _).alloc _
  have hb1 : Blk (((w.alloc (.cells #[.int .i64 id, .int .i64 st, .int .i64 en, .slice A n cp, .int .i64 le, .int .i64 ri] 38)).alloc (.cells #[.int .i64 id, .int .i64 st, .int .i64 en, .int .i64 le, .int .i64 ri, .int .i64 (n : Int)] 2)).alloc (.cells #[.int .i64 0, .int .i64 0] 23)) (w.heap.size + 1) 2 #[.int .i64 id, .int .i64 st, .int .i64 en, .int .i64 le, .int .i64 ri, .int .i64 (n : Int)] := by
    have := Blk.new (w.alloc (.cells #[.int .i64 id, .int .i64 st, .int .i64 en, .slice A n cp, .int .i64 le, .int .i64 ri] 38)) 2 #[.int .i64 id, .int .i64 st, .int .i64 en, .int .i64 le, .int .i64 ri, .int .i64 (n : Int)]
    rw [World.size_alloc] at this
    exact this.alloc _
  have hb2 : Blk (((w.alloc (.cells #[.int .i64 id, .int .i64 st, .int .i64 en, .slice A n cp, .int .i64 le, .int .i64 ri] 38)).alloc (.cells #[.int .i64 id, .int .i64 st, .int .i64 en, .int .i64 le, .int .i64 ri, .int .i64 (n : Int)] 2)).alloc (.cells #[.int .i64 0, .int .i64 0] 23)) (w.heap.size + 1 + 1) 23 #[.int .i64 0, .int .i64 0] := by
    have := Blk.new ((w.alloc (.cells #[.int .i64 id, .int .i64 st, .int .i64 en, .slice A n cp, .int .i64 le, .int .i64 ri] 38)).alloc (.cells #[.int .i64 id, .int .i64 st, .int .i64 en, .int .i64 le, .int .i64 ri, .int .i64 (n : Int)] 2)) 23 #[.int .i64 0, .int .i64 0]
    rwa [World.size_alloc, World.size_alloc] at this
  obtain ⟨w0, hw0⟩ : ∃ W, (((w.alloc (.cells #[.int .i64 id, .int .i64 st, .int .i64 en, .slice A n cp, .int .i64 le, .int .i64 ri] 38)).alloc (.cells #[.int .i64 id, .int .i64 st, .int .i64 en, .int .i64 le, .int .i64 ri, .int .i64 (n : Int)] 2)).alloc (.cells #[.int .i64 0, .int .i64 0] 23)) = W := ⟨_, rfl⟩
  rw [hw0] at hF0 hb1 hb2 ⊢
  obtain ⟨B, hB1⟩ : ∃ B, w.heap.size + 1 = B := ⟨_, rfl⟩
  have hs0 := hF0.size
  rw [hB1] at hb1 hb2 ⊢
  have hg2 : w.heap.size ≤ B := by omega
  have hsz0 := hb2.lt
  have HP0 := Lib.hid (show PtsIn w0 A line from fun h0 => by
    obtain ⟨g, rfl, hc⟩ := HPi.out h0
    refine ⟨g, rfl, fun j p hp => ?_⟩
    obtain ⟨c0, c1⟩ := hc j p hp
    have hlt := cell_lt c0
    exact ⟨(hF0.cell (p := ⟨g, j * 2, none⟩) hlt (fun h => h)).trans c0, (hF0.cell (p := ⟨g, j * 2 + 1, none⟩) hlt (fun h => h)).trans c1⟩)
  have HOwn0 : Hid (w0.ownsRow B 2 1 (.slice (some ⟨B, 0, none⟩) 6 6) 6 (ints [id, st, en, le, ri, (n : Int)])) := ⟨rfl, .inr ⟨B, 6, _, rfl, Nat.le_refl _, hb1, Nat.le_refl _, by unfold maxLen; omega, rfl, rfl⟩⟩
  have HF0 : Hid (Fr (fun x => w.heap.size ≤ x) w w0) := hF0.mono (fun _ _ h => h.elim)
  have HB0 := Lib.hid hb2
  clear hw0 hF0 hb1 hb2 hB1
  go_loopw [3, 6, 24] (fun v _ i wr => ∃ (k : Nat) (pre : List Int) (a b : Int), k ≤ n ∧ i = .int .i64 k ∧ Hid (pre.length = 2 * k) ∧ Hid (dls 0 0 line = pre ++ dls a b (line.drop k)) ∧ Hid (wr.ownsRow B 2 1 v (6 + 2 * k) (ints ([id, st, en, le, ri, (n : Int)] ++ pre))) ∧ Hid (Fr (fun x => w.heap.size ≤ x) w wr) ∧ Hid (PtsIn wr A line) ∧ Hid (Blk wr (B + 1) 23 #[.int .i64 a, .int .i64 b])) (fun _ _ i _ => n - (intOf i).toNat)
  case atStart => exact ⟨0, [], 0, 0, Nat.zero_le _, rfl, rfl, rfl, HOwn0.out, HF0.out, HP0.out, HB0.out⟩
  case round =>
    obtain ⟨k, pre, a, b, hk, rfl, hpl, hdl, ho, hF, hP, hBp⟩ := hrel
    by_cases hlt : k < n
    · have hg := List.getElem?_eq_getElem (l := line) (i := k) (by rw [HN.out]; exact hlt)
      obtain ⟨p, hp⟩ : ∃ p, line[k]'(by rw [HN.out]; exact hlt) = p := ⟨_, rfl⟩
      rw [hp] at hg
      obtain ⟨p1, p2⟩ := p
      obtain ⟨g, rfl, hc⟩ := hP.out (by rw [HN.out]; omega)
      obtain ⟨c0, c1⟩ := hc k _ hg
      have hcl := cell_lt c0
      dsimp only at c0 c1 hcl
      have bl := hBp.out.lt
      have b0 := hBp.out.cell 0
      have b1 := hBp.out.cell 1
      have bf0 := hBp.out.frozen 0
      have bf1 := hBp.out.frozen 1
      simp only [List.getElem?_toArray, List.getElem?_cons_zero, List.getElem?_cons_succ] at b0 b1
      have HDr : Hid (line.drop k = (p1, p2) :: line.drop (k + 1)) := by
        rw [Hid, List.drop_eq_getElem_cons (by rw [HN.out]; exact hlt), hp]
      have HG := Lib.hid hg
      clear hg hp hc
      have hnl : (ints [wrap64 (p1 - a), wrap64 (p2 - b)]).length = 2 * 1 := rfl
      have HNw : Hid (∀ j u, (ints [wrap64 (p1 - a), wrap64 (p2 - b)])[j]? = some u → ((wr.alloc (.cells #[.int .i64 p1, .int .i64 p2] 23)).alloc (.cells #[.int .i64 (wrap64 (p1 - a)), .int .i64 (wrap64 (p2 - b))] 2)).cell? ((⟨wr.heap.size + 1, 0, none⟩ : Addr).add j) = some u) := by
        intro j u hu
        have hb := Blk.new (wr.alloc (.cells #[.int .i64 p1, .int .i64 p2] 23)) 2 #[.int .i64 (wrap64 (p1 - a)), .int .i64 (wrap64 (p2 - b))]
        rw [World.size_alloc] at hb
        rw [addr_add, Nat.zero_add, hb.cell, List.getElem?_toArray]
        exact hu
      have HOa : Hid (((wr.alloc (.cells #[.int .i64 p1, .int .i64 p2] 23)).alloc (.cells #[.int .i64 (wrap64 (p1 - a)), .int .i64 (wrap64 (p2 - b))] 2)).ownsRow B 2 1 _ (6 + 2 * k) (ints ([id, st, en, le, ri, (n : Int)] ++ pre))) := (ho.out.alloc _).alloc _
      have HFa : Hid (Fr (fun x => w.heap.size ≤ x) w ((wr.alloc (.cells #[.int .i64 p1, .int .i64 p2] 23)).alloc (.cells #[.int .i64 (wrap64 (p1 - a)), .int .i64 (wrap64 (p2 - b))] 2))) := (hF.out.alloc _).alloc _
      have hBx : Blk ((wr.alloc (.cells #[.int .i64 p1, .int .i64 p2] 23)).alloc (.cells #[.int .i64 (wrap64 (p1 - a)), .int .i64 (wrap64 (p2 - b))] 2)) wr.heap.size 23 #[.int .i64 p1, .int .i64 p2] := (Blk.new wr _ _).alloc _
      have HBx := Lib.hid hBx
      have HBq : Hid (Blk ((wr.alloc (.cells #[.int .i64 p1, .int .i64 p2] 23)).alloc (.cells #[.int .i64 (wrap64 (p1 - a)), .int .i64 (wrap64 (p2 - b))] 2)) (B + 1) 23 #[.int .i64 a, .int .i64 b]) := (hBp.out.alloc _).alloc _
      have hne : B + 1 ≠ wr.heap.size := by omega
      have HPq : Hid (PtsIn ((wr.alloc (.cells #[.int .i64 p1, .int .i64 p2] 23)).alloc (.cells #[.int .i64 (wrap64 (p1 - a)), .int .i64 (wrap64 (p2 - b))] 2)) (some ⟨g, 0, none⟩) line) := by
        intro h0
        obtain ⟨g', e, hc⟩ := hP.out h0
        refine ⟨g', e, fun j p hp => ?_⟩
        obtain ⟨c0, c1⟩ := hc j p hp
        have hlt := cell_lt c0
        have hf : Fr Nob wr ((wr.alloc (.cells #[.int .i64 p1, .int .i64 p2] 23)).alloc (.cells #[.int .i64 (wrap64 (p1 - a)), .int .i64 (wrap64 (p2 - b))] 2)) := ((Fr.refl _ wr).alloc _).alloc _
        exact ⟨(hf.cell (p := ⟨g', j * 2, none⟩) hlt (fun h => h)).trans c0, (hf.cell (p := ⟨g', j * 2 + 1, none⟩) hlt (fun h => h)).trans c1⟩
      have HP := Lib.hid hP.out
      clear hP ho hF hBx hBp
      go_wp2_with (at_builtin; go_must (refine wpList_append_own_at _ rfl (.tmp 28) (.tmp 39) 74 rfl B 2 i0 (.int .i64 0) 1 8 Tryd.underlying74 hi0 hz0 hz1 hz2 rfl (by decide) _ (6 + 2 * k) (ints ([id, st, en, le, ri, (n : Int)] ++ pre)) rfl HOa.out ⟨wr.heap.size + 1, 0, none⟩ 2 2 (ints [wrap64 (p1 - a), wrap64 (p2 - b)]) rfl hnl HNw.out (ints_one _) (by unfold maxLen; omega) (by omega) (by rw [World.size_alloc, World.size_alloc]; omega) ?_); intro v7 w7 hown7 hg7 hn7 hat7; have HO7 := Lib.hid hown7; have HF7 : Hid (Fr (fun x => w.heap.size ≤ x) w w7) := Fr.grown HFa.out hg7 (fun r hr => .inl (Nat.le_trans hg2 (HOa.out.lt r hr).1)); have HX7 : Hid (Blk w7 wr.heap.size 23 #[.int .i64 p1, .int .i64 p2]) := HBx.out.grown hg7 (Blk.own_ne HBx.out HOa.out (by decide)); have HQ7 : Hid (Blk w7 (B + 1) 23 #[.int .i64 a, .int .i64 b]) := HBq.out.grown hg7 (Blk.own_ne HBq.out HOa.out (by decide)); have x0 := HX7.out.cell 0; have x1 := HX7.out.cell 1; have xl := HX7.out.lt; have q0 := HQ7.out.cell 0; have q1 := HQ7.out.cell 1; have ql := HQ7.out.lt; have qf0 := HQ7.out.frozen 0; have qf1 := HQ7.out.frozen 1; simp only [List.getElem?_toArray, List.getElem?_cons_zero, List.getElem?_cons_succ] at x0 x1 q0 q1; clear hown7 hg7 hn7 hat7)
      have hOf := own_set (i := 1) (u := .int .i64 p2) (own_set (i := 0) (u := .int .i64 p1) HO7.out HQ7.out (by decide)) (HQ7.out.set_ 0 (.int .i64 p1)) (by decide)
      have hBf : Blk ((w7.setCell ⟨B + 1, 0, none⟩ (.int .i64 p1)).setCell ⟨B + 1, 1, none⟩ (.int .i64 p2)) (B + 1) 23 #[.int .i64 p1, .int .i64 p2] := (HQ7.out.set_ 0 (.int .i64 p1)).set_ 1 (.int .i64 p2)
      have hFf : Fr (fun x => w.heap.size ≤ x) w ((w7.setCell ⟨B + 1, 0, none⟩ (.int .i64 p1)).setCell ⟨B + 1, 1, none⟩ (.int .i64 p2)) := (HF7.out.setCell (p := ⟨B + 1, 0, none⟩) (.inl (by show w.heap.size ≤ B + 1; omega)) _).setCell (p := ⟨B + 1, 1, none⟩) (.inl (by show w.heap.size ≤ B + 1; omega)) _
      go_roundw
      case rel =>
        refine ⟨k + 1, pre ++ [wrap64 (p1 - a), wrap64 (p2 - b)], p1, p2, by omega, by go_num, ?_, ?_, ?_, hFf, ?_, hBf⟩
        · rw [Hid, List.length_append, hpl.out]; simp; omega
        · rw [Hid, hdl.out, HDr.out, dls, List.append_assoc]; rfl
        · rw [← List.append_assoc, ints_append, show 6 + 2 * (k + 1) = 6 + 2 * k + 2 from by omega]; exact hOf
        · intro h0
          obtain ⟨g', e, hc⟩ := HPi.out h0
          refine ⟨g', e, fun j p hp => ?_⟩
          obtain ⟨c0, c1⟩ := hc j p hp
          have hlt := cell_lt c0
          exact ⟨(hFf.cell (p := ⟨g', j * 2, none⟩) hlt (fun h => by simp only at h hlt; omega)).trans c0, (hFf.cell (p := ⟨g', j * 2 + 1, none⟩) hlt (fun h => by simp only at h hlt; omega)).trans c1⟩
      case measure => simp [intOf]; omega
    · obtain rfl : k = n := by omega
      have hd0 : dls a b (line.drop k) = [] := by rw [List.drop_of_length_le (by rw [HN.out]; omega)]; rfl
      have hLe : ints ([id, st, en, le, ri, (k : Int)] ++ pre) = ints L := by rw [HLe.out, hdl.out, hd0, List.append_nil]
      rw [hLe] at ho
      obtain ⟨g7, cap, rfl, hgb, hgl⟩ := ho.out.form (by omega)
      have HNm : Hid (∀ W, wr = W → Calls Tryd.prog 24 #[.slice (some ⟨g7, 0, none⟩) (6 + 2 * k) cap] W fun e w' => ∃ v, e = .returned v ∧ Made W w' v (nums L)) := by
        rintro W rfl
        have := numbers_any (some ⟨g7, 0, none⟩) cap L wr (i64In_own ho.out) HFt.out (by rw [HLl.out]; omega) (by rw [HLl.out]; omega)
        rwa [HLl.out] at this
      go_wp2_with fail
      refine (HNm.out _ rfl).mono ?_
      rintro e w1 ⟨v1, rfl, g1, rfl, hb1, hg1, hg2, hf1⟩
      have hs := hF.out.size
      have HFF : Hid (Fr Nob w w1) := (hF.out.trans (hf1.mono (fun _ _ h => h.elim))).mono (fun i hi h => by omega)
      go_wp2
      go_ret
      exact ⟨.slice (some ⟨g1, 0, none⟩) (nums L).length (nums L).length, rfl, g1, by rw [HB.out], by rw [HB.out]; exact hb1, by omega, hg2, HFF.out⟩
end Go.Proofs.YtofabaeadnljbaaDoor
