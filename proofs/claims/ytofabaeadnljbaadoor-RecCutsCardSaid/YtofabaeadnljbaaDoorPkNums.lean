/-
  Numbers one behind the other: numbers, Node.
-/
import Derived.Test.YtofabaeadnljbaaDoorPkVar
namespace Go.Proofs.YtofabaeadnljbaaDoor
set_option linter.unusedSimpArgs false
set_option linter.unusedVariables false
open Go.RowKit

/-- A row of numbers that can be read. -/
def I64In (w : World) (A : Option Addr) (l : List Int) : Prop := 0 < l.length → ∃ g o, A = some ⟨g, o, none⟩ ∧ ∀ (j : Nat) x, l[j]? = some x → w.cell? ⟨g, o + j, none⟩ = some (.int .i64 x)
def Fits (l : List Int) : Prop := ∀ x ∈ l, -9223372036854775808 ≤ x ∧ x ≤ 9223372036854775807
theorem nums_take (l : List Int) (k : Nat) (h : k < l.length) : nums (l.take (k + 1)) = nums (l.take k) ++ intB l[k] := by
  rw [List.take_add_one, List.getElem?_eq_getElem h, nums_append]
  simp [nums]
theorem nums_take_len (l : List Int) (hf : Fits l) (k : Nat) : (nums (l.take k)).length ≤ 10 * l.length := by
  have h1 := (nums_length (l.take k) (fun x hx => hf x (List.mem_of_mem_take hx))).1
  have : (l.take k).length ≤ l.length := by rw [List.length_take]; omega
  omega

set_option maxHeartbeats 1600000 in
set_option maxRecDepth 100000 in
theorem numbers_any (A : Option Addr) (cp : Nat) (l : List Int) (w : World) (h : I64In w A l) (hf : Fits l) (h0 : 0 < l.length) (hl : l.length ≤ 1000000) :
    Calls Tryd.prog 24 #[.slice A l.length cp] w fun e w' => ∃ v, e = .returned v ∧ Made w w' v (nums l) := by
  obtain ⟨i0, hi0, hz0, hz1, hz2⟩ := info_parts' info_u8'
  have qL := len_bytes
  have HFt := Lib.hid hf
  obtain ⟨g, o, rfl, hc⟩ := h h0
  have HC := Lib.hid hc
  clear hc h hf
  go_enter Tryd.func24, Tryd.ntmps24
  go_wp2
  go_loopw [3, 5, 8] (fun v _ i wr => ∃ k : Nat, k ≤ l.length ∧ i = .int .i64 k ∧ Hid (wr.ownsRow w.heap.size 5 1 v (nums (l.take k)).length (bts (nums (l.take k)))) ∧ Hid (Fr Nob w wr)) (fun _ _ i _ => l.length - (intOf i).toNat)
  case atStart => exact ⟨0, Nat.zero_le _, rfl, World.ownsRow_nil _ _ _ _, Fr.refl _ _⟩
  case round =>
    obtain ⟨k, hk, rfl, ho, hF⟩ := hrel
    have hnl := nums_take_len l HFt.out k
    by_cases hlt : k < l.length
    · have c0 := HC.out k _ (List.getElem?_eq_getElem hlt)
      have hcl := cell_lt c0
      rw [← hF.out.cell hcl (fun h => h)] at c0
      have hx := HFt.out _ (List.getElem_mem hlt)
      have hnt := nums_take l k hlt
      obtain ⟨x, hxx⟩ : ∃ x, l[k] = x := ⟨_, rfl⟩
      rw [hxx] at c0 hx hnt
      have HNt := Lib.hid hnt
      have HI := Lib.hid (Int_any x wr hx.1 hx.2)
      have hib := intB_length x hx.1 hx.2
      obtain ⟨bs, hbs⟩ : ∃ bs, nums (l.take k) = bs := ⟨_, rfl⟩
      rw [hbs] at ho hnl HNt
      clear hxx hnt hx hbs hcl
      go_wp2_with fail
      refine HI.out.mono ?_
      rintro e w1 ⟨v1, rfl, g1, rfl, hb1, hg1, hg2, hf1⟩
      have hown := own_fr ho.out hf1 (fun _ _ h => h)
      have HF1 := Lib.hid (hF.out.trans hf1)
      have c1 : (bts (intB x)).length = (intB x).length * 1 := by rw [bts_length]; omega
      have c2 : ∀ j u, (bts (intB x))[j]? = some u → w1.cell? ((⟨g1, 0, none⟩ : Addr).add j) = some u := fun j u hu => bytesIn_cells hb1 j u hu
      have hsz := HF1.out.size
      have C1 := Lib.hid c1
      have C2 := Lib.hid c2
      have HO := Lib.hid hown
      clear c1 c2 hb1 hf1 hown ho HI hF c0
      go_wp2_with (at_builtin; go_must (refine wpList_append_own_at _ rfl (.tmp 12) (.tmp 14) 26 rfl w.heap.size 5 i0 (.int .u8 0) 1 1 Tryd.underlying26 hi0 hz0 hz1 hz2 rfl (by decide) u3 bs.length (bts bs) rfl HO.out ⟨g1, 0, none⟩ (intB x).length (intB x).length (bts (intB x)) rfl C1.out C2.out (bts_one _) (by unfold maxLen; omega) (by omega) hsz ?_); intro v7 w7 hown7 hg7 hn7 hat7)
      have HO7 : Hid (w7.ownsRow w.heap.size 5 1 v7 (nums (l.take (k + 1))).length (bts (nums (l.take (k + 1))))) := by rw [HNt.out, List.length_append, bts_append]; exact hown7
      have HF7 : Hid (Fr Nob w w7) := Fr.grown HF1.out hg7 (fun r hr => .inl (HO.out.lt r hr).1)
      clear hown7 hg7 hn7 hat7
      go_wp2
      go_roundw
      case rel => exact ⟨k + 1, by omega, by go_num, HO7, HF7⟩
      case measure => simp [intOf]; omega
    · obtain rfl : k = l.length := by omega
      rw [List.take_length] at ho hnl
      have hpos : 0 < (nums l).length := by
        have := (nums_length l HFt.out).2
        omega
      obtain ⟨g7, cap, rfl, hgb, hgl⟩ := ho.out.form hpos
      have hcap : (nums l).length ≤ cap := by
        rcases ho.out.2 with ⟨e, _⟩ | ⟨_, _, _, e, _, _, h5, _⟩
        · cases e
        · injection e with _ _ e; omega
      have HB : Hid (BytesIn wr (some ⟨g7, 0, none⟩) (nums l)) := bytesIn_own ho.out
      obtain ⟨m, hm⟩ : ∃ m, (nums l).length = m := ⟨_, rfl⟩
      have HM := Lib.hid hm
      rw [hm] at hcap hpos hnl ⊢
      have kL : ((l.length : Nat) : Int) ≤ ((l.length : Nat) : Int) := by omega
      clear hm ho
      go_wp2
      try (rw [qL]; go_wp2)
      go_ret
      exact ⟨.slice (some ⟨g7, 0, none⟩) m m, rfl, g7, by rw [HM.out], HB.out, hgb, hgl, hF.out⟩

set_option maxHeartbeats 800000 in
set_option maxRecDepth 100000 in
theorem Node_any (n : Nd) (w : World) (h : n.Ok) : Calls Tryd.prog 7 #[n.v] w fun e w' => ∃ v, e = .returned v ∧ Made w w' v n.b := by
  have hft : Fits n.l := by
    intro x hx
    simp only [Nd.l, List.mem_cons, List.not_mem_nil, or_false] at hx
    rcases hx with rfl | rfl | rfl | rfl
    · exact ⟨h.i0, h.i1⟩
    · exact ⟨h.x0, h.x1⟩
    · exact ⟨h.y0, h.y1⟩
    · exact ⟨h.f0, h.f1⟩
  have HNm : Hid (∀ W g, Blk W g 2 #[.int .i64 n.id, .int .i64 n.x, .int .i64 n.y, .int .i64 n.f] → Calls Tryd.prog 24 #[.slice (some ⟨g, 0, none⟩) 4 4] W fun e w' => ∃ v, e = .returned v ∧ Made W w' v n.b) := by
    intro W g hb
    refine numbers_any (some ⟨g, 0, none⟩) 4 n.l W (fun _ => ⟨g, 0, rfl, fun j x hx => ?_⟩) hft (by simp [Nd.l]) (by simp [Nd.l])
    rw [Nat.zero_add, hb.cell]
    have hj : j < 4 := (List.getElem?_eq_some_iff.1 hx).1
    have : j = 0 ∨ j = 1 ∨ j = 2 ∨ j = 3 := by omega
    rcases this with rfl | rfl | rfl | rfl <;> (simp [Nd.l] at hx; subst hx; rfl)
  unfold Nd.v
  clear hft h
  obtain ⟨i, x, y, f⟩ := n
  go_enter Tryd.func7, Tryd.ntmps7
  go_wp2_with fail
  have hb : Blk ((w.alloc (.cells #[.int .i64 i, .int .i64 x, .int .i64 y, .int .i64 f] 25)).alloc (.cells #[.int .i64 i, .int .i64 x, .int .i64 y, .int .i64 f] 2)) (w.heap.size + 1) 2 #[.int .i64 i, .int .i64 x, .int .i64 y, .int .i64 f] := by
    have := Blk.new (w.alloc (.cells #[.int .i64 i, .int .i64 x, .int .i64 y, .int .i64 f] 25)) 2 #[.int .i64 i, .int .i64 x, .int .i64 y, .int .i64 f]
    rwa [World.size_alloc] at this
  refine (HNm.out _ _ hb).mono ?_
  rintro e w1 ⟨v1, rfl, g, rfl, hb1, hg1, hg2, hf1⟩
  have hF : Fr Nob w w1 := (((Fr.refl Nob w).alloc _).alloc _).trans hf1
  simp only [World.size_alloc] at hg1
  go_wp2
  go_ret
  exact ⟨_, rfl, g, rfl, hb1, by omega, hg2, hF⟩
end Go.Proofs.YtofabaeadnljbaaDoor
