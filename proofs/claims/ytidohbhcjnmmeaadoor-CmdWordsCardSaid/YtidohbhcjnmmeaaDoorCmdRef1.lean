/-
  The reference's words.
-/
import Derived.Test.YtidohbhcjnmmeaaDoorCmdRef0
namespace Go.Proofs.YtidohbhcjnmmeaaDoor
set_option linter.unusedSimpArgs false
set_option linter.unusedVariables false
open Go.RowKit

/-- The reference's words: what is answered. -/
def WordsRes (l : List UInt8) (w : World) (e : Ending) (w' : World) : Prop := ∃ A N c ok, e = .returned (.tuple #[.slice A N c, .bool ok]) ∧ Fr Nob w w' ∧ match refWords l with
  | some ws => ok = true ∧ N = ws.length ∧ N ≤ c ∧ StrIn w' A ws
  | none => ok = false
/-- Where the loop stands: words done, the word under way, how much of the line is read. -/
def WSt (l : List UInt8) (k : Nat) (done : List (List UInt8)) (cur : List UInt8) : Prop :=
  [] ∉ done ∧ ((k ≤ l.length ∧ cur.length ≤ k ∧ spl l = done ++ (cur ++ (spl (l.drop k)).headD []) :: (spl (l.drop k)).tail) ∨ (k = l.length + 1 ∧ spl l = done ∧ cur = []))
theorem WSt.char {l : List UInt8} {k : Nat} {done : List (List UInt8)} {cur : List UInt8} (h : WSt l k done cur) {c : UInt8} (hc : l[k]? = some c) (h32 : c ≠ 32) : WSt l (k + 1) done (cur ++ [c]) := by
  obtain ⟨hk, rfl⟩ := List.getElem?_eq_some_iff.1 hc
  obtain ⟨h0, ⟨h1, h2, h3⟩ | ⟨h1, _⟩⟩ := h
  · refine ⟨h0, .inl ⟨hk, by simp; omega, ?_⟩⟩
    rw [h3, List.drop_eq_getElem_cons hk, spl, if_neg h32]
    simp
  · omega
theorem WSt.blank {l : List UInt8} {k : Nat} {done : List (List UInt8)} {cur : List UInt8} (h : WSt l k done cur) (hc : l[k]? = some 32) (hne : cur ≠ []) : WSt l (k + 1) (done ++ [cur]) [] := by
  obtain ⟨hk, hc⟩ := List.getElem?_eq_some_iff.1 hc
  obtain ⟨h0, ⟨h1, h2, h3⟩ | ⟨h1, _⟩⟩ := h
  · refine ⟨by simp [h0, Ne.symm hne], .inl ⟨hk, by simp, ?_⟩⟩
    rw [h3, List.drop_eq_getElem_cons hk, hc, spl, if_pos rfl]
    obtain ⟨a, s, e⟩ := spl_cons (l.drop (k + 1))
    rw [e]
    simp
  · omega
theorem WSt.last {l : List UInt8} {k : Nat} {done : List (List UInt8)} {cur : List UInt8} (h : WSt l k done cur) (hk : k = l.length) (hne : cur ≠ []) : WSt l (k + 1) (done ++ [cur]) [] := by
  subst hk
  obtain ⟨h0, ⟨h1, h2, h3⟩ | ⟨h1, _⟩⟩ := h
  · refine ⟨by simp [h0, Ne.symm hne], .inr ⟨rfl, ?_, rfl⟩⟩
    rw [h3, List.drop_length]
    simp [spl]
  · omega
theorem WSt.no {l : List UInt8} {k : Nat} {done : List (List UInt8)} (h : WSt l k done []) (hc : l[k]? = some 32 ∨ k = l.length) : refWords l = none := by
  unfold refWords
  rw [if_pos]
  obtain ⟨h0, ⟨h1, h2, h3⟩ | ⟨h1, _⟩⟩ := h
  · rw [h3]
    rcases hc with hc | hk
    · obtain ⟨hk, hc⟩ := List.getElem?_eq_some_iff.1 hc
      rw [List.drop_eq_getElem_cons hk, hc, spl, if_pos rfl]
      simp
    · subst hk; simp [spl]
  · rcases hc with hc | hk
    · obtain ⟨hk, hc⟩ := List.getElem?_eq_some_iff.1 hc
      omega
    · omega
theorem WSt.done {l : List UInt8} {k : Nat} {ws : List (List UInt8)} {cur : List UInt8} (h : WSt l k ws cur) (hk : l.length < k) : refWords l = some ws := by
  obtain ⟨h0, ⟨h1, _⟩ | ⟨_, h2, _⟩⟩ := h
  · omega
  · unfold refWords; rw [h2, if_neg h0]
theorem WSt.le {l : List UInt8} {k : Nat} {ws : List (List UInt8)} {cur : List UInt8} (h : WSt l k ws cur) : k ≤ l.length + 1 ∧ cur.length ≤ l.length ∧ ws.length ≤ l.length + 1 := by
  have hl := spl_len l
  obtain ⟨h0, ⟨h1, h2, h3⟩ | ⟨h1, h2, h3⟩⟩ := h
  · rw [h3] at hl; simp at hl; omega
  · rw [h2] at hl; subst h3; simp; omega

set_option maxHeartbeats 1600000 in
set_option maxRecDepth 100000 in
theorem RWords_any (l : List UInt8) (w : World) (hs : l.length ≤ 100000) : Calls Tryd.prog 22 #[.string (tx l)] w fun e w' => WordsRes l w e w' := by
  obtain ⟨i0, hi0, hz0, hz1, hz2⟩ := info_parts' info_str'
  have qL := len_strs
  obtain ⟨N, hN⟩ : ∃ N, l.length = N := ⟨_, rfl⟩
  have HN := Lib.hid hN
  have hsl : (tx l).size = N := hN
  rw [hN] at hs
  clear hN
  go_enter Tryd.func22, Tryd.ntmps22
  go_wp2
  go_loopw [4, 5, 6] (fun v c i wr => ∃ (k : Nat) (ws : List (List UInt8)) (cur : List UInt8), i = .int .i64 k ∧ c = .string (tx cur) ∧ Hid (WSt l k ws cur) ∧ Hid (wr.ownsRow w.heap.size 9 1 v ws.length (strs ws)) ∧ Hid (Fr Nob w wr)) (fun _ _ i _ => N + 1 - (intOf i).toNat)
  case atStart => exact ⟨0, [], [], rfl, rfl, ⟨by simp, .inl ⟨Nat.zero_le _, Nat.le_refl _, by obtain ⟨a, s, e⟩ := spl_cons l; simp [e]⟩⟩, World.ownsRow_nil _ _ _ _, Fr.refl _ _⟩
  case round =>
    obtain ⟨k, ws, cur, rfl, rfl, hst, ho, hF⟩ := hrel
    have hle := hst.out.le
    rw [HN.out] at hle
    obtain ⟨hk1, hc1, hw1⟩ := hle
    have hcs : (tx cur).size = cur.length := rfl
    have ki : (0 : Int) ≤ (k : Int) := by omega
    by_cases hlt : k < N
    · have hkl : k < l.length := by rw [HN.out]; exact hlt
      obtain ⟨x, hx⟩ : ∃ x, l[k] = x := ⟨_, rfl⟩
      have hX : ∀ h, (tx l)[k]'h = x := fun _ => hx
      have hx' : l[k]? = some x := by rw [List.getElem?_eq_getElem hkl, hx]
      have hex := tx_one l k x hx'
      have HX := Lib.hid hx'
      clear hx hx'
      by_cases h32 : x = 32
      · subst h32
        have hem : (tx cur).toList.isEmpty = decide (cur = []) := by rw [Lib.toList_data]; cases cur <;> rfl
        by_cases hc0 : cur = []
        · have HNo : Hid (refWords l = none) := (hc0 ▸ hst.out : WSt l k ws []).no (.inl HX.out)
          have hem' : (tx cur).toList.isEmpty = true := by rw [hem]; exact decide_eq_true hc0
          clear hem hc0
          go_wp2
          go_ret2
          exact ⟨none, 0, 0, false, rfl, hF.out, by rw [HNo.out]⟩
        · have hem' : (tx cur).toList.isEmpty = false := by rw [hem]; exact decide_eq_false hc0
          have HNext : Hid (WSt l (k + 1) (ws ++ [cur]) []) := hst.out.blank HX.out hc0
          have HO : Hid ((wr.alloc (.cells #[.string (tx cur)] 9)).ownsRow w.heap.size 9 1 u4 ws.length (strs ws)) := own_fr ho.out ((Fr.refl Nob wr).alloc _) (fun _ _ h => h)
          have HNw := Lib.hid (cell_one_new wr (.string (tx cur)) 9)
          have HF2 : Hid (Fr Nob w (wr.alloc (.cells #[.string (tx cur)] 9))) := hF.out.alloc _
          have hb04 : w.heap.size ≤ (wr.alloc (.cells #[.string (tx cur)] 9)).heap.size := HF2.out.size
          obtain ⟨m, hm⟩ : ∃ m, ws.length = m := ⟨_, rfl⟩
          rw [hm] at HO hw1
          have HM := Lib.hid hm
          clear hem hc0 ho hst hm
          go_wp2_with (at_builtin; go_must (refine wpList_append_own_at _ rfl (.tmp 32) (.tmp 34) 47 rfl w.heap.size 9 i0 (.string ⟨#[]⟩) 1 16 Tryd.underlying47 hi0 hz0 hz1 hz2 rfl (by decide) u4 m (strs ws) rfl HO.out ⟨wr.heap.size, 0, none⟩ 1 1 [.string (tx cur)] rfl rfl HNw.out (by simp [Value.oneCell']) (by unfold maxLen; omega) (by omega) hb04 ?_); intro v7 w7 hown7 hg7 hn7 hat7)
          have HO7 : Hid (w7.ownsRow w.heap.size 9 1 v7 (ws ++ [cur]).length (strs (ws ++ [cur]))) := by rw [strs_append, List.length_append, HM.out]; exact hown7
          have HF7 : Hid (Fr Nob w w7) := Fr.grown HF2.out hg7 (fun r hr => .inl (HO.out.lt r hr).1)
          clear hown7 hg7 hn7 hat7
          go_wp2
          go_roundw
          case rel => exact ⟨k + 1, _, [], by go_num, rfl, HNext, HO7, HF7⟩
          case measure => simp [intOf]; omega
      · have hne : ¬ (x.toNat : Int) = 32 := fun e => h32 (UInt8.toNat_inj.1 (show x.toNat = 32 by omega))
        have hxt := x.toNat_lt
        have HNext : Hid (WSt l (k + 1) ws (cur ++ [x])) := hst.out.char HX.out h32
        have ht := tx_append cur [x]
        have hs1 : (tx [x]).size = 1 := rfl
        clear h32
        go_wp2
        go_roundw
        case rel => exact ⟨k + 1, ws, cur ++ [x], by go_num, rfl, HNext, ho, hF⟩
        case measure => simp [intOf]; omega
    · have hem : (tx cur).toList.isEmpty = decide (cur = []) := by rw [Lib.toList_data]; cases cur <;> rfl
      by_cases hkN : k = N
      · have HkN : Hid (k = l.length) := by show k = l.length; rw [HN.out]; exact hkN
        have k0 : ((k : Int)) ≤ (N : Int) := by omega
        have k1 : ¬ (k : Int) < (N : Int) := by omega
        clear hkN
        by_cases hc0 : cur = []
        · have HNo : Hid (refWords l = none) := (hc0 ▸ hst.out : WSt l k ws []).no (.inr HkN.out)
          have hem' : (tx cur).toList.isEmpty = true := by rw [hem]; exact decide_eq_true hc0
          clear hem hc0
          go_wp2
          go_ret2
          exact ⟨none, 0, 0, false, rfl, hF.out, by rw [HNo.out]⟩
        · have hem' : (tx cur).toList.isEmpty = false := by rw [hem]; exact decide_eq_false hc0
          have HNext : Hid (WSt l (k + 1) (ws ++ [cur]) []) := hst.out.last HkN.out hc0
          have HO : Hid ((wr.alloc (.cells #[.string (tx cur)] 9)).ownsRow w.heap.size 9 1 u4 ws.length (strs ws)) := own_fr ho.out ((Fr.refl Nob wr).alloc _) (fun _ _ h => h)
          have HNw := Lib.hid (cell_one_new wr (.string (tx cur)) 9)
          have HF2 : Hid (Fr Nob w (wr.alloc (.cells #[.string (tx cur)] 9))) := hF.out.alloc _
          have hb04 : w.heap.size ≤ (wr.alloc (.cells #[.string (tx cur)] 9)).heap.size := HF2.out.size
          obtain ⟨m, hm⟩ : ∃ m, ws.length = m := ⟨_, rfl⟩
          rw [hm] at HO hw1
          have HM := Lib.hid hm
          clear hem hc0 ho hst hm
          go_wp2_with (at_builtin; go_must (refine wpList_append_own_at _ rfl (.tmp 32) (.tmp 34) 47 rfl w.heap.size 9 i0 (.string ⟨#[]⟩) 1 16 Tryd.underlying47 hi0 hz0 hz1 hz2 rfl (by decide) u4 m (strs ws) rfl HO.out ⟨wr.heap.size, 0, none⟩ 1 1 [.string (tx cur)] rfl rfl HNw.out (by simp [Value.oneCell']) (by unfold maxLen; omega) (by omega) hb04 ?_); intro v7 w7 hown7 hg7 hn7 hat7)
          have HO7 : Hid (w7.ownsRow w.heap.size 9 1 v7 (ws ++ [cur]).length (strs (ws ++ [cur]))) := by rw [strs_append, List.length_append, HM.out]; exact hown7
          have HF7 : Hid (Fr Nob w w7) := Fr.grown HF2.out hg7 (fun r hr => .inl (HO.out.lt r hr).1)
          clear hown7 hg7 hn7 hat7
          go_wp2
          go_roundw
          case rel => exact ⟨k + 1, _, [], by go_num, rfl, HNext, HO7, HF7⟩
          case measure => simp [intOf]; omega
      · have HDn : Hid (refWords l = some ws) := hst.out.done (by rw [HN.out]; omega)
        have k0 : ¬ ((k : Int)) ≤ (N : Int) := by omega
        obtain ⟨B, c, rfl, hnc, hI, _⟩ := strIn_row ho.out rfl
        have HI := Lib.hid hI
        obtain ⟨m, hm⟩ : ∃ m, ws.length = m := ⟨_, rfl⟩
        have HM := Lib.hid hm
        rw [hm] at hnc ⊢
        clear hem hI hst hm hkN
        go_wp2
        go_ret2
        exact ⟨B, m, c, true, rfl, hF.out, by rw [HDn.out]; exact ⟨rfl, HM.out.symm, hnc, HI.out⟩⟩
end Go.Proofs.YtidohbhcjnmmeaaDoor
