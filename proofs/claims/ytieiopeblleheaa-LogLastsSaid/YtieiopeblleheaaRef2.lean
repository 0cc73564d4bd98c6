/-
  What Write and Read do on the document's disk.
-/
import Derived.Test.YtieiopeblleheaaRef1
namespace Go.Proofs.Ytieiopeblleheaa
set_option linter.unusedSimpArgs false
set_option linter.unusedVariables false
open Go.RowKit

theorem w64_in {x : Int} (h0 : -9223372036854775808 ≤ x) (h1 : x ≤ 9223372036854775807) : wrap64 x = x := by
  unfold wrap64; omega
theorem info_One : (Try.prog.info? 89).map (fun i => (i.zero, i.size, i.bytes)) = some (some (.agg #[.int .i64 0, .string ⟨#[]⟩]), 2, 24) := by kernel_rfl
theorem oneCells_snoc (ws : List (Nat × List UInt8)) (x : Nat × List UInt8) : oneCells (ws ++ [x]) = oneCells ws ++ [.int .i64 x.1, strv x.2] := by simp [oneCells]
theorem oneCells_get (ws : List (Nat × List UInt8)) (k : Nat) (h : k < ws.length) : (oneCells ws)[k * 2]? = some (.int .i64 ws[k].1) ∧ (oneCells ws)[k * 2 + 1]? = some (strv ws[k].2) := by
  induction ws generalizing k with
  | nil => simp at h
  | cons x ws ih =>
    cases k with
    | zero => simp [oneCells]
    | succ k =>
      have hk : k < ws.length := by simpa using h
      have := ih k hk
      simp only [oneCells, List.flatMap_cons, List.cons_append, List.nil_append] at this ⊢
      rw [show (k + 1) * 2 = k * 2 + 1 + 1 from by omega]
      simpa using this

section
variable {R : Nat → Prop} {w : World} {q : Nat} {S : DS} {s1 s2 : Value}

theorem ref_write_shape (h : RefAt R w q s1 s2 S) (i : Nat) (b : List UInt8) (hi : i < S.last.length) (v' : Value) (w2 w3 : World)
    (hg : (w.alloc (.cells #[.int .i64 i, strv b] 89)).grownBy w2 s2.ownBlock) (hown : w2.ownsRow 0 89 2 v' (S.waits.length + 1) (oneCells S.waits ++ [.int .i64 i, strv b]))
    (hat : v'.ownBlock = s2.ownBlock ∨ v'.ownBlock = some (w.heap.size + 1)) (hw : w3 = (w2.setCell ⟨q, 1, none⟩ v').setCell ⟨q, 2, none⟩ (.int .i64 (wrap64 (S.writes + 1)))) :
    RefAt (Ext R w w3) w3 q s1 v' (S.wr0 i b) ∧ Fr R w w3 := by
  have f2 : Fr (fun k => some k = s2.ownBlock) w w2 := ((Fr.refl _ w).alloc _).grown hg (fun k hk => .inr hk.symm)
  have f3 : Fr (fun k => k = q ∨ some k = s2.ownBlock) w w3 := by
    subst hw
    exact ((f2.mono (fun k _ hk => .inr hk)).setCell (p := ⟨q, 1, none⟩) (.inr (.inl rfl)) _).setCell (p := ⟨q, 2, none⟩) (.inr (.inl rfl)) _
  have fR : Fr R w w3 := f3.mono (fun k _ hk => by
    rcases hk with rfl | hk
    · exact h.rq
    · exact h.r2 k hk.symm)
  have hsz : w2.heap.size = w3.heap.size := by subst hw; simp [World.setCell]
  have hz1 : w.heap.size + 1 ≤ w2.heap.size := by have := hg.size; simpa using this
  have b2 := (h.blk.alloc (.cells #[.int .i64 i, strv b] 89)).grown hg (Blk.own_ne h.blk h.own2 (by decide))
  refine ⟨?_, fR⟩
  exact {
    blk := by
      subst hw
      exact (b2.set_ 1 v').set_ 2 _
    own1 := by
      refine own_fr h.own1 f3 (fun g hg' he => ?_)
      rcases he with he | he
      · subst he; exact Blk.own_ne h.blk h.own1 (by decide) (by rw [hg'])
      · obtain ⟨cs, hcs⟩ := own_blk h.own2 he.symm
        exact Blk.own_ne hcs h.own1 (by decide) (by rw [hg'])
    own2 := by
      show w3.ownsRow 0 89 2 v' (S.wr0 i b).waits.length (oneCells (S.wr0 i b).waits)
      simp only [DS.wr0]
      rw [oneCells_snoc, List.length_append]
      subst hw
      exact own_set (own_set hown b2 (by decide)) (b2.set_ 1 v') (by decide)
    rq := .inl h.rq
    r1 := fun g hg => .inl (h.r1 g hg)
    r2 := fun g hg => by
      rcases hat with e | e
      · exact .inl (h.r2 g (by rw [← e]; exact hg))
      · have hk' := own_lt hown hg
        rw [e] at hg
        injection hg with hg
        exact .inr ⟨by omega, by omega⟩
    lt := fun b hb => by
      rcases hb with hb | hb
      · have := h.lt b hb; have := f3.size; omega
      · exact hb.2
    pos := h.pos
    small := h.small
    wl := by
      intro x hx
      simp only [DS.wr0, List.mem_append, List.mem_singleton] at hx
      rcases hx with hx | rfl
      · exact h.wl x hx
      · exact hi
    fuse0 := h.fuse0
    fuse1 := h.fuse1 }

theorem RefWrite_bad (i : Int) (b : List UInt8) (h : RefOk R w q S) (hb : i < 0 ∨ (S.last.length : Int) ≤ i ∨ b.length ≠ 64) :
    Calls Try.prog 25 #[.pointer (some ⟨q, 0, none⟩), .int .i64 i, .string ⟨b.toArray⟩] w fun e w' => e = .returned (.int .i64 1) ∧ w = w' := by
  obtain ⟨s1, s2, h⟩ := h
  obtain ⟨h0, h1, h2, h3, h4⟩ := h.cells
  obtain ⟨g1, cap1, rfl, hg1⟩ := h.form1
  clear h h1
  rcases (by omega : i < 0 ∨ (¬ i < 0 ∧ (S.last.length : Int) ≤ i) ∨ (¬ i < 0 ∧ ¬ (S.last.length : Int) ≤ i ∧ b.length ≠ 64)) with hi | ⟨hi, hi2⟩ | ⟨hi, hi2, hl⟩
  · clear hb
    go_enter Try.func25, Try.ntmps25
    go_wp2
    go_ret
    exact ⟨rfl, rfl⟩
  · clear hb
    go_enter Try.func25, Try.ntmps25
    go_wp2
    go_ret
    exact ⟨rfl, rfl⟩
  · clear hb
    have hl1 : ((b.length : Int) != 64) = true := by simp; omega
    have hl2 : ¬ (b.length : Int) = 64 := by omega
    go_enter Try.func25, Try.ntmps25
    go_wp2
    go_ret
    exact ⟨rfl, rfl⟩

theorem RefWrite_dead (i : Int) (b : List UInt8) (h : RefOk R w q S) (hi : 0 ≤ i) (hi2 : i < S.last.length) (hl : b.length = 64) (hd : S.dead = true) :
    Calls Try.prog 25 #[.pointer (some ⟨q, 0, none⟩), .int .i64 i, .string ⟨b.toArray⟩] w fun e w' => e = .returned (.int .i64 50) ∧ w = w' := by
  obtain ⟨s1, s2, h⟩ := h
  obtain ⟨h0, h1, h2, h3, h4⟩ := h.cells
  obtain ⟨g1, cap1, rfl, hg1⟩ := h.form1
  rw [hd] at h4
  clear h h1 hd
  go_enter Try.func25, Try.ntmps25
  go_wp2
  go_ret
  exact ⟨rfl, rfl⟩

set_option maxHeartbeats 800000 in
set_option maxRecDepth 100000 in
theorem RefWrite_good (i : Nat) (b : List UInt8) (h : RefOk R w q S) (hi : i < S.last.length) (hl : b.length = 64) (hd : S.dead = false) (hwl : S.waits.length < 4000000000) :
    Calls Try.prog 25 #[.pointer (some ⟨q, 0, none⟩), .int .i64 i, .string ⟨b.toArray⟩] w fun e w' => e = .returned (.int .i64 0) ∧ RefOk (Ext R w w') w' q (S.wr i b) ∧ Fr R w w' := by
  obtain ⟨i0, hi0, hz0, hz1, hz2⟩ := info_parts info_One
  obtain ⟨s1, s2, h⟩ := h
  obtain ⟨h0, h1, h2, h3, h4⟩ := h.cells
  obtain ⟨g1, cap1, rfl, hg1⟩ := h.form1
  rw [hd] at h4
  have H := Lib.hid h
  have Hd := Lib.hid hd
  clear h hd
  have hownW : Hid ((w.alloc (.cells #[.int .i64 i, .string ⟨b.toArray⟩] 89)).ownsRow 0 89 2 s2 S.waits.length (oneCells S.waits)) := H.out.own2.alloc _
  have c2 : Hid (∀ j u, [Value.int .i64 i, .string ⟨b.toArray⟩][j]? = some u → (w.alloc (.cells #[.int .i64 i, .string ⟨b.toArray⟩] 89)).cell? ((⟨w.heap.size, 0, none⟩ : Addr).add j) = some u) := by
    intro j u hu
    exact World.news_of_block (Blk.new w 89 #[.int .i64 i, .string ⟨b.toArray⟩]) j u (by simpa using hu)
  have c3 : Hid (S.waits.length + 1 ≤ maxLen) := by show _ ≤ _; unfold maxLen; omega
  have c4 : Hid ((S.waits.length + 1) * 24 ≤ 140737488355328) := by show _ ≤ _; omega
  obtain ⟨A2, cc2, hs2⟩ := H.out.form2
  subst hs2
  go_enter Try.func25, Try.ntmps25
  go_wp2_with (at_builtin; go_must (refine wpList_append_own_at _ rfl (.tmp 31) (.tmp 35) 85 rfl 0 89 i0 (.agg #[.int .i64 0, .string ⟨#[]⟩]) 2 24 Try.underlying85 hi0 hz0 hz1 hz2 rfl (by decide) (.slice A2 S.waits.length cc2) S.waits.length (oneCells S.waits) rfl hownW.out ⟨w.heap.size, 0, none⟩ 1 1 [.int .i64 i, .string ⟨b.toArray⟩] rfl rfl c2.out (by simp [Value.oneCell']) c3.out c4.out (Nat.zero_le _) ?_); intro v' w2 hown' hg2 hn0 hat; obtain ⟨g2, cap2, rfl, hg2lo, hg2lt⟩ := hown'.form (by omega); have HG := Lib.hid hg2; have HO := Lib.hid hown'; have HA := Lib.hid hat; clear hn0 hg2 hown' hat; have hb2 := (H.out.blk.alloc (.cells #[.int .i64 i, .string ⟨b.toArray⟩] 89)).grown HG.out (Blk.own_ne H.out.blk H.out.own2 (by decide)); have k1 := hb2.cell 1; have k2 := hb2.cell 2; have q1 := hb2.frozen 1; have q2 := hb2.frozen 2; simp only [List.getElem?_toArray, List.getElem?_cons_zero, List.getElem?_cons_succ] at k1 k2; clear hb2)
  obtain ⟨hD, hF⟩ := ref_write_shape H.out i b hi _ w2 _ HG.out HO.out (by simpa using HA.out) rfl
  have HF := Lib.hid hF
  clear hF
  refine (RefBurn_at hD Hd.out).mono ?_
  clear hD
  rintro e w5 ⟨rfl, hD5, hf5⟩
  have HD5 := Lib.hid hD5
  have Hf5 := Lib.hid hf5
  clear hD5 hf5
  go_wp2
  go_ret
  have hfin : Fr R w w5 := HF.out.step Hf5.out (fun b _ e => by subst e; exact H.out.rq)
  refine ⟨rfl, ⟨_, _, { HD5.out with rq := .inl H.out.rq, r1 := fun g hg => .inl (H.out.r1 g hg), r2 := fun g hg => ?_, lt := ?_ }⟩, hfin⟩
  · have hs := Hf5.out.size
    rcases HD5.out.r2 g hg with hb | ⟨hb, hb2⟩
    · exact .inl hb
    · exact .inr ⟨hb, by omega⟩
  · rintro b (hb | hb)
    · have := H.out.lt b hb; have := hfin.size; omega
    · exact hb.2

theorem RefRead_bad (i : Int) (h : RefOk R w q S) (hb : i < 0 ∨ (S.last.length : Int) ≤ i) :
    Calls Try.prog 26 #[.pointer (some ⟨q, 0, none⟩), .int .i64 i] w fun e w' => e = .returned (.tuple #[.string ⟨#[]⟩, .int .i64 1]) ∧ w = w' := by
  obtain ⟨s1, s2, h⟩ := h
  obtain ⟨h0, h1, h2, h3, h4⟩ := h.cells
  obtain ⟨g1, cap1, rfl, hg1⟩ := h.form1
  clear h h1
  rcases (by omega : i < 0 ∨ (¬ i < 0 ∧ (S.last.length : Int) ≤ i)) with hi | ⟨hi, hi2⟩
  all_goals
    clear hb
    go_enter Try.func26, Try.ntmps26
    go_wp2
    go_ret2
    exact ⟨rfl, rfl⟩
theorem RefRead_dead (i : Int) (h : RefOk R w q S) (hi : 0 ≤ i) (hi2 : i < S.last.length) (hd : S.dead = true) :
    Calls Try.prog 26 #[.pointer (some ⟨q, 0, none⟩), .int .i64 i] w fun e w' => e = .returned (.tuple #[.string ⟨#[]⟩, .int .i64 50]) ∧ w = w' := by
  obtain ⟨s1, s2, h⟩ := h
  obtain ⟨h0, h1, h2, h3, h4⟩ := h.cells
  obtain ⟨g1, cap1, rfl, hg1⟩ := h.form1
  rw [hd] at h4
  clear h h1 hd
  go_enter Try.func26, Try.ntmps26
  go_wp2
  go_ret2
  exact ⟨rfl, rfl⟩

set_option maxHeartbeats 400000 in
set_option maxRecDepth 100000 in
theorem RefRead_good (i : Nat) (s : List UInt8) (h : RefOk R w q S) (hd : S.dead = false) (hg : S.now = setAll S.last S.waits) (hs : S.now[i]? = some s) (hwl : S.waits.length < 4000000000) :
    Calls Try.prog 26 #[.pointer (some ⟨q, 0, none⟩), .int .i64 i] w fun e w' => e = .returned (.tuple #[.string ⟨s.toArray⟩, .int .i64 0]) ∧ w = w' := by
  have hi : i < S.last.length := by
    have := (List.getElem?_eq_some_iff.1 hs).1
    rwa [hg, setAll_length] at this
  obtain ⟨s1, s2, h⟩ := h
  obtain ⟨h0, h1, h2, h3, h4⟩ := h.cells
  obtain ⟨g1, cap1, rfl, hg1⟩ := h.form1
  obtain ⟨A2, cc2, hs2⟩ := h.form2
  subst hs2
  rw [hd] at h4
  have hqz := h.blk.lt
  have H := Lib.hid h
  have HN : Hid ((setAll S.last (S.waits.take S.waits.length))[i]? = some s) := by
    show _ = _
    rw [List.take_length, ← hg]; exact hs
  clear h hd hs hg
  go_enter Try.func26, Try.ntmps26
  go_wp2
  go_loopw [6] (fun v wr => ∃ n : Nat, n ≤ S.waits.length ∧ v = .int .i64 ((n : Int) - 1) ∧ wr = w ∧ Hid ((setAll S.last (S.waits.take n))[i]? = some s)) (fun v _ => (intOf v + 1).toNat)
  case atStart => exact ⟨S.waits.length, Nat.le_refl _, rfl, by trivial, HN⟩
  case round =>
    clear HN
    obtain ⟨n, hn, rfl, rfl, hinv⟩ := hrel
    rcases n with _ | m
    · have c0 : wr.cell? ⟨g1, i, none⟩ = some (strv s) := by
        have := H.out.own1.cellAt i (by omega)
        rw [this]
        have h2 := hinv.out
        simp only [List.take_zero, setAll, List.foldl_nil] at h2
        simp [strCells, h2]
      unfold strv at c0
      rw [show (((0 : Nat) : Int) - 1) = -1 from rfl]
      go_wp2
      go_ret2
      exact ⟨rfl, rfl⟩
    · rw [show (((m + 1 : Nat) : Int) - 1) = (m : Int) from by omega]
      have hm : m < S.waits.length := by omega
      obtain ⟨g2, cap2, e, _, hg2⟩ := H.out.own2.form (by omega)
      injection e with e1 e2 e3
      subst e1 e3
      clear e2
      have hx := oneCells_get S.waits m hm
      have c0 := H.out.own2.cellAt (m * 2) (by omega)
      have c1 := H.out.own2.cellAt (m * 2 + 1) (by omega)
      rw [hx.1] at c0
      rw [hx.2] at c1
      have hk := setAll_take S.last S.waits m hm
      have hinv' := hinv.out
      rw [hk, List.getElem?_set] at hinv'
      clear hx hk hinv
      generalize S.waits[m] = x at *
      obtain ⟨xi, xs⟩ := x
      dsimp only at *
      by_cases he : xi = i
      · subst he
        rw [if_pos rfl, if_pos (by rw [setAll_length]; exact hi)] at hinv'
        injection hinv' with hinv'
        subst hinv'
        unfold strv at c1
        go_wp2
        go_ret2
        exact ⟨rfl, rfl⟩
      · rw [if_neg he] at hinv'
        have HI := Lib.hid hinv'
        clear hinv'
        have hb : ((xi : Int) == (i : Int)) = false := by simp; omega
        clear he
        go_wp2
        go_roundw
        case rel => exact ⟨m, by omega, rfl, by trivial, HI⟩
        case measure => simp [intOf] <;> omega
end
end Go.Proofs.Ytieiopeblleheaa
