/-
  What Flush and Crash do on the document's disk.
-/
import Derived.Test.YtieiopeblleheaaRef2
namespace Go.Proofs.Ytieiopeblleheaa
set_option linter.unusedSimpArgs false
set_option linter.unusedVariables false
open Go.RowKit

section
variable {R : Nat → Prop} {w : World} {q : Nat} {S : DS} {s1 s2 : Value}

theorem ref_flush_shape (h : RefAt R w q s1 s2 S) (xs : List (Nat × List UInt8)) (w2 w3 : World) (hf : Fr (fun k => some k = s1.ownBlock) w w2) (hown : w2.ownsRow 0 9 1 s1 S.last.length (strCells (setAll S.last xs)))
    (W F : Int) (D : Bool) (hF0 : -1 ≤ F) (hF1 : F ≤ 9223372036854775807) (N : List (List UInt8)) (hf3 : Fr (fun k => k = q) w2 w3) (hb : Blk w3 q 87 #[s1, .slice none 0 0, .int .i64 W, .int .i64 F, .bool D]) :
    RefAt R w3 q s1 (.slice none 0 0) { now := N, last := setAll S.last xs, waits := [], writes := W, fuse := F, dead := D } ∧ Fr R w w3 := by
  have hb2 := h.blk.fr hf (Blk.own_ne h.blk h.own1 (by decide))
  refine ⟨?_, (hf.mono (fun k _ hk => h.r1 k hk.symm)).step hf3 (fun k _ hk => by subst hk; exact h.rq)⟩
  exact {
    blk := hb
    own1 := by
      show w3.ownsRow 0 9 1 s1 (setAll S.last xs).length _
      rw [setAll_length]
      exact own_fr hown hf3 (fun g hg he => by subst he; exact Blk.own_ne hb2 hown (by decide) (by rw [hg]))
    own2 := World.ownsRow_nil _ _ _ _
    rq := h.rq
    r1 := h.r1
    r2 := by simp [Value.ownBlock]
    lt := fun b hb => by have := h.lt b hb; have := hf.size; have := hf3.size; omega
    pos := by show 0 < (setAll S.last xs).length; rw [setAll_length]; exact h.pos
    small := by show (setAll S.last xs).length ≤ _; rw [setAll_length]; exact h.small
    wl := by intro x hx; cases hx
    fuse0 := hF0
    fuse1 := hF1 }

theorem RefFlush_dead (h : RefOk R w q S) (hd : S.dead = true) :
    Calls Try.prog 27 #[.pointer (some ⟨q, 0, none⟩)] w fun e w' => e = .returned (.int .i64 50) ∧ w = w' := by
  obtain ⟨s1, s2, h⟩ := h
  obtain ⟨h0, h1, h2, h3, h4⟩ := h.cells
  rw [hd] at h4
  clear h h0 h1 hd
  go_enter Try.func27, Try.ntmps27
  go_wp2
  go_ret
  exact ⟨rfl, rfl⟩

theorem strCells_set (L : List (List UInt8)) (i : Nat) (s : List UInt8) : strCells (L.set i s) = (strCells L).set i (strv s) := by simp [strCells, List.map_set]

set_option maxHeartbeats 800000 in
set_option maxRecDepth 100000 in
theorem RefFlush_good (h : RefOk R w q S) (hd : S.dead = false) (hwl : S.waits.length < 4000000000) :
    Calls Try.prog 27 #[.pointer (some ⟨q, 0, none⟩)] w fun e w' => e = .returned (.int .i64 0) ∧ RefOk R w' q S.flush ∧ Fr R w w' := by
  obtain ⟨s1, s2, h⟩ := h
  obtain ⟨h0, h1, h2, h3, h4⟩ := h.cells
  obtain ⟨g1, cap1, rfl, hg1⟩ := h.form1
  obtain ⟨A2, cc2, hs2⟩ := h.form2
  subst hs2
  rw [hd] at h4
  have hqz := h.blk.lt
  have H := Lib.hid h
  have Hd := Lib.hid hd
  clear h hd
  go_enter Try.func27, Try.ntmps27
  go_wp2
  go_loopw [3] (fun v wr => ∃ k : Nat, k ≤ S.waits.length ∧ v = .int .i64 k ∧ Hid (Fr (fun b => b = g1) w wr) ∧ Hid (wr.ownsRow 0 9 1 (.slice (some ⟨g1, 0, none⟩) S.last.length cap1) S.last.length (strCells (setAll S.last (S.waits.take k))))) (fun v _ => S.waits.length - (intOf v).toNat)
  case atStart => exact ⟨0, by omega, rfl, Fr.refl _ _, by show World.ownsRow _ _ _ _ _ _ _; simpa [setAll] using H.out.own1⟩
  case round =>
    obtain ⟨k, hk, rfl, hf, hb⟩ := hrel
    have hqg : ¬ q = g1 := fun e => Blk.own_ne H.out.blk H.out.own1 (by decide) (by subst e; rfl)
    have hbq := H.out.blk.fr hf.out hqg
    have d0 : wr.cell? ⟨q, 0, none⟩ = some (.slice (some ⟨g1, 0, none⟩) S.last.length cap1) := hbq.cell 0
    have d1 : wr.cell? ⟨q, 1, none⟩ = some (.slice A2 S.waits.length cc2) := hbq.cell 1
    have fq := hbq.frozen 1
    have hqr := hbq.lt
    have HBq := Lib.hid hbq
    clear hbq h0 h1 h2 h3 h4
    by_cases hlt : k < S.waits.length
    · obtain ⟨g2, cap2, e, _, hg2⟩ := H.out.own2.form (by omega)
      injection e with e1 e2 e3
      subst e1 e3
      clear e2
      have hx := oneCells_get S.waits k hlt
      have hxn := H.out.wl _ (List.getElem_mem hlt)
      have hg21 : ¬ g2 = g1 := fun e => by
        obtain ⟨cs, hcs⟩ := own_blk H.out.own2 (g := g2) rfl
        exact Blk.own_ne hcs H.out.own1 (by decide) (by subst e; rfl)
      have hownr := own_fr H.out.own2 hf.out (fun k hk e => hg21 (by subst e; simpa [Value.ownBlock] using hk))
      have c0 := hownr.cellAt (k * 2) (by omega)
      have c1 := hownr.cellAt (k * 2 + 1) (by omega)
      rw [hx.1] at c0
      rw [hx.2] at c1
      have hk5 := setAll_take S.last S.waits k hlt
      have HK := Lib.hid hk5
      clear hx hownr hk5
      generalize S.waits[k] = x at *
      obtain ⟨xi, xs⟩ := x
      dsimp only at *
      have cl := hb.out.cellAt xi (by omega)
      rw [show (strCells (setAll S.last (S.waits.take k)))[xi]? = some (strv ((setAll S.last (S.waits.take k))[xi]'(by rw [setAll_length]; exact hxn))) from by simp [strCells, hxn, setAll_length]] at cl
      have fl := hb.out.frozenAt xi
      have hgl := (own_lt hb.out (g := g1) rfl)
      have HS := Lib.hid (hb.out.stored xi (strv xs))
      unfold strv at c1 cl
      generalize (setAll S.last (S.waits.take k))[xi]'(by rw [setAll_length]; exact hxn) = old at *
      go_wp2
      go_region
      go_wp2
      go_roundw
      case rel =>
        refine ⟨k + 1, by omega, by go_num, (hf.out.setCell (p := ⟨g1, xi, none⟩) (.inr rfl) _).drew, ?_⟩
        have h2 := HS.out.1
        rw [← strCells_set, ← HK.out] at h2
        exact own_fr h2 (Fr.refl Nob _).drew (fun _ _ h => h)
      case measure => simp [intOf]; omega
    · obtain rfl : k = S.waits.length := by omega
      have hb' := hb.out
      rw [List.take_length] at hb'
      have HB := Lib.hid hb'
      clear hb' hb
      go_wp2_with fail
      obtain ⟨hD, hF⟩ := ref_flush_shape (w3 := wr.setCell ⟨q, 1, none⟩ (.slice none 0 0)) H.out S.waits wr (hf.out.mono (fun k _ hk => by subst hk; rfl)) HB.out S.writes S.fuse S.dead H.out.fuse0 H.out.fuse1 S.now ((Fr.refl (fun k => k = q) wr).setCell (p := ⟨q, 1, none⟩) (.inr rfl) _) (HBq.out.set_ 1 _)
      have HF := Lib.hid hF
      clear hF
      have hD2 : RefAt R _ q _ _ S.flush0 := hD
      refine (RefBurn_at hD2 Hd.out).mono ?_
      clear hD hD2
      rintro e w5 ⟨rfl, hD5, hf5⟩
      have HD5 := Lib.hid hD5
      have Hf5 := Lib.hid hf5
      clear hD5 hf5
      go_wp2
      go_ret
      exact ⟨rfl, ⟨_, _, HD5.out⟩, HF.out.step Hf5.out (fun b _ e => by subst e; exact H.out.rq)⟩

set_option maxHeartbeats 800000 in
set_option maxRecDepth 100000 in
theorem RefCrash_any (A : Option Addr) (c : Nat) (keep : List Int) (h : RefOk R w q S) (hkp : IntsOut R w A keep) (hreach : keep.length * 8 ≤ 140737488351232) (hwl : S.waits.length < 4000000000) :
    Calls Try.prog 28 #[.pointer (some ⟨q, 0, none⟩), .slice A keep.length c] w fun e w' => e = .returned (.tuple #[]) ∧ RefOk R w' q (S.crash keep) ∧ Fr R w w' := by
  obtain ⟨s1, s2, h⟩ := h
  obtain ⟨h0, h1, h2, h3, h4⟩ := h.cells
  obtain ⟨g1, cap1, rfl, hg1⟩ := h.form1
  obtain ⟨A2, cc2, hs2⟩ := h.form2
  subst hs2
  have hqz := h.blk.lt
  have H := Lib.hid h
  have HKp := Lib.hid hkp
  clear h hkp h0 h1 h2 h3 h4
  go_enter Try.func28, Try.ntmps28
  go_wp2
  go_loopw [4, 5] (fun v _ wr => ∃ k : Nat, k ≤ S.waits.length ∧ v = .int .i64 k ∧ Hid (Fr (fun b => b = g1) w wr) ∧ Hid (wr.ownsRow 0 9 1 (.slice (some ⟨g1, 0, none⟩) S.last.length cap1) S.last.length (strCells (setAll S.last (chosen keep (S.waits.take k)))))) (fun v _ _ => S.waits.length - (intOf v).toNat)
  case atStart => exact ⟨0, by omega, rfl, Fr.refl _ _, by show World.ownsRow _ _ _ _ _ _ _; simpa [setAll, chosen_nil] using H.out.own1⟩
  case round =>
    obtain ⟨k, hk, rfl, hf, hb⟩ := hrel
    have hqg : ¬ q = g1 := fun e => Blk.own_ne H.out.blk H.out.own1 (by decide) (by subst e; rfl)
    have hbq := H.out.blk.fr hf.out hqg
    have d0 : wr.cell? ⟨q, 0, none⟩ = some (.slice (some ⟨g1, 0, none⟩) S.last.length cap1) := hbq.cell 0
    have d1 : wr.cell? ⟨q, 1, none⟩ = some (.slice A2 S.waits.length cc2) := hbq.cell 1
    have d3 : wr.cell? ⟨q, 3, none⟩ = some (.int .i64 S.fuse) := hbq.cell 3
    have d4 : wr.cell? ⟨q, 4, none⟩ = some (.bool S.dead) := hbq.cell 4
    have fq1 := hbq.frozen 1
    have fq3 := hbq.frozen 3
    have fq4 := hbq.frozen 4
    have hqr := hbq.lt
    have HBq := Lib.hid hbq
    clear hbq
    by_cases hlt : k < S.waits.length
    · obtain ⟨g2, cap2, e, _, hg2⟩ := H.out.own2.form (by omega)
      injection e with e1 e2 e3
      subst e1 e3
      clear e2
      have hx := oneCells_get S.waits k hlt
      have hxn := H.out.wl _ (List.getElem_mem hlt)
      have hg21 : ¬ g2 = g1 := fun e => by
        obtain ⟨cs, hcs⟩ := own_blk H.out.own2 (g := g2) rfl
        exact Blk.own_ne hcs H.out.own1 (by decide) (by subst e; rfl)
      have HCt := Lib.hid (chosen_take keep S.waits k hlt)
      obtain ⟨L, hL⟩ : ∃ L, setAll S.last (chosen keep (S.waits.take k)) = L := ⟨_, rfl⟩
      have hLl : L.length = S.last.length := by rw [← hL, setAll_length]
      rw [hL] at hb
      have HO2 : Hid (∀ W, Fr (fun b => b = g1) w W → W.cell? ⟨g2, k * 2, none⟩ = some (.int .i64 S.waits[k].1) ∧ W.cell? ⟨g2, k * 2 + 1, none⟩ = some (strv S.waits[k].2)) := by
        intro W hW
        have hownr := own_fr H.out.own2 hW (fun k hk e => hg21 (by subst e; simpa [Value.ownBlock] using hk))
        have c0 := hownr.cellAt (k * 2) (by omega)
        have c1 := hownr.cellAt (k * 2 + 1) (by omega)
        rw [hx.1] at c0
        rw [hx.2] at c1
        exact ⟨c0, c1⟩
      have HL := Lib.hid hL
      clear hx hL
      generalize S.waits[k] = x at *
      obtain ⟨xi, xs⟩ := x
      dsimp only at *
      go_wp2
      obtain ⟨wo, rfl⟩ : ∃ wo : World, wo = wr := ⟨_, rfl⟩
      go_loopw [5] (fun v wz => ∃ j : Nat, j ≤ keep.length ∧ v = .int .i64 j ∧ Hid (Fr (fun b => b = g1) w wz) ∧ Hid (wz.ownsRow 0 9 1 (.slice (some ⟨g1, 0, none⟩) S.last.length cap1) S.last.length (strCells (if (k : Int) ∈ keep.take j then L.set xi xs else L)))) (fun v _ => keep.length - (intOf v).toNat)
      case atStart => exact ⟨0, by omega, rfl, hf.out, by show World.ownsRow _ _ _ _ _ _ _; simpa using hb.out⟩
      case round =>
        clear hf hb HBq d0 d1 d3 d4 fq1 fq3 fq4 hqr
        obtain ⟨j, hj, rfl, hf, hb⟩ := hrel
        have hbq := H.out.blk.fr hf.out hqg
        have d0 : wr.cell? ⟨q, 0, none⟩ = some (.slice (some ⟨g1, 0, none⟩) S.last.length cap1) := hbq.cell 0
        have d1 : wr.cell? ⟨q, 1, none⟩ = some (.slice (some ⟨g2, 0, none⟩) S.waits.length cc2) := hbq.cell 1
        have hqr := hbq.lt
        clear hbq
        obtain ⟨c0, c1⟩ := HO2.out _ hf.out
        by_cases hlj : j < keep.length
        · obtain ⟨kb, ko, hA, hkb, hcl⟩ := HKp.out.2 (by omega)
          subst hA
          have ck0 := hcl j _ (List.getElem?_eq_getElem hlj)
          have ck : wr.cell? ⟨kb, ko + j, none⟩ = some (.int .i64 keep[j]) := (hf.out.cell (p := ⟨kb, ko + j, none⟩) (cell_lt ck0) (fun e => hkb (by have e' : kb = g1 := e; subst e'; exact H.out.r1 _ rfl))).trans ck0
          have HTk : Hid (keep.take (j + 1) = keep.take j ++ [keep[j]]) := by
            show _ = _
            rw [List.take_add_one, List.getElem?_eq_getElem hlj]; rfl
          clear hcl ck0
          by_cases hy : keep[j] = (k : Int)
          · have hyb : (keep[j] == (k : Int)) = true := by simpa using hy
            have HTk2 : Hid ((k : Int) ∈ keep.take (j + 1)) := by
              show _ ∈ _
              rw [HTk.out, hy]; simp
            clear hy HTk
            generalize keep[j] = y at *
            have hLn : ∀ L' : List (List UInt8), L'.length = S.last.length → (strCells L')[xi]? = some (strv (L'.getD xi [])) := by
              intro L' hl'
              simp [strCells, List.getD, List.getElem?_eq_getElem (show xi < L'.length by omega)]
            have cl := hb.out.cellAt xi (by omega)
            rw [hLn _ (by split <;> simp [hLl])] at cl
            have fl := hb.out.frozenAt xi
            have hgl := (own_lt hb.out (g := g1) rfl)
            have HS := Lib.hid (hb.out.stored xi (strv xs))
            unfold strv at c1 cl
            generalize (if (k : Int) ∈ keep.take j then L.set xi xs else L).getD xi [] = old at *
            clear hLn
            go_wp2
            go_region
            go_wp2
            go_roundw
            case rel =>
              refine ⟨j + 1, by omega, by go_num, (hf.out.setCell (p := ⟨g1, xi, none⟩) (.inr rfl) _).drew, ?_⟩
              have h2 := HS.out.1
              rw [← strCells_set] at h2
              show World.ownsRow _ _ _ _ _ _ _
              rw [if_pos HTk2.out]
              have e2 : (if (k : Int) ∈ keep.take j then L.set xi xs else L).set xi xs = L.set xi xs := by
                split
                · rw [List.set_set]
                · rfl
              rw [e2] at h2
              exact own_fr h2 (Fr.refl Nob _).drew (fun _ _ h => h)
            case measure => simp [intOf]; omega
          · have hyb : (keep[j] == (k : Int)) = false := by simpa using hy
            have HN2 : Hid (wr.ownsRow 0 9 1 (.slice (some ⟨g1, 0, none⟩) S.last.length cap1) S.last.length (strCells (if (k : Int) ∈ keep.take (j + 1) then L.set xi xs else L))) := by
              show World.ownsRow _ _ _ _ _ _ _
              have h2 := hb.out
              have e : ((k : Int) ∈ keep.take (j + 1)) ↔ (k : Int) ∈ keep.take j := by
                rw [HTk.out, List.mem_append, List.mem_singleton]
                exact ⟨fun h => h.resolve_right (fun h => hy h.symm), .inl⟩
              by_cases hk2 : (k : Int) ∈ keep.take j
              · rw [if_pos (e.2 hk2)]; rwa [if_pos hk2] at h2
              · rw [if_neg (fun h => hk2 (e.1 h))]; rwa [if_neg hk2] at h2
            clear hy HTk hb
            generalize keep[j] = y at *
            go_wp2
            go_roundw
            case rel => exact ⟨j + 1, by omega, by go_num, hf, HN2⟩
            case measure => simp [intOf]; omega
        · obtain rfl : j = keep.length := by omega
          have hb' := hb.out
          rw [List.take_length] at hb'
          have HN3 : Hid (wr.ownsRow 0 9 1 (.slice (some ⟨g1, 0, none⟩) S.last.length cap1) S.last.length (strCells (setAll S.last (chosen keep (S.waits.take (k + 1)))))) := by
            show World.ownsRow _ _ _ _ _ _ _
            rw [HCt.out]
            by_cases hk2 : (k : Int) ∈ keep
            · rw [if_pos hk2] at hb' ⊢
              rw [setAll_snoc, HL.out]; exact hb'
            · rw [if_neg hk2] at hb' ⊢
              rw [List.append_nil, HL.out]; exact hb'
          clear hb' hb
          go_wp2
          go_roundw
          case rel => exact ⟨k + 1, by omega, by go_num, hf, HN3⟩
          case measure => simp [intOf]; omega
    · obtain rfl : k = S.waits.length := by omega
      have hb' := hb.out
      rw [List.take_length] at hb'
      have HB := Lib.hid hb'
      clear hb' hb
      go_wp2
      go_end0
      obtain ⟨hD, hF⟩ := ref_flush_shape (w3 := ((wr.setCell ⟨q, 1, none⟩ (.slice none 0 0)).setCell ⟨q, 4, none⟩ (.bool false)).setCell ⟨q, 3, none⟩ (.int .i64 (-1))) H.out (chosen keep S.waits) wr (hf.out.mono (fun k _ hk => by subst hk; rfl)) HB.out S.writes (-1) false (by omega) (by omega) (setAll S.last (chosen keep S.waits)) ((((Fr.refl (fun k => k = q) wr).setCell (p := ⟨q, 1, none⟩) (.inr rfl) _).setCell (p := ⟨q, 4, none⟩) (.inr rfl) _).setCell (p := ⟨q, 3, none⟩) (.inr rfl) _) (((HBq.out.set_ 1 _).set_ 4 _).set_ 3 _)
      exact ⟨rfl, ⟨_, _, hD⟩, hF⟩
end
end Go.Proofs.Ytieiopeblleheaa
