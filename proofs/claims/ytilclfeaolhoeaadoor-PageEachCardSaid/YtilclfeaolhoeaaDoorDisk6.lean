/-
  What Flush does.
-/
import Derived.Test.YtilclfeaolhoeaaDoorDisk1
import Derived.RegionTactic
import Derived.BigRegion
namespace Go.Proofs.YtilclfeaolhoeaaDoor
set_option linter.unusedSimpArgs false
set_option linter.unusedVariables false
open Go.RowKit

def DS.flush (S : DS) : DS := S.flush0.burn

section
variable {R : Nat → Prop} {w : World} {p : Nat} {S : DS}

theorem Flush_dead (h : DiskOk R w p S) (hd : S.dead = true) :
    Calls Tryd.prog 22 #[.pointer (some ⟨p, 0, none⟩)] w fun e w' => e = .returned (.int .i64 50) ∧ w = w' := by
  obtain ⟨nb, lb, nv, lv, wv, ws, h⟩ := h
  obtain ⟨h0, h1, h2, h3, h4, h5⟩ := h.cells
  rw [hd] at h5
  clear h hd
  go_enter Tryd.func22, Tryd.ntmps22
  go_wp2
  go_ret
  exact ⟨rfl, rfl⟩

set_option maxHeartbeats 800000 in
theorem Flush_goodD (h : DiskOk R w p S) (hd : S.dead = false) (hwl : S.waits.length < 4000000000) :
    Calls Tryd.prog 22 #[.pointer (some ⟨p, 0, none⟩)] w fun e w' => e = .returned (.int .i64 0) ∧ DiskOk R w' p S.flush ∧ FrD R w w' := by
  obtain ⟨nb, lb, nv, lv, wv, ws, h⟩ := h
  obtain ⟨h0, h1, h2, h3, h4, h5⟩ := h.cells
  rw [hd] at h5
  have hwl' : Hid (ws.length < 4000000000) := by show _ < _; rw [h.waits.1]; exact hwl
  obtain ⟨A, c, rfl⟩ : ∃ A c, wv = .slice A ws.length c := by
    rcases h.own.2 with ⟨e, e2⟩ | ⟨g, cap, cur, e, _⟩
    · rw [e2]; exact ⟨_, _, e⟩
    · exact ⟨_, _, e⟩
  have H := Lib.hid h
  clear h hwl
  go_enter Tryd.func22, Tryd.ntmps22
  go_wp2

  go_loopw [4, 14] (fun _ v wr => ∃ k : Nat, k ≤ ws.length ∧ v = .int .i64 k ∧ Hid (Fr (fun b => b = lb) w wr) ∧ Hid (Blk wr lb 35 (setAll lv (ws.take k)).toArray)) (fun _ v _ => ws.length - (intOf v).toNat)
  case atStart => exact ⟨0, by omega, rfl, Fr.refl _ _, by show Blk _ _ _ _; have := H.out.blast; simpa [setAll] using this⟩
  case round =>
    obtain ⟨k, hk, rfl, hf, hb⟩ := hrel
    have hwlO : ws.length < 4000000000 := hwl'.out
    by_cases hlt : k < ws.length
    · obtain ⟨g, cap, e, _, hglt⟩ := H.out.own.form (by omega)
      injection e with e1 e2 e3
      subst e1 e3
      clear e2
      have hx := waitCells_get ws k hlt
      have hxn : ws[k].1 < S.now.length := (H.out.waits.2 k ws[k] _ (List.getElem?_eq_getElem hlt) (List.getElem?_eq_getElem (by rw [← H.out.waits.1]; exact hlt))).2.1
      have hgl : ¬ g = lb := fun e => Blk.own_ne H.out.blast H.out.own (by decide) (by subst e; rfl)
      have hownr := own_fr H.out.own hf.out (fun k hk e => hgl (by subst e; simpa [Value.ownBlock] using hk))
      have c0 := hownr.cellAt (k * 2) (by omega)
      have c1 := hownr.cellAt (k * 2 + 1) (by omega)
      rw [hx.1] at c0
      rw [hx.2] at c1
      have hbp := H.out.blk.fr hf.out (Blk.ne_ H.out.blk H.out.blast (by decide))
      have d1 : wr.cell? ⟨p, 1, none⟩ = some (.slice (some ⟨lb, 0, none⟩) S.now.length lv.length) := hbp.cell 1
      have fl := hb.out.frozen ws[k].1
      obtain ⟨v0, cl⟩ : ∃ v0, wr.cell? ⟨lb, ws[k].1, none⟩ = some v0 := by
        rw [hb.out.cell]
        have : ws[k].1 < (setAll lv (ws.take k)).length := by rw [setAll_length]; have h1 := H.out.last.1; have h2 := H.out.llen; omega
        exact ⟨_, by rw [List.getElem?_toArray]; exact List.getElem?_eq_getElem this⟩
      have hpl := hbp.lt
      have hll := hb.out.lt
      clear hx hbp hownr
      have hk5 := setAll_take lv ws k hlt
      have HK := Lib.hid hk5
      clear hk5
      have hxs := (H.out.waits.2 k ws[k] _ (List.getElem?_eq_getElem hlt) (List.getElem?_eq_getElem (by rw [← H.out.waits.1]; exact hlt))).2.2.form
      generalize ws[k] = x at *
      obtain ⟨xi, xv⟩ := x
      obtain ⟨A2, n2, c2, hxs⟩ := hxs
      dsimp only at hxs
      subst hxs
      dsimp only at *
      go_wp2
      go_region
      go_wp2
      go_roundw
      case rel =>
        refine ⟨k + 1, by omega, by go_num, ((hf.out.setCell (p := ⟨lb, xi, none⟩) (.inr rfl) _).alloc _).drew, ?_⟩
        have h2 := ((hb.out.set_ xi (.slice A2 n2 c2)).alloc (.cells #[.int .i64 xi, .slice A2 n2 c2] 65)).drew
        rw [List.setIfInBounds_toArray, ← HK.out] at h2
        exact h2
      case measure => simp [intOf]; omega
    · obtain rfl : k = ws.length := by omega
      have hbp := H.out.blk.fr hf.out (Blk.ne_ H.out.blk H.out.blast (by decide))
      have d2 : wr.cell? ⟨p, 2, none⟩ = some (.slice A ws.length c) := hbp.cell 2
      have fp := hbp.frozen 2
      clear hbp
      have hb' := hb.out
      rw [List.take_length] at hb'
      have HB := Lib.hid hb'
      clear hb'
      go_wp2_with fail
      obtain ⟨hD, hF⟩ := flush_shape H.out hf.out HB.out _ rfl
      have HF := Lib.hid hF
      clear hF
      refine (burn_at hD).mono ?_
      clear hD
      rintro e w5 ⟨rfl, hD5, hf5⟩
      have HD5 := Lib.hid hD5
      have Hf5 := Lib.hid hf5
      clear hD5 hf5
      go_wp2
      go_ret
      exact ⟨rfl, ⟨_, _, _, _, _, _, HD5.out⟩, HF.out.step' Hf5.out (fun b _ e => by subst e; exact ⟨H.out.rp, not_u8 H.out.blk (by decide)⟩)⟩

theorem Flush_good (h : DiskOk R w p S) (hd : S.dead = false) (hwl : S.waits.length < 4000000000) :
    Calls Tryd.prog 22 #[.pointer (some ⟨p, 0, none⟩)] w fun e w' => e = .returned (.int .i64 0) ∧ DiskOk R w' p S.flush ∧ Fr R w w' :=
  (Flush_goodD h hd hwl).mono (fun _ _ h => ⟨h.1, h.2.1, FrD.fr h.2.2⟩)

end
end Go.Proofs.YtilclfeaolhoeaaDoor
