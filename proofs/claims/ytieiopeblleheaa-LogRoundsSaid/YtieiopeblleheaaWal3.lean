/-
  The bytes of a sector and of a head of a log.
-/
import Derived.Test.YtieiopeblleheaaWal2
import Derived.Test.YtieiopeblleheaaDisk5
import Derived.Test.YtieiopeblleheaaCopyLaw
import Derived.Test.YtieiopeblleheaaRoundRegion
namespace Go.Proofs.Ytieiopeblleheaa
set_option linter.unusedSimpArgs false
set_option linter.unusedVariables false
open Go.RowKit

theorem bytesIn_of {w : World} {g : Nat} {t : List UInt8} (h : Blk w g 5 (bts t).toArray) : BytesIn w (some ⟨g, 0, none⟩) t := fun _ =>
  ⟨g, 0, rfl, fun j x hx => by rw [Nat.zero_add, h.cell j, List.getElem?_toArray, bts_get, hx]; rfl⟩
theorem bytesIn_part {w : World} {g : Nat} {t : List UInt8} (h : Blk w g 5 (bts t).toArray) (o n : Nat) : BytesIn w (some ⟨g, o, none⟩) ((t.drop o).take n) := fun _ =>
  ⟨g, o, rfl, fun j x hx => by
    rw [List.getElem?_take] at hx
    split at hx
    · rw [List.getElem?_drop] at hx
      rw [h.cell, List.getElem?_toArray, bts_get, hx]; rfl
    · cases hx⟩
theorem BytesIn.fr {F : Nat → Prop} {w w' : World} {A : Option Addr} {l : List UInt8} (h : BytesIn w A l) (hf : Fr F w w') (hA : ∀ a, A = some a → ¬ F a.block) : BytesIn w' A l := fun h0 => by
  obtain ⟨g, o, rfl, hc⟩ := h h0
  exact ⟨g, o, rfl, fun j x hx => (hf.cell (p := ⟨g, o + j, none⟩) (cell_lt (hc j x hx)) (hA ⟨g, o, none⟩ rfl)).trans (hc j x hx)⟩
theorem BytesIn.new {w w' : World} {A : Option Addr} {l : List UInt8} (h : BytesIn w A l) (hf : Fr Nob w w') : BytesIn w' A l := h.fr hf (fun _ _ h => h)

def zeros (n : Nat) : List UInt8 := List.replicate n 0
theorem zeros_length (n : Nat) : (zeros n).length = n := by simp [zeros]
def sectA (no : Nat) : List UInt8 := splice (zeros 64) 0 (putB 5 no)
theorem sectA_length (no : Nat) : (sectA no).length = 64 := by
  unfold sectA; rw [length_splice _ _ _ (by rw [putB_length, zeros_length]; omega), zeros_length]
def sectL (no life : Nat) : List UInt8 := splice (sectA no) 5 (putB 6 life)
theorem sectL_length (no life : Nat) : (sectL no life).length = 64 := by
  unfold sectL; rw [length_splice _ _ _ (by rw [putB_length, sectA_length]; omega), sectA_length]
def sectN (no life n : Nat) : List UInt8 := (sectL no life).set 11 (UInt8.ofNat n)
theorem sectN_length (no life n : Nat) : (sectN no life n).length = 64 := by
  unfold sectN; rw [List.length_set, sectL_length]
/-- A sector's bytes ahead of its sum, and with it. -/
def sectPre (no life : Nat) (b : List UInt8) : List UInt8 := splice (sectN no life b.length) 16 b
def sectB (no life : Nat) (b : List UInt8) : List UInt8 := splice (sectPre no life b) 12 (putB 4 (crcN (sectPre no life b)))
theorem sectPre_length (no life : Nat) (b : List UInt8) (h : b.length ≤ 48) : (sectPre no life b).length = 64 := by
  unfold sectPre; rw [length_splice _ _ _ (by rw [sectN_length]; omega), sectN_length]
theorem sectB_length (no life : Nat) (b : List UInt8) (h : b.length ≤ 48) : (sectB no life b).length = 64 := by
  unfold sectB
  rw [length_splice _ _ _ (by rw [sectPre_length _ _ _ h, putB_length]; omega), sectPre_length _ _ _ h]
theorem bts_set (L : List UInt8) (i : Nat) (x : UInt8) : (bts L).toArray.setIfInBounds i (.int .u8 x.toNat) = (bts (L.set i x)).toArray := by
  rw [List.setIfInBounds_toArray]; simp [bts, List.map_set]

theorem wrap_nat {n : Nat} (h : n < 18446744073709551616) : IntKind.u64.wrap (n : Int) = n := by rw [wrap_u64']; omega
theorem crc64 {w : World} {g : Nat} {t : List UInt8} (h : Blk w g 5 (bts t).toArray) (hl : t.length = 64) :
    Calls Try.prog 71 #[.slice (some ⟨g, 0, none⟩) 64 64] w fun e w' => e = .returned (.int .u32 (crcN t)) ∧ Fr Nob w w' := by
  have := CRC_any (some ⟨g, 0, none⟩) 64 t w (bytesIn_of h) (by omega)
  rwa [hl] at this

set_option maxHeartbeats 800000 in
set_option maxRecDepth 100000 in
theorem sector_any (no life : Nat) (A : Option Addr) (c : Nat) (b : List UInt8) (w : World) (h : BytesIn w A b) (hl : b.length ≤ 48) (hno : no < 18446744073709551616) (hlife : life < 18446744073709551616) :
    Calls Try.prog 59 #[.int .u64 no, .int .u64 life, .slice A b.length c] w fun e w' => e = .returned (.slice (some ⟨w.heap.size, 0, none⟩) 64 64) ∧ Blk w' w.heap.size 5 (bts (sectB no life b)).toArray ∧ Fr Nob w w' := by
  have hmk := make64
  have H := Lib.hid h
  clear h
  go_enter Try.func59, Try.ntmps59
  go_wp2_with fail
  have HB0 : Hid (Blk (w.alloc (.cells zeros64 5)) w.heap.size 5 (bts (zeros 64)).toArray) := by
    show Blk _ _ _ _
    rw [show (bts (zeros 64)).toArray = zeros64 from zeros64_eq.symm]; exact Blk.new w _ _
  have HF0 : Hid (Fr Nob w (w.alloc (.cells zeros64 5))) := (Fr.refl _ w).alloc _
  refine (put_any w.heap.size 0 5 64 (zeros 64) no _ HB0.out (by simp [zeros]) hno (by omega)).mono ?_
  rintro e w1 ⟨rfl, hb1, hf1⟩
  have HB1 : Hid (Blk w1 w.heap.size 5 (bts (sectA no)).toArray) := hb1
  have HF1 : Hid (Fr Nob w w1) := HF0.out.step hf1 (fun i hi e => by omega)
  clear hb1 hf1
  go_wp2_with fail
  refine (put_any w.heap.size 5 6 59 (sectA no) life _ HB1.out (by rw [sectA_length]; omega) hlife (by omega)).mono ?_
  rintro e w2 ⟨rfl, hb2, hf2⟩
  have HB2 : Hid (Blk w2 w.heap.size 5 (bts (sectL no life)).toArray) := hb2
  have HF2 : Hid (Fr Nob w w2) := HF1.out.step hf2 (fun i hi e => by omega)
  clear hb2 hf2
  have hz2 := HB2.out.lt
  have hz : w.heap.size ≤ w2.heap.size := HF2.out.size
  obtain ⟨g, hg⟩ : ∃ g, w.heap.size = g := ⟨_, rfl⟩
  have HG : Hid (w.heap.size ≤ g) := Nat.le_of_eq hg
  have HGe := Lib.hid hg
  rw [hg] at HB2 hz2 ⊢
  have HH : Hid (Blk (w2.setCell ⟨g, 11, none⟩ (.int .u8 (UInt8.ofNat b.length).toNat)) g 5 (bts (sectN no life b.length)).toArray) := by
    show Blk _ _ _ _
    unfold sectN
    rw [← bts_set]
    exact HB2.out.set_ 11 _
  have hbl : ((UInt8.ofNat b.length).toNat : Int) = b.length := by simp; omega
  rw [hbl] at HH
  have HF3 : Hid (Fr Nob w (w2.setCell ⟨g, 11, none⟩ (.int .u8 b.length))) := HF2.out.setCell (p := ⟨g, 11, none⟩) (.inl HG.out) _
  obtain ⟨v0, c11⟩ : ∃ v, w2.cell? ⟨g, 11, none⟩ = some v := by
    rw [HB2.out.cell]
    exact ⟨_, by rw [List.getElem?_toArray]; exact List.getElem?_eq_getElem (by rw [bts_length, sectL_length]; omega)⟩
  have f11 := HB2.out.frozen 11
  clear hg hbl HB0 HF0 HB1 HF1 HB2
  have hinf : (Try.prog.info? 5).map (·.size) = some 1 := by kernel_rfl
  have hsrc : Hid (0 < (bts b).length → ∃ ad, A = some ad ∧ ∀ j v, (bts b)[j]? = some v → (w2.setCell ⟨g, 11, none⟩ (.int .u8 b.length)).cell? (ad.add j) = some v) := by
    intro h0
    obtain ⟨kb, ko, e, hc⟩ := H.out (by rw [bts_length] at h0; exact h0)
    refine ⟨_, e, fun j v hv => ?_⟩
    rw [show (⟨kb, ko, none⟩ : Addr).add j = ⟨kb, ko + j, none⟩ from by simp [Addr.add]]
    rw [bts_get] at hv
    cases hb : b[j]? with
    | none => rw [hb] at hv; cases hv
    | some x =>
      rw [hb] at hv
      injection hv with hv
      subst hv
      have h1 := hc j x hb
      exact (HF3.out.cell (p := ⟨kb, ko + j, none⟩) (cell_lt h1) (fun h => h)).trans h1
  have hn : Hid ((bts b).length = Nat.min b.length 48) := by show _ = _; rw [bts_length]; exact (Nat.min_eq_left hl).symm
  have hfit : Hid (16 + (bts b).length ≤ (bts (sectN no life b.length)).length) := by show _ ≤ _; rw [bts_length, bts_length, sectN_length]; omega
  have HHe : Hid ((w2.setCell ⟨g, 11, none⟩ (.int .u8 b.length)).heap[g]? = some (.cells (bts (sectN no life b.length)).toArray 5 (0, 0))) := HH.out
  go_wp2_with (with_reducible refine wpList_copy_exact rfl (.tmp 23) (.tmp 24) 29 29 rfl 5 Try.underlying29 hinf (some ⟨g, 16, none⟩) A 48 48 b.length c rfl rfl g 16 (bts (sectN no life b.length)) 5 HHe.out (bts b) hn.out (fun h => ⟨rfl, hsrc.out h⟩) hfit.out (bts_one b) ?_; intro w4 hg4 hgr4; have HG4 := Lib.hid hg4; have HR4 := Lib.hid hgr4; clear hg4 hgr4)
  have HB4 : Hid (Blk w4 g 5 (bts (sectPre no life b)).toArray) := by
    show Blk _ _ _ _
    have := HG4.out
    rwa [← bts_splice] at this
  have HF4 : Hid (Fr Nob w w4) := HF3.out.grown HR4.out (fun k hk => .inl (by injection hk with hk; rw [← hk]; exact HG.out))
  have hl4 := sectPre_length no life b hl
  have hcr := crcN_lt (sectPre no life b)
  have HQ : Hid (splice (sectPre no life b) 12 (putB 4 (crcN (sectPre no life b))) = sectB no life b) := rfl
  clear HG4 HR4 HH HHe HF3 hsrc hn hfit c11 f11
  have HL4 := Lib.hid hl4
  clear hl4
  generalize sectPre no life b = t at *
  refine wp_region_quietly (fun W => Fr Nob w W) (by kernel_rfl) ?_
  have hS : Fr Nob w w4.drew := HF4.out.drew
  refine wpAnyH_op (i := 0) (some 26) (v := ?v0) (a' := ?a0) rfl rfl (by kernel_rfl) (by kernel_rfl) (by kernel_rfl) (fun _ _ _ h => h) rfl (fun wz hwz => ?h0) ?b0 hS ?_
  case h0 => (go_simp; try with_reducible rfl)
  case b0 => (simp only [Act.put, List.setIfInBounds_toArray, List.set_cons_zero, List.set_cons_succ]; rfl)
  refine wpAnyH_op (i := 1) (some 27) (v := ?v1) (a' := ?a1) rfl rfl (by kernel_rfl) (by kernel_rfl) (by kernel_rfl) (fun _ _ _ h => h) rfl (fun wz hwz => ?h1) ?b1 hS ?_
  case h1 => (go_simp; try with_reducible rfl)
  case b1 => (simp only [Act.put, List.setIfInBounds_toArray, List.set_cons_zero, List.set_cons_succ]; rfl)
  refine wpAnyH_op (i := 2) (some 28) (v := ?v2) (a' := ?a2) rfl rfl (by kernel_rfl) (by kernel_rfl) (by kernel_rfl) (fun _ _ _ h => h) rfl (fun wz hwz => ?h2) ?b2 hS ?_
  case h2 => (go_simp; try with_reducible rfl)
  case b2 => (simp only [Act.put, List.setIfInBounds_toArray, List.set_cons_zero, List.set_cons_succ]; rfl)
  refine wpAnyH_call (i := 3) rfl (by kernel_rfl) rfl ?run3 (crc64 HB4.out.drew HL4.out) ?_
  case run3 => go_simp
  rintro e w5 ⟨rfl, hf5⟩
  have hS5 : Fr Nob w w5 := hS.trans hf5
  have HB5 : Hid (Blk w5 g 5 (bts t).toArray) := HB4.out.drew.fr hf5 (fun h => h)
  clear hf5
  refine ⟨_, rfl, hS5, ?_⟩
  refine wpAnyH_at (some 29) (a' := ?a3) rfl ?b3 ?_
  case b3 => (simp only [Act.put, List.setIfInBounds_toArray, List.set_cons_zero, List.set_cons_succ]; rfl)
  refine wpAnyH_op (i := 4) (some 30) (v := (.int .u64 (crcN t : Nat))) (a' := ?a4) rfl rfl (by kernel_rfl) (by kernel_rfl) (by kernel_rfl) (fun _ _ _ h => h) rfl (fun wz hwz => ?h4) ?b4 hS5 ?_
  case h4 => (have hcr2 := wrap_nat (n := crcN t) (by omega); go_simp; try with_reducible rfl)
  case b4 => (simp only [Act.put, List.setIfInBounds_toArray, List.set_cons_zero, List.set_cons_succ]; rfl)
  refine wpAnyH_call (i := 5) rfl (by kernel_rfl) rfl ?run5 (put_any g 12 4 52 t (crcN t) w5 HB5.out (by rw [HL4.out]; omega) (by omega) (by omega)) ?_
  case run5 => go_simp
  rintro e w6 ⟨rfl, hb6, hf6⟩
  have hS6 : Fr Nob w w6 := hS5.step hf6 (fun i hi e => by have := HG.out; omega)
  rw [HQ.out] at hb6
  have HB6 := Lib.hid hb6
  clear hb6 hf6
  refine ⟨_, rfl, hS6, ?_⟩
  refine wpAnyH_at (some 31) (a' := ?a5) rfl ?b5 ?_
  case b5 => (simp only [Act.put, List.setIfInBounds_toArray, List.set_cons_zero, List.set_cons_succ]; rfl)
  refine wpAnyH_done (by kernel_rfl) ?_ _
  dsimp only [OnlyNormal]
  go_wp2
  go_ret
  rw [HGe.out]
  exact ⟨rfl, HB6.out, hS6⟩
end Go.Proofs.Ytieiopeblleheaa
