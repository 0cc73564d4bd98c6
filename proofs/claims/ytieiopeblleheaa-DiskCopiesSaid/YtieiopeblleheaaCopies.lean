/-
  DiskCopies: the memory of a disk and its copy.
-/
import Derived.Test.YtieiopeblleheaaDisk11
import Derived.Test.YtieiopeblleheaaAwake2
import Derived.Test.YtieiopeblleheaaRowKitX
namespace Go.Proofs.Ytieiopeblleheaa
open Go.RowKit

theorem wrap_fit {x : Int} (h0 : -9223372036854775808 ≤ x) (h1 : x ≤ 9223372036854775807) : IntKind.i64.wrap x = x := by
  rw [IntKind.wrap_i64]; omega

/-- One disk of twelve sectors. -/
def OneMem (w wr : World) (p : Nat) (S : DS) : Prop :=
  ∃ R, DiskOk R wr p S ∧ (∀ b, R b → w.heap.size ≤ b) ∧ Fr Nob w wr ∧ S.fuse = -1 ∧ S.dead = false ∧ S.now.length = 12

section
variable {w wr : World} {p : Nat} {S : DS}
theorem OneMem.frame (h : OneMem w wr p S) : Fr Nob w wr := by
  obtain ⟨R, _, _, h, _⟩ := h; exact h
theorem OneMem.len (h : OneMem w wr p S) : S.now.length = 12 := by
  obtain ⟨R, _, _, _, _, _, h⟩ := h; exact h
theorem OneMem.new {w2 : World} (h : OneMem w wr p S) (hf : Fr Nob wr w2) : OneMem w w2 p S := by
  obtain ⟨R, hD, hR, hF, r⟩ := h
  exact ⟨R, hD.new hf, hR, hF.trans hf, r⟩
theorem OneMem.write (h : OneMem w wr p S) (i : Int) (g : Nat) (s : List UInt8) (h0 : 0 ≤ i) (hi : i < 12) (hs : s.length = 64) (hg : Row64 wr g s) (hwl : S.waits.length < 4000000000) :
    Calls Try.prog 11 #[.pointer (some ⟨p, 0, none⟩), .int .i64 i, .slice (some ⟨g, 0, none⟩) 64 64] wr fun e w' => e = .returned (.int .i64 0) ∧ OneMem w w' p (S.wr0 i.toNat s) := by
  obtain ⟨R, hD, hR, hF, h1, h2, hl⟩ := h
  refine (Write_ok i g 64 s hD h0 (by omega) h2 hs hg hwl).mono ?_
  rintro e w' ⟨rfl, hD', hf⟩
  rw [DS.wr_off (by omega)] at hD'
  refine ⟨rfl, _, hD', ?_, hF.step hf (fun b hb' hr => by have := hR b hr; omega), h1, h2, by simpa [DS.wr0] using hl⟩
  rintro b (hb' | hb')
  · exact hR b hb'
  · have := hF.size; omega
theorem OneMem.flush (h : OneMem w wr p S) (hwl : S.waits.length < 4000000000) :
    Calls Try.prog 13 #[.pointer (some ⟨p, 0, none⟩)] wr fun e w' => e = .returned (.int .i64 0) ∧ OneMem w w' p S.flush0 := by
  obtain ⟨R, hD, hR, hF, h1, h2, hl⟩ := h
  refine (Flush_good hD h2 hwl).mono ?_
  rintro e w' ⟨rfl, hD', hf⟩
  rw [DS.flush_off (by omega)] at hD'
  exact ⟨rfl, _, hD', hR, hF.step hf (fun b hb' hr => by have := hR b hr; omega), h1, h2, hl⟩
end

def strs (L : List (List UInt8)) : Array Value := (L.map fun s => Value.string ⟨s.toArray⟩).toArray
theorem strs_get {L : List (List UInt8)} {k : Nat} {s : List UInt8} (h : L[k]? = some s) : (strs L)[k]? = some (.string ⟨s.toArray⟩) := by
  unfold strs
  rw [List.getElem?_toArray, List.getElem?_map, h]; rfl

/-- Two disks, neither of which writes what the other has; and the row of strings. -/
structure TwoIn (w wr : World) (p c ab : Nat) (L : List (List UInt8)) (Sd Sc : DS) (Rd Rc : Nat → Prop) : Prop where
  d : DiskOk Rd wr p Sd
  c : DiskOk Rc wr c Sc
  dw : ∀ b, Rd b → w.heap.size ≤ b
  cw : ∀ b, Rc b → w.heap.size ≤ b
  both : ∀ b, Rd b → Rc b → ∃ cs, Blk wr b 5 cs
  da : ¬ Rd ab
  ca : ¬ Rc ab
  aw : w.heap.size ≤ ab
  arr : Blk wr ab 43 (strs L)
  fr : Fr Nob w wr
  dfuse : Sd.fuse = -1
  cfuse : Sc.fuse = -1
  ddead : Sd.dead = false
  cdead : Sc.dead = false
  dlen : Sd.now.length = 12
  clen : Sc.now.length = 12
def TwoMem (w wr : World) (p c ab : Nat) (L : List (List UInt8)) (Sd Sc : DS) : Prop := ∃ Rd Rc, TwoIn w wr p c ab L Sd Sc Rd Rc

section
variable {w wr : World} {p c ab : Nat} {L : List (List UInt8)} {Sd Sc : DS}
theorem OneMem.copied {w1 w2 : World} {p' : Nat} {S : DS} {R : Nat → Prop} (hD : DiskOk R wr p S) (hR : ∀ b, R b → w.heap.size ≤ b) (hF : Fr Nob w wr) (h1 : S.fuse = -1) (h2 : S.dead = false) (h3 : S.now.length = 12)
    (hf : Fr Nob wr w1) (hc : DiskOk (Cop R wr w1) w1 p' S) (ha : Blk w2 w1.heap.size 43 (strs L)) (hf2 : Fr Nob w1 w2) : TwoMem w w2 p p' w1.heap.size L S S := by
  have z1 := hF.size
  have z2 := hf.size
  refine ⟨R, Cop R wr w1, ?_⟩
  exact {
    d := (hD.new hf).new hf2
    c := hc.new hf2
    dw := hR
    cw := by
      rintro b (hb | hb)
      · omega
      · exact hR b hb.1
    both := by
      rintro b hb (hb' | ⟨_, cs, hcs⟩)
      · have := hD.lt hb; omega
      · exact ⟨cs, (hcs.fr hf (fun h => h)).fr hf2 (fun h => h)⟩
    da := fun h => by have := hD.lt h; omega
    ca := by
      rintro (hb | ⟨_, cs, hcs⟩)
      · omega
      · have := hcs.lt; omega
    aw := by omega
    arr := ha
    fr := (hF.trans hf).trans hf2
    dfuse := h1
    cfuse := h1
    ddead := h2
    cdead := h2
    dlen := h3
    clen := h3 }
theorem TwoMem.frame (h : TwoMem w wr p c ab L Sd Sc) : Fr Nob w wr := by
  obtain ⟨Rd, Rc, h⟩ := h; exact h.fr
theorem TwoMem.new {w2 : World} (h : TwoMem w wr p c ab L Sd Sc) (hf : Fr Nob wr w2) : TwoMem w w2 p c ab L Sd Sc := by
  obtain ⟨Rd, Rc, h⟩ := h
  exact ⟨Rd, Rc, { h with d := h.d.new hf, c := h.c.new hf, both := fun b hb hc => by obtain ⟨cs, hcs⟩ := h.both b hb hc; exact ⟨cs, hcs.fr hf (fun h => h)⟩, arr := h.arr.fr hf (fun h => h), fr := h.fr.trans hf }⟩
theorem TwoMem.cell (h : TwoMem w wr p c ab L Sd Sc) {k : Nat} {s : List UInt8} (hk : L[k]? = some s) : wr.cell? ⟨ab, k, none⟩ = some (.string ⟨s.toArray⟩) ∧ wr.frozen? ⟨ab, k, none⟩ = false := by
  obtain ⟨Rd, Rc, h⟩ := h
  exact ⟨by rw [h.arr.cell k, strs_get hk], h.arr.frozen k⟩
theorem TwoMem.note (h : TwoMem w wr p c ab L Sd Sc) (k : Nat) (s : List UInt8) : TwoMem w (wr.setCell ⟨ab, k, none⟩ (.string ⟨s.toArray⟩)) p c ab (L.set k s) Sd Sc := by
  obtain ⟨Rd, Rc, h⟩ := h
  have hf : Fr (fun b => b = ab) wr (wr.setCell ⟨ab, k, none⟩ (.string ⟨s.toArray⟩)) := (Fr.refl (fun b => b = ab) wr).setCell (p := ⟨ab, k, none⟩) (.inr rfl) _
  have ha := h.arr.set_ k (.string ⟨s.toArray⟩)
  exact ⟨Rd, Rc, { h with
    d := h.d.fr hf (fun b hb e => h.da (by subst e; exact hb))
    c := h.c.fr hf (fun b hb e => h.ca (by subst e; exact hb))
    both := fun b hb hc => by
      obtain ⟨cs, hcs⟩ := h.both b hb hc
      exact ⟨cs, hcs.fr hf (fun e => h.da (by subst e; exact hb))⟩
    arr := by
      unfold strs at ha ⊢
      rw [List.setIfInBounds_toArray] at ha
      rwa [List.map_set]
    fr := h.fr.step hf (fun i hi e => by have := h.aw; omega) }⟩
theorem TwoMem.readD (h : TwoMem w wr p c ab L Sd Sc) (i : Int) (s : List UInt8) (h0 : 0 ≤ i) (hs : Sd.now[i.toNat]? = some s) :
    Calls Try.prog 16 #[.pointer (some ⟨p, 0, none⟩), .int .i64 i] wr fun e w' => e = .returned (.tuple #[.slice (some ⟨wr.heap.size, 0, none⟩) 64 64, .int .i64 0]) ∧ Row64 w' wr.heap.size s ∧ TwoMem w w' p c ab L Sd Sc ∧ Fr Nob wr w' := by
  have h' := h
  obtain ⟨Rd, Rc, h⟩ := h
  refine (Read_ok i s h.d h0 h.ddead hs).mono ?_
  rintro e w' ⟨rfl, hr, hf⟩
  exact ⟨rfl, hr, h'.new hf, hf⟩
theorem TwoMem.readC (h : TwoMem w wr p c ab L Sd Sc) (i : Int) (s : List UInt8) (h0 : 0 ≤ i) (hs : Sc.now[i.toNat]? = some s) :
    Calls Try.prog 16 #[.pointer (some ⟨c, 0, none⟩), .int .i64 i] wr fun e w' => e = .returned (.tuple #[.slice (some ⟨wr.heap.size, 0, none⟩) 64 64, .int .i64 0]) ∧ Row64 w' wr.heap.size s ∧ TwoMem w w' p c ab L Sd Sc ∧ Fr Nob wr w' := by
  have h' := h
  obtain ⟨Rd, Rc, h⟩ := h
  refine (Read_ok i s h.c h0 h.cdead hs).mono ?_
  rintro e w' ⟨rfl, hr, hf⟩
  exact ⟨rfl, hr, h'.new hf, hf⟩
theorem TwoIn.stepC {Rd Rc Rc' : Nat → Prop} {w' : World} {Sc' : DS} (h : TwoIn w wr p c ab L Sd Sc Rd Rc) (hf : FrD Rc wr w') (hc : DiskOk Rc' w' c Sc') (hx : ∀ b, Rc' b → Rc b ∨ wr.heap.size ≤ b) (h1 : Sc'.fuse = -1) (h2 : Sc'.dead = false) (h3 : Sc'.now.length = 12) :
    TwoIn w w' p c ab L Sd Sc' Rd Rc' := by
  have hz := h.fr.size
  exact { h with
    d := DiskOk.fr h.d hf (fun b hb hm => hm.2 (h.both b hb hm.1))
    c := hc
    cw := fun b hb => by
      rcases hx b hb with hb | hb
      · exact h.cw b hb
      · omega
    both := fun b hb hb' => by
      rcases hx b hb' with hb' | hb'
      · obtain ⟨cs, hcs⟩ := h.both b hb hb'
        exact ⟨cs, hf.u8 hcs⟩
      · have := h.d.lt hb; omega
    ca := fun hb => by
      rcases hx ab hb with hb | hb
      · exact h.ca hb
      · have := h.arr.lt; omega
    arr := h.arr.fr hf (fun hm => h.ca hm.1)
    fr := h.fr.step hf (fun i hi hm => by have := h.cw i hm.1; omega)
    cfuse := h1
    cdead := h2
    clen := h3 }
theorem TwoMem.writeC (h : TwoMem w wr p c ab L Sd Sc) (i : Int) (g : Nat) (s : List UInt8) (h0 : 0 ≤ i) (hi : i < 12) (hs : s.length = 64) (hg : Row64 wr g s) (hwl : Sc.waits.length < 4000000000) :
    Calls Try.prog 11 #[.pointer (some ⟨c, 0, none⟩), .int .i64 i, .slice (some ⟨g, 0, none⟩) 64 64] wr fun e w' => e = .returned (.int .i64 0) ∧ TwoMem w w' p c ab L Sd (Sc.wr0 i.toNat s) := by
  obtain ⟨Rd, Rc, h⟩ := h
  obtain ⟨k, rfl⟩ := Int.eq_ofNat_of_zero_le h0
  refine (Write_goodD k ⟨g, 0, none⟩ 64 s h.c (by have := h.clen; omega) h.cdead hs (fun j u hu => World.news_of_block hg j u (by simpa using hu)) (Blk.lt hg) hwl).mono ?_
  rintro e w' ⟨rfl, hD', hf⟩
  rw [DS.wr_off (by rw [h.cfuse]; omega)] at hD'
  rw [Int.toNat_natCast]
  exact ⟨rfl, Rd, _, h.stepC hf hD' (fun b hb => hb.imp id (fun hb => hb.1)) h.cfuse h.cdead (by simpa [DS.wr0] using h.clen)⟩
theorem TwoMem.crashC (h : TwoMem w wr p c ab L Sd Sc) (A : Option Addr) (cp : Nat) (keep : List Int) (hk : IntsIn w A keep) (hreach : keep.length * 8 ≤ 140737488351232) (hwl : Sc.waits.length < 4000000000) :
    Calls Try.prog 15 #[.pointer (some ⟨c, 0, none⟩), .slice A keep.length cp] wr fun e w' => e = .returned (.tuple #[]) ∧ TwoMem w w' p c ab L Sd (Sc.crash keep) := by
  obtain ⟨Rd, Rc, h⟩ := h
  have hlast := h.c.lens
  refine (Crash_anyD A cp keep h.c ⟨hk.1, fun h0 => ?_⟩ hreach hwl).mono ?_
  · obtain ⟨kb, ko, e, hc⟩ := hk.2 h0
    have hlt : kb < w.heap.size := cell_lt (hc 0 _ (List.getElem?_eq_getElem h0))
    exact ⟨kb, ko, e, fun hr => by have := h.cw kb hr; omega, fun j x hx => (h.fr.cell (p := ⟨kb, ko + j, none⟩) hlt (fun h => h)).trans (hc j x hx)⟩
  · rintro e w' ⟨rfl, hD', hf⟩
    exact ⟨rfl, Rd, _, h.stepC hf hD' (fun b hb => .inl hb) rfl rfl (by simp only [DS.crash]; rw [setAll_length, hlast]; exact h.clen)⟩
end

theorem DiskOk.len64 {R : Nat → Prop} {w : World} {p : Nat} {S : DS} (h : DiskOk R w p S) {i : Nat} {s : List UInt8} (hs : S.now[i]? = some s) : s.length = 64 := by
  obtain ⟨nb, lb, nv, lv, wv, ws, h⟩ := h
  have hi : i < S.now.length := (List.getElem?_eq_some_iff.1 hs).1
  have hi' : i < nv.length := Nat.lt_of_lt_of_le hi h.now.1
  exact (h.now.2 i nv[i] s (List.getElem?_eq_getElem hi') hs).1
theorem TwoMem.len64 {w wr : World} {p c ab : Nat} {L : List (List UInt8)} {Sd Sc : DS} (h : TwoMem w wr p c ab L Sd Sc) {i : Nat} {s : List UInt8} (hs : Sd.now[i]? = some s) : s.length = 64 := by
  obtain ⟨Rd, Rc, h⟩ := h; exact h.d.len64 hs
theorem TwoMem.dlen {w wr : World} {p c ab : Nat} {L : List (List UInt8)} {Sd Sc : DS} (h : TwoMem w wr p c ab L Sd Sc) : Sd.now.length = 12 := by
  obtain ⟨Rd, Rc, h⟩ := h; exact h.dlen

/-- The row of strings behind k readings. -/
def fill (now : List (List UInt8)) (k : Nat) : List (List UInt8) := now.take k ++ List.replicate (now.length - k) []
theorem fill_set {now : List (List UInt8)} {k : Nat} (hk : k < now.length) : (fill now k).set k now[k] = fill now (k + 1) := by
  unfold fill
  rw [List.set_append_right _ _ (by simp; omega)]
  rw [List.length_take, show k - min k now.length = 0 from by omega]
  obtain ⟨m, hm⟩ : ∃ m, now.length - k = m + 1 := ⟨now.length - k - 1, by omega⟩
  rw [hm, show now.length - (k + 1) = m from by omega, List.replicate_succ, List.set_cons_zero, List.take_add_one, List.getElem?_eq_getElem hk]
  simp only [List.append_assoc, Option.toList_some, List.cons_append, List.nil_append]
theorem fill_get {now : List (List UInt8)} {k : Nat} (hk : k < now.length) : ∃ s, (fill now k)[k]? = some s := by
  refine ⟨_, List.getElem?_eq_getElem ?_⟩
  unfold fill; simp; omega
theorem fill_all (now : List (List UInt8)) : fill now now.length = now := by unfold fill; simp
end Go.Proofs.Ytieiopeblleheaa
