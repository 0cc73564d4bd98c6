/-
  DiskLasts: what was flushed is there behind any crash; what was not is there or as it was ahead, each write by itself. For all rows of ints within the reach.
-/
import Derived.Test.YtieiopeblleheaaAwake2
import Derived.Test.YtieiopeblleheaaRowKitX
namespace Go.Proofs.Ytieiopeblleheaa
open Go.RowKit

def ints64 (L : List Int) : Array Value := (L.map fun x => Value.int .i64 x).toArray
def cont (x : Int) : List UInt8 := if 0 < x then sect x else nought
theorem cont_length (x : Int) : (cont x).length = 64 := by unfold cont; split; exact sect_length x; exact nought_length

/-- The disk and the row of numbers beside it. -/
def LastMem (w wr : World) (p ab : Nat) (L : List Int) (S : DS) : Prop :=
  ∃ R, DiskOk R wr p S ∧ (∀ b, R b → w.heap.size ≤ b) ∧ ¬ R ab ∧ w.heap.size ≤ ab ∧ Blk wr ab 27 (ints64 L) ∧ Fr Nob w wr ∧ S.fuse = -1 ∧ S.dead = false ∧ L.length = 16 ∧ ∀ x ∈ L, 0 ≤ x ∧ x ≤ 1000

theorem LastMem.cellk {w wr : World} {p ab : Nat} {L : List Int} {S : DS} (h : LastMem w wr p ab L S) {a : Addr} {v : Value} (hc : w.cell? a = some v) : wr.cell? a = some v := by
  obtain ⟨R, _, _, _, _, _, hF, _⟩ := h
  exact (hF.cell (cell_lt hc) (fun h => h)).trans hc
theorem ints64_get {L : List Int} {k : Nat} (h : k < L.length) : (ints64 L)[k]? = some (.int .i64 L[k]) := by
  unfold ints64
  rw [List.getElem?_toArray, List.getElem?_map, List.getElem?_eq_getElem h]; rfl
theorem LastMem.arr {w wr : World} {p ab : Nat} {L : List Int} {S : DS} (h : LastMem w wr p ab L S) (k : Nat) (hk : k < L.length) : wr.cell? ⟨ab, k, none⟩ = some (.int .i64 L[k]) ∧ wr.frozen? ⟨ab, k, none⟩ = false := by
  obtain ⟨R, _, _, _, _, hb, _⟩ := h
  exact ⟨by rw [hb.cell k, ints64_get hk], hb.frozen k⟩
theorem LastMem.arrE {w wr : World} {p ab : Nat} {L : List Int} {S : DS} (h : LastMem w wr p ab L S) (k : Nat) (hk : k < 16) : ∃ v, wr.cell? ⟨ab, k, none⟩ = some v ∧ wr.frozen? ⟨ab, k, none⟩ = false := by
  obtain ⟨R, _, _, _, _, hb, _, _, _, hl, _⟩ := h
  exact ⟨_, by rw [hb.cell k, ints64_get (by omega)], hb.frozen k⟩
theorem LastMem.bd {w wr : World} {p ab : Nat} {L : List Int} {S : DS} (h : LastMem w wr p ab L S) : ∀ x ∈ L, 0 ≤ x ∧ x ≤ 1000 := by
  obtain ⟨R, _, _, _, _, _, _, _, _, _, hb⟩ := h
  exact hb
theorem LastMem.frame {w wr : World} {p ab : Nat} {L : List Int} {S : DS} (h : LastMem w wr p ab L S) : Fr Nob w wr := by
  obtain ⟨R, _, _, _, _, _, hF, _⟩ := h
  exact hF
theorem LastMem.len {w wr : World} {p ab : Nat} {L : List Int} {S : DS} (h : LastMem w wr p ab L S) : L.length = 16 := by
  obtain ⟨R, _, _, _, _, _, _, _, _, hl, _⟩ := h
  exact hl
/-- A number is noted. -/
theorem LastMem.note {w wr : World} {p ab : Nat} {L : List Int} {S : DS} (h : LastMem w wr p ab L S) (k : Nat) (x : Int) (hx : 0 ≤ x ∧ x ≤ 1000) : LastMem w (wr.setCell ⟨ab, k, none⟩ (.int .i64 x)) p ab (L.set k x) S := by
  obtain ⟨R, hD, hR, hab, hw, hb, hF, h1, h2, hl, hB⟩ := h
  have hf : Fr (fun b => b = ab) wr (wr.setCell ⟨ab, k, none⟩ (.int .i64 x)) := (Fr.refl (fun b => b = ab) wr).setCell (p := ⟨ab, k, none⟩) (.inr rfl) _
  refine ⟨R, hD.fr hf (fun b hbR e => hab (by subst e; exact hbR)), hR, hab, hw, ?_, hF.step hf (fun i hi e => by omega), h1, h2, by simpa using hl, fun y hy => (List.mem_or_eq_of_mem_set hy).elim (hB y) (fun e => by rw [e]; exact hx)⟩
  have := hb.set_ k (.int .i64 x)
  unfold ints64 at this ⊢
  rw [List.setIfInBounds_toArray] at this
  rwa [List.map_set]
/-- Nothing but new blocks. -/
theorem LastMem.new {w wr w2 : World} {p ab : Nat} {L : List Int} {S : DS} (h : LastMem w wr p ab L S) (hf : Fr Nob wr w2) : LastMem w w2 p ab L S := by
  obtain ⟨R, hD, hR, hab, hw, hb, hF, h1, h2, hl⟩ := h
  exact ⟨R, hD.new hf, hR, hab, hw, hb.fr hf (fun h => h), hF.trans hf, h1, h2, hl⟩

/-- What the calls do to it. -/
theorem LastMem.write {w wr : World} {p ab : Nat} {L : List Int} {S : DS} (h : LastMem w wr p ab L S) (i : Int) (g : Nat) (s : List UInt8) (h0 : 0 ≤ i) (hi : i < S.now.length) (hs : s.length = 64) (hg : Row64 wr g s) (hwl : S.waits.length < 4000000000) :
    Calls Try.prog 11 #[.pointer (some ⟨p, 0, none⟩), .int .i64 i, .slice (some ⟨g, 0, none⟩) 64 64] wr fun e w' => e = .returned (.int .i64 0) ∧ LastMem w w' p ab L (S.wr0 i.toNat s) := by
  obtain ⟨R, hD, hR, hab, hw, hb, hF, h1, h2, hl⟩ := h
  refine (Write_ok i g 64 s hD h0 hi h2 hs hg hwl).mono ?_
  rintro e w' ⟨rfl, hD', hf⟩
  rw [DS.wr_off (by omega)] at hD'
  have hz := hf.size
  have habz := hb.lt
  refine ⟨rfl, _, hD', ?_, ?_, hw, hb.fr hf hab, hF.step hf (fun b hb' hr => by have := hR b hr; omega), h1, h2, hl⟩
  · rintro b (hb' | hb')
    · exact hR b hb'
    · have := hF.size; omega
  · rintro (hb' | hb')
    · exact hab hb'
    · omega
theorem LastMem.flush {w wr : World} {p ab : Nat} {L : List Int} {S : DS} (h : LastMem w wr p ab L S) (hwl : S.waits.length < 4000000000) :
    Calls Try.prog 13 #[.pointer (some ⟨p, 0, none⟩)] wr fun e w' => e = .returned (.int .i64 0) ∧ LastMem w w' p ab L S.flush0 := by
  obtain ⟨R, hD, hR, hab, hw, hb, hF, h1, h2, hl⟩ := h
  refine (Flush_good hD h2 hwl).mono ?_
  rintro e w' ⟨rfl, hD', hf⟩
  rw [DS.flush_off (by omega)] at hD'
  exact ⟨rfl, _, hD', hR, hab, hw, hb.fr hf hab, hF.step hf (fun b hb' hr => by have := hR b hr; omega), h1, h2, hl⟩
theorem LastMem.waiting {w wr : World} {p ab : Nat} {L : List Int} {S : DS} (h : LastMem w wr p ab L S) :
    Calls Try.prog 14 #[.pointer (some ⟨p, 0, none⟩)] wr fun e w' => e = .returned (.int .i64 S.waits.length) ∧ wr = w' := by
  obtain ⟨R, hD, _⟩ := h
  exact Waiting_any hD
theorem LastMem.crash {w wr : World} {p ab : Nat} {L : List Int} {S : DS} (h : LastMem w wr p ab L S) (A : Option Addr) (c : Nat) (keep : List Int) (hk : IntsIn w A keep) (hreach : keep.length * 8 ≤ 140737488351232) (hwl : S.waits.length < 4000000000) :
    Calls Try.prog 15 #[.pointer (some ⟨p, 0, none⟩), .slice A keep.length c] wr fun e w' => e = .returned (.tuple #[]) ∧ LastMem w w' p ab L (S.crash keep) := by
  obtain ⟨R, hD, hR, hab, hw, hb, hF, h1, h2, hl⟩ := h
  refine (Crash_any A c keep hD ⟨hk.1, fun h0 => ?_⟩ hreach hwl).mono ?_
  · obtain ⟨kb, ko, e, hc⟩ := hk.2 h0
    have hlt : kb < w.heap.size := cell_lt (hc 0 _ (List.getElem?_eq_getElem h0))
    exact ⟨kb, ko, e, fun hr => by have := hR kb hr; omega, fun j x hx => (hF.cell (p := ⟨kb, ko + j, none⟩) hlt (fun h => h)).trans (hc j x hx)⟩
  · rintro e w' ⟨rfl, hD', hf⟩
    exact ⟨rfl, _, hD', hR, hab, hw, hb.fr hf hab, hF.step hf (fun b hb' hr => by have := hR b hr; omega), rfl, rfl, hl⟩
theorem LastMem.read {w wr : World} {p ab : Nat} {L : List Int} {S : DS} (h : LastMem w wr p ab L S) (i : Int) (s : List UInt8) (h0 : 0 ≤ i) (hs : S.now[i.toNat]? = some s) :
    Calls Try.prog 16 #[.pointer (some ⟨p, 0, none⟩), .int .i64 i] wr fun e w' => e = .returned (.tuple #[.slice (some ⟨wr.heap.size, 0, none⟩) 64 64, .int .i64 0]) ∧ Row64 w' wr.heap.size s ∧ LastMem w w' p ab L S ∧ Fr Nob wr w' := by
  have h' := h
  obtain ⟨R, hD, hR, hab, hw, hb, hF, h1, h2, hl⟩ := h
  refine (Read_ok i s hD h0 h2 hs).mono ?_
  rintro e w' ⟨rfl, hr, hf⟩
  exact ⟨rfl, hr, h'.new hf, hf⟩

/-! ### the plain law -/
theorem map_setAll {α β : Type} (f : α → β) (ws : List (Nat × α)) : ∀ l : List α, setAll (l.map f) (ws.map fun x => (x.1, f x.2)) = (setAll l ws).map f := by
  induction ws with
  | nil => exact fun l => rfl
  | cons x ws ih =>
    intro l
    have := ih (l.set x.1 x.2)
    simp only [setAll, List.foldl_cons, List.map_cons] at this ⊢
    rw [← List.map_set, this]

/-- Ahead of the Flush: k writes. -/
structure First (k : Nat) (L : List Int) (S : DS) : Prop where
  waits : S.waits.length ≤ k
  now : S.now = L.map cont
  all : setAll S.last S.waits = S.now
theorem First.write {k : Nat} {L : List Int} {S : DS} (h : First k L S) (i : Nat) (x : Int) (hx : 0 < x) : First (k + 1) (L.set i x) (S.wr0 i (sect x)) := by
  have e : cont x = sect x := by unfold cont; rw [if_pos hx]
  refine ⟨by have := h.waits; simp [DS.wr0]; omega, ?_, ?_⟩
  · simp only [DS.wr0]; rw [List.map_set, e, h.now]
  · simp only [DS.wr0]; rw [setAll_snoc, h.all]

/-- Behind the Flush: the writes T, of which some are kept. -/
structure Then_ (keep : List Int) (L0 : List Int) (k : Nat) (L : List Int) (S : DS) : Prop where
  last : S.last = L0.map cont
  now : S.now.length = L0.length
  tells : ∃ T : List (Nat × Int), T.length = k ∧ S.waits = T.map (fun x => (x.1, cont x.2)) ∧ L = setAll L0 (chosen keep T)
theorem Then_.start {keep : List Int} {k : Nat} {L : List Int} {S : DS} (h : First k L S) : Then_ keep L 0 L S.flush0 := by
  refine ⟨?_, ?_, [], rfl, rfl, by simp [chosen_nil, setAll]⟩
  · simp only [DS.flush0]; rw [h.all, h.now]
  · simp only [DS.flush0]; rw [h.now]; simp
theorem Then_.write {keep : List Int} {L0 L : List Int} {k : Nat} {S : DS} (h : Then_ keep L0 k L S) (i : Nat) (x : Int) (hx : 0 < x) :
    Then_ keep L0 (k + 1) (if (k : Int) ∈ keep then L.set i x else L) (S.wr0 i (sect x)) := by
  have e : cont x = sect x := by unfold cont; rw [if_pos hx]
  obtain ⟨T, h1, h2, h3⟩ := h.tells
  refine ⟨h.last, by simp only [DS.wr0, List.length_set]; exact h.now, T ++ [(i, x)], by simp [h1], ?_, ?_⟩
  · simp only [DS.wr0, List.map_append, List.map_cons, List.map_nil, h2, e]
  · rw [chosen_snoc, h1]
    by_cases hk : (k : Int) ∈ keep
    · rw [if_pos hk, if_pos hk, setAll_snoc, h3]
    · rw [if_neg hk, if_neg hk, List.append_nil, h3]
theorem Then_.crash {keep : List Int} {L0 L : List Int} {k : Nat} {S : DS} (h : Then_ keep L0 k L S) : (S.crash keep).now = L.map cont := by
  obtain ⟨T, h1, h2, h3⟩ := h.tells
  simp only [DS.crash]
  rw [h.last, h2, chosen_map keep (fun x : Nat × Int => (x.1, cont x.2)) T, map_setAll, h3]

set_option maxHeartbeats 2000000 in
set_option maxRecDepth 100000 in
theorem Lasts_any (A1 : Option Addr) (c1 : Nat) (first : List Int) (A2 : Option Addr) (c2 : Nat) (thn : List Int) (A3 : Option Addr) (c3 : Nat) (keep : List Int) (w : World)
    (hi1 : IntsIn w A1 first) (hr1 : first.length * 8 ≤ 140737488351232) (hi2 : IntsIn w A2 thn) (hr2 : thn.length * 8 ≤ 140737488351232) (hi3 : IntsIn w A3 keep) (hr3 : keep.length * 8 ≤ 140737488351232) :
    Calls Try.prog 3 #[.slice A1 first.length c1, .slice A2 thn.length c2, .slice A3 keep.length c3] w fun e w' => e = .returned (.bool true) ∧ Fr Nob w w' := by
  have HI1 := Lib.hid hi1
  have HI2 := Lib.hid hi2
  have HI3 := Lib.hid hi3
  clear hi1 hi2 hi3
  go_enter Try.func3, Try.ntmps3
  go_wp2_with fail
  refine (New_ok 16 _ (by omega) (by omega)).mono ?_
  rintro e w1 ⟨p, rfl, hp, hD1, hf1⟩
  have hz1 := hf1.size
  have HM : Hid (LastMem w (w1.alloc (.cells (ints64 (List.replicate 16 0)) 27)) p w1.heap.size (List.replicate 16 0) (DS.new (16 : Int).toNat)) :=
    ⟨_, hD1.new ((Fr.refl _ w1).alloc _), fun b hb => hb.1, fun h => by omega, by omega, Blk.new w1 _ _, hf1.trans ((Fr.refl _ w1).alloc _), rfl, rfl, by simp, fun x hx => by rw [List.eq_of_mem_replicate hx]; omega⟩
  clear hD1 hf1
  go_wp2_with fail
  have HS : Hid (First 0 (List.replicate 16 0) (DS.new (16 : Int).toNat)) := ⟨by simp [DS.new], by simp [DS.new, cont], by simp [DS.new, setAll]⟩
  obtain ⟨ab, hab⟩ : ∃ ab, w1.heap.size = ab := ⟨_, rfl⟩
  rw [hab] at HM ⊢
  clear hab
  go_loopw [10, 11] (fun i _ wr => ∃ (k : Nat) (L : List Int) (S : DS), k ≤ first.length ∧ k ≤ 40 ∧ i = .int .i64 k ∧ Hid (LastMem w wr p ab L S) ∧ Hid (First k L S)) (fun i _ _ => 40 - (intOf i).toNat)
  case atStart => exact ⟨0, _, _, by omega, by omega, rfl, HM, HS⟩
  case round =>
    clear HM HS
    obtain ⟨k, L, S, hk, hk40, rfl, hM, hI⟩ := hrel
    by_cases hlt : k < first.length ∧ k < 40
    · obtain ⟨hlt1, hlt2⟩ := hlt
      obtain ⟨kb, ko, hA, hcl⟩ := HI1.out.2 (by omega)
      subst hA
      have hck : wr.cell? ⟨kb, ko + k, none⟩ = some (.int .i64 first[k]) := hM.out.cellk (hcl k _ (List.getElem?_eq_getElem hlt1))
      clear hcl
      generalize first[k] = x at *
      have hlen : Hid ((S.now.length : Int) = 16) := by show _ = _; rw [hI.out.now, List.length_map, hM.out.len]; rfl
      have hwl : S.waits.length < 4000000000 := by have := hI.out.waits; omega
      go_wp2_with fail
      rw [i64_and15]
      have hx0 : 0 ≤ x % 16 := by omega
      have hx1 : x % 16 < 16 := by omega
      generalize x % 16 = q at *
      obtain ⟨j, rfl⟩ := Int.eq_ofNat_of_zero_le hx0
      have hj : j < 16 := by omega
      refine (Sector_ok _ _ (by omega) (by omega)).mono ?_
      rintro e w3 ⟨rfl, hr3, hf3⟩
      have hM3 : Hid (LastMem w w3 p ab L S) := hM.out.new hf3
      have HR3 := Lib.hid hr3
      clear hr3 hf3
      go_wp2_with fail
      refine (hM3.out.write _ _ _ (by omega) (by rw [hlen.out]; omega) (sect_length _) HR3.out hwl).mono ?_
      rintro e w4 ⟨rfl, hM4⟩
      rw [Int.toNat_natCast] at hM4
      have HM4 := Lib.hid hM4
      obtain ⟨v0, ca, fa⟩ := hM4.arrE j hj
      have HM5 := Lib.hid (hM4.note j (k + 1) (by omega))
      have HI5 := Lib.hid (hI.out.write j (k + 1) (by omega))
      clear hM4
      go_wp2
      go_roundw
      case rel => exact ⟨k + 1, _, _, by omega, by omega, by go_num, HM5, HI5⟩
      case measure => simp [intOf]; omega
    · have hnk : ¬ ((k : Int) < (first.length : Int)) ∨ ((k : Int) < (first.length : Int) ∧ ¬ ((k : Int) < 40)) := by omega
      have hwl : S.waits.length < 4000000000 := by have := hI.out.waits; omega
      have hfl : Hid (∃ K : Act → World → Prop, True) := ⟨fun _ _ => True, trivial⟩
      rcases hnk with hnk | hnk
      all_goals
        go_wp2_with fail
        refine (hM.out.flush hwl).mono ?_
        rintro e w4 ⟨rfl, hM4⟩
        have HM4 := Lib.hid hM4
        clear hM4
        go_wp2_with fail
        refine (HM4.out.waiting).mono ?_
        rintro e w5 ⟨rfl, rfl⟩
        rw [show S.flush0.waits.length = 0 from rfl]
        have HI4 : Hid (Then_ keep L 0 L S.flush0) := Then_.start hI.out
        clear hI hM
        have hLl : Hid (L.length = 16) := HM4.out.len
        clear hwl hfl hnk hlt
        go_wp2
        go_loopw [12, 13, 14] (fun i _ _ wr => ∃ (k : Nat) (L' : List Int) (S : DS), k ≤ thn.length ∧ k ≤ 40 ∧ i = .int .i64 k ∧ Hid (LastMem w wr p ab L' S) ∧ Hid (Then_ keep L k L' S)) (fun i _ _ _ => 40 - (intOf i).toNat)
        case atStart => exact ⟨0, _, _, by omega, by omega, rfl, HM4, HI4⟩
        case round =>
          clear HM4 HI4
          obtain ⟨k, L', S, hk, hk40, rfl, hM, hI⟩ := hrel
          have hwl : S.waits.length < 4000000000 := by
            obtain ⟨T, h1, h2, _⟩ := hI.out.tells
            rw [h2, List.length_map, h1]; omega
          by_cases hlt : k < thn.length ∧ k < 40
          · obtain ⟨hlt1, hlt2⟩ := hlt
            obtain ⟨kb, ko, hA, hcl⟩ := HI2.out.2 (by omega)
            subst hA
            have hck : wr.cell? ⟨kb, ko + k, none⟩ = some (.int .i64 thn[k]) := hM.out.cellk (hcl k _ (List.getElem?_eq_getElem hlt1))
            clear hcl
            generalize thn[k] = x at *
            go_wp2_with fail
            rw [i64_and15]
            have hx0 : 0 ≤ x % 16 := by omega
            have hx1 : x % 16 < 16 := by omega
            generalize x % 16 = q at *
            obtain ⟨j, rfl⟩ := Int.eq_ofNat_of_zero_le hx0
            have hj : j < 16 := by omega
            have hlen : Hid ((S.now.length : Int) = 16) := by
              show _ = _
              rw [hI.out.now]
              have := hLl.out; omega
            refine (Sector_ok _ _ (by omega) (by omega)).mono ?_
            rintro e w3 ⟨rfl, hr3, hf3⟩
            have hM3 : Hid (LastMem w w3 p ab L' S) := hM.out.new hf3
            have HR3 := Lib.hid hr3
            clear hr3 hf3
            go_wp2_with fail
            refine (hM3.out.write _ _ _ (by omega) (by rw [hlen.out]; omega) (sect_length _) HR3.out hwl).mono ?_
            rintro e w4 ⟨rfl, hM4⟩
            rw [Int.toNat_natCast] at hM4
            have HM4 := Lib.hid hM4
            have HI5 := Lib.hid (hI.out.write (keep := keep) j (100 + k) (by omega))
            clear hM4 hM hM3 HR3
            go_wp2
            obtain ⟨wo, rfl⟩ : ∃ wo : World, wo = w4 := ⟨_, rfl⟩
            go_loopw [14] (fun i wr => ∃ m : Nat, m ≤ keep.length ∧ i = .int .i64 m ∧ Hid (LastMem w wr p ab (if (k : Int) ∈ keep.take m then L'.set j (100 + k) else L') (S.wr0 j (sect (100 + k))))) (fun i _ => keep.length - (intOf i).toNat)
            case atStart => exact ⟨0, by omega, rfl, by simpa using HM4⟩
            case round =>
              obtain ⟨m, hm, rfl, hMm⟩ := hrel
              by_cases hml : m < keep.length
              · obtain ⟨kb3, ko3, hA3, hcl3⟩ := HI3.out.2 (by omega)
                subst hA3
                have hcm : wr.cell? ⟨kb3, ko3 + m, none⟩ = some (.int .i64 keep[m]) := hMm.out.cellk (hcl3 m _ (List.getElem?_eq_getElem hml))
                clear hcl3
                obtain ⟨v0, ca, fa⟩ := hMm.out.arrE j hj
                have HNt := Lib.hid (hMm.out.note j (100 + k) (by omega))
                have HTk : Hid (keep.take (m + 1) = keep.take m ++ [keep[m]]) := by
                  show _ = _
                  rw [List.take_add_one, List.getElem?_eq_getElem hml]; rfl
                by_cases hy : keep[m] = (k : Int)
                · have hyb : (keep[m] == (k : Int)) = true := by simpa using hy
                  have HTk2 : Hid ((k : Int) ∈ keep.take (m + 1)) := by
                    show _ ∈ _
                    rw [HTk.out, hy]; simp
                  clear hy HTk
                  generalize keep[m] = y at *
                  have HN2 : Hid (LastMem w (wr.setCell ⟨ab, j, none⟩ (.int .i64 (100 + k))) p ab (if (k : Int) ∈ keep.take (m + 1) then L'.set j (100 + k) else L') (S.wr0 j (sect (100 + k)))) := by
                    show LastMem _ _ _ _ _ _
                    have h2 := HNt.out
                    rw [if_pos HTk2.out]
                    split at h2
                    · rwa [List.set_set] at h2
                    · exact h2
                  clear HNt
                  go_wp2
                  go_roundw
                  case rel => exact ⟨m + 1, by omega, by go_num, HN2⟩
                  case measure => simp [intOf]; omega
                · have hyb : (keep[m] == (k : Int)) = false := by simpa using hy
                  have HN2 : Hid (LastMem w wr p ab (if (k : Int) ∈ keep.take (m + 1) then L'.set j (100 + k) else L') (S.wr0 j (sect (100 + k)))) := by
                    show LastMem _ _ _ _ _ _
                    have h2 := hMm.out
                    have e : ((k : Int) ∈ keep.take (m + 1)) ↔ (k : Int) ∈ keep.take m := by
                      rw [HTk.out, List.mem_append, List.mem_singleton]
                      exact ⟨fun h => h.resolve_right (fun h => hy h.symm), .inl⟩
                    by_cases hk2 : (k : Int) ∈ keep.take m
                    · rw [if_pos (e.2 hk2)]; rwa [if_pos hk2] at h2
                    · rw [if_neg (fun h => hk2 (e.1 h))]; rwa [if_neg hk2] at h2
                  clear hy HTk HNt
                  generalize keep[m] = y at *
                  go_wp2
                  go_roundw
                  case rel => exact ⟨m + 1, by omega, by go_num, HN2⟩
                  case measure => simp [intOf]; omega
              · obtain rfl : m = keep.length := by omega
                have hMm' := hMm.out
                rw [List.take_length] at hMm'
                have HMm := Lib.hid hMm'
                clear hMm' hMm
                go_wp2
                go_roundw
                case rel => exact ⟨k + 1, _, _, by omega, by omega, by go_num, HMm, HI5⟩
                case measure => simp [intOf]; omega
          · have hnk : ¬ ((k : Int) < (thn.length : Int)) ∨ ((k : Int) < (thn.length : Int) ∧ ¬ ((k : Int) < 40)) := by omega
            have HNow := Lib.hid hI.out.crash
            clear hI hlt hLl
            rcases hnk with hnk | hnk
            all_goals
              go_wp2_with fail
              refine (hM.out.crash _ _ _ HI3.out hr3 hwl).mono ?_
              rintro e w4 ⟨rfl, hM4⟩
              have HM4 := Lib.hid hM4
              clear hM4 hM hnk
              go_wp2
              go_loopw [15, 16, 17, 18] (fun i _ _ _ wr => ∃ m : Nat, m ≤ 16 ∧ i = .int .i64 m ∧ Hid (LastMem w wr p ab L' (S.crash keep))) (fun i _ _ _ _ => 16 - (intOf i).toNat)
              case atStart => exact ⟨0, by omega, rfl, HM4⟩
              case round =>
                clear HM4
                obtain ⟨m, hm, rfl, hM⟩ := hrel
                by_cases hlm : m < 16
                · have hmL : m < L'.length := by rw [hM.out.len]; exact hlm
                  obtain ⟨ca, _⟩ := hM.out.arr m hmL
                  have hbd := hM.out.bd _ (List.getElem_mem hmL)
                  have hnow : Hid ((S.crash keep).now[m]? = some (cont L'[m])) := by
                    show _ = _
                    rw [HNow.out, List.getElem?_map, List.getElem?_eq_getElem hmL]; rfl
                  clear ca
                  have harr : Hid (∀ wz, LastMem w wz p ab L' (S.crash keep) → wz.cell? ⟨ab, m, none⟩ = some (.int .i64 L'[m])) := fun wz h => (h.arr m hmL).1
                  generalize L'[m] = x at *
                  go_wp2_with fail
                  refine (hM.out.read _ (cont x) (by omega) (by rw [Int.toNat_natCast]; exact hnow.out)).mono ?_
                  rintro e w5 ⟨rfl, hr5, hM5, hf5⟩
                  have HR5 := Lib.hid hr5
                  have HM5 := Lib.hid hM5
                  clear hr5 hM5 hf5
                  go_wp2_with fail
                  refine (Nought_any _).mono ?_
                  rintro e w6 ⟨rfl, hf6⟩
                  have HM6 := Lib.hid (HM5.out.new hf6)
                  have HR6 : Hid (Row64 w6 wr.heap.size (cont x)) := HR5.out.fr hf6 (fun h => h)
                  clear hf6
                  have ca := harr.out w6 HM6.out
                  by_cases hx : 0 < x
                  · have ec : cont x = sect x := by unfold cont; rw [if_pos hx]
                    rw [ec] at HR6
                    clear ec HR5
                    go_wp2_with fail
                    refine (Sector_ok x _ (by omega) (by omega)).mono ?_
                    rintro e w7 ⟨rfl, hr7, hf7⟩
                    have c7 := Row64.conv hr7 (sect_length x)
                    have c6 := Row64.conv (HR6.out.fr hf7 (fun h => h)) (sect_length x)
                    have HM7 := Lib.hid (HM6.out.new hf7)
                    clear hr7 hf7 ca
                    generalize sect x = sx at *
                    go_wp2
                    go_roundw
                    case rel => exact ⟨m + 1, by omega, by go_num, HM7⟩
                    case measure => simp [intOf]; omega
                  · have ec : cont x = nought := by unfold cont; rw [if_neg hx]
                    rw [ec] at HR6
                    clear ec HR5
                    have c6 := Row64.conv HR6.out nought_length
                    generalize nought = sx at *
                    go_wp2
                    go_roundw
                    case rel => exact ⟨m + 1, by omega, by go_num, HM6⟩
                    case measure => simp [intOf]; omega
                · obtain rfl : m = 16 := by omega
                  go_wp2_with fail
                  refine (awake2_any _).mono ?_
                  rintro e w5 ⟨rfl, hf5⟩
                  have hfin := hM.out.frame.trans hf5
                  clear hf5
                  go_wp2
                  go_ret
                  exact ⟨rfl, hfin⟩
end Go.Proofs.Ytieiopeblleheaa
