/-
  The reader: numbers told one by one, the first error too; NodeOf.
-/
import Derived.Test.YtofabaeadnljbaaDoorPkNums
namespace Go.Proofs.YtofabaeadnljbaaDoor
set_option linter.unusedSimpArgs false
set_option linter.unusedVariables false
open Go.RowKit

/-- A slice of bytes, as a value shows it. -/
structure Bs (w : World) (A : Option Addr) (cp : Nat) (l : List UInt8) : Prop where
  h : BytesIn w A l
  le : l.length ≤ cp
  at_ : (A = none ∧ cp = 0) ∨ ∃ a, A = some a
theorem Bs.fr {F : Nat → Prop} {w w' : World} {A : Option Addr} {cp : Nat} {l : List UInt8} (h : Bs w A cp l) (hf : Fr F w w') (hA : 0 < l.length → ∀ a, A = some a → ¬ F a.block) : Bs w' A cp l :=
  ⟨fun h0 => h.h.fr hf (hA h0) h0, h.le, h.at_⟩
theorem Bs.new {w w' : World} {A : Option Addr} {cp : Nat} {l : List UInt8} (h : Bs w A cp l) (hf : Fr Nob w w') : Bs w' A cp l := h.fr hf (fun _ _ _ h => h)
theorem Made.bs {w w' : World} {v : Value} {l : List UInt8} (h : Made w w' v l) : ∃ A, v = .slice A l.length l.length ∧ Bs w' A l.length l ∧ ∀ a, A = some a → w.heap.size ≤ a.block := by
  obtain ⟨g, rfl, hb, h1, h2, _⟩ := h
  exact ⟨_, rfl, ⟨hb, Nat.le_refl _, .inr ⟨_, rfl⟩⟩, fun a ha => by injection ha with ha; subst ha; exact h1⟩

/-- The reader's two boxes. -/
structure RdAt (w : World) (B : Nat) (r : Rd) : Prop where
  ok : ∃ A cp, Blk w B 26 #[.slice A r.b.length cp] ∧ Bs w A cp r.b ∧ (0 < r.b.length → ∀ a, A = some a → a.block < B)
  e : Blk w (B + 1) 28 #[.int .i64 r.e]
theorem RdAt.fr {F : Nat → Prop} {w w' : World} {B : Nat} {r : Rd} (h : RdAt w B r) (hf : Fr F w w') (h1 : ¬ F B) (h2 : ¬ F (B + 1)) (h3 : ∀ b, b < B → ¬ F b) : RdAt w' B r := by
  obtain ⟨⟨A, cp, k1, k2, k3⟩, k4⟩ := h
  exact ⟨⟨A, cp, k1.fr hf h1, k2.fr hf (fun h0 a ha => h3 _ (k3 h0 a ha)), k3⟩, k4.fr hf h2⟩
theorem RdAt.new {w w' : World} {B : Nat} {r : Rd} (h : RdAt w B r) (hf : Fr Nob w w') : RdAt w' B r := h.fr hf (fun h => h) (fun h => h) (fun _ _ h => h)

set_option maxRecDepth 100000 in
theorem reader_any (A : Option Addr) (cp : Nat) (b : List UInt8) (w : World) (h : Bs w A cp b) :
    Calls Tryd.prog 25 #[.slice A b.length cp] w fun e w' => e = .returned (.tuple #[.func (.func 44) #[] #[.pointer (some ⟨w.heap.size + 1, 0, none⟩), .pointer (some ⟨w.heap.size, 0, none⟩)], .func (.func 46) #[] #[.pointer (some ⟨w.heap.size + 1, 0, none⟩), .pointer (some ⟨w.heap.size, 0, none⟩)]]) ∧ RdAt w' w.heap.size (Rd.of b) ∧ Fr Nob w w' := by
  have H := Lib.hid h
  clear h
  go_enter Tryd.func25, Tryd.ntmps25
  go_wp2
  have hb1 : Blk ((w.alloc (.cells #[.slice A b.length cp] 26)).alloc (.cells #[.int .i64 0] 28)) w.heap.size 26 #[.slice A b.length cp] := (Blk.new w _ _).alloc _
  have hb2 : Blk ((w.alloc (.cells #[.slice A b.length cp] 26)).alloc (.cells #[.int .i64 0] 28)) (w.heap.size + 1) 28 #[.int .i64 0] := by
    have := Blk.new (w.alloc (.cells #[.slice A b.length cp] 26)) 28 #[.int .i64 0]
    rwa [World.size_alloc] at this
  have hF : Fr Nob w ((w.alloc (.cells #[.slice A b.length cp] 26)).alloc (.cells #[.int .i64 0] 28)) := ((Fr.refl Nob w).alloc _).alloc _
  go_ret2
  refine ⟨rfl, ⟨⟨A, cp, hb1, H.out.new hF, fun h0 a ha => ?_⟩, hb2⟩, hF⟩
  obtain ⟨g, o, e, hc⟩ := H.out.h h0
  rw [e] at ha; injection ha with ha; subst ha
  exact cell_lt (hc 0 _ (List.getElem?_eq_getElem h0))

theorem rd_store {w W : World} {B n e cp' l' : Nat} {v : Value} {x : Value} {A' : Option Addr} {b : List UInt8} (k1 : Blk w B 26 #[x]) (k2 : Blk w (B + 1) 28 #[v]) (hA' : 0 < (b.drop n).length → ∀ a, A' = some a → a.block < B) (hb : Bs w A' cp' (b.drop n)) (hl : l' = (b.drop n).length)
    (hW : W = (w.setCell ⟨B, 0, none⟩ (.slice A' l' cp')).setCell ⟨B + 1, 0, none⟩ (.int .i64 (e : Int))) : RdAt W B ⟨b.drop n, e⟩ ∧ Fr (fun b => b = B ∨ b = B + 1) w W := by
  have hF : Fr (fun b => b = B ∨ b = B + 1) w W := by
    rw [hW]
    exact ((Fr.refl (fun b => b = B ∨ b = B + 1) w).setCell (p := ⟨B, 0, none⟩) (.inr (.inl rfl)) _).setCell (p := ⟨B + 1, 0, none⟩) (.inr (.inr rfl)) _
  subst hl
  refine ⟨⟨⟨A', cp', ?_, hb.fr hF (fun h0 a ha h => ?_), hA'⟩, ?_⟩, hF⟩
  · rw [hW]
    exact (k1.set_ 0 _).far (p := ⟨B + 1, 0, none⟩) (by show B ≠ B + 1; omega) _
  · have := hA' h0 a ha
    omega
  · rw [hW]
    exact (k2.far (p := ⟨B, 0, none⟩) (by show B + 1 ≠ B; omega) _).set_ 0 _

set_option maxHeartbeats 800000 in
set_option maxRecDepth 100000 in
theorem next_any {w : World} {B : Nat} {r : Rd} (h : RdAt w B r) (hl : r.b.length ≤ 140737488351232) (hr : r.e ≤ 5) :
    Calls Tryd.prog 44 #[.pointer (some ⟨B + 1, 0, none⟩), .pointer (some ⟨B, 0, none⟩)] w fun e w' => e = .returned (.int .i64 r.x) ∧ RdAt w' B r.nx ∧ Fr (fun b => b = B ∨ b = B + 1) w w' := by
  have H := Lib.hid h
  obtain ⟨⟨A, cp, k1, k2, k3⟩, k4⟩ := h
  have c0 := k1.cell 0
  have c1 := k4.cell 0
  simp only [List.getElem?_toArray, List.getElem?_cons_zero] at c0 c1
  have f0 := k1.frozen 0
  have f1 := k4.frozen 0
  have z0 := k1.lt
  have z1 := k4.lt
  have K1 := Lib.hid k1
  have K2 := Lib.hid k2
  have K3 := Lib.hid k3
  have K4 := Lib.hid k4
  by_cases he : r.e = 0
  · have HI := Lib.hid (IntOf_any A cp r.b w k2.h hl)
    obtain ⟨s1, s2, s3, s4, s5⟩ := intOfB_spec r.b
    have HX : Hid (r.x = (intOfB r.b).1) := by unfold Hid Rd.x; rw [if_pos he]
    have HNx : Hid (r.nx = ⟨r.b.drop (intOfB r.b).2.1, (intOfB r.b).2.2⟩) := by unfold Hid Rd.nx; rw [if_pos he]
    rw [he] at c1
    obtain ⟨x, n, e, hv⟩ : ∃ x n e, intOfB r.b = (x, n, e) := ⟨_, _, _, rfl⟩
    rw [hv] at HI HX HNx s1 s2
    have HI : Hid (Calls Tryd.prog 45 #[.slice A r.b.length cp] w fun e' w' => e' = .returned (.tuple #[.int .i64 x, .int .i64 (n : Int), .int .i64 (e : Int)]) ∧ w = w') := HI
    have HX : Hid (r.x = x) := HX
    have HNx : Hid (r.nx = ⟨r.b.drop n, e⟩) := HNx
    have s1 : n ≤ r.b.length := s1
    have hle := k2.le
    obtain ⟨l, hll⟩ : ∃ l, r.b.length = l := ⟨_, rfl⟩
    have HLl := Lib.hid hll
    rw [hll] at c0 s1 hl hle HI K1
    clear s5 s4 s3 k1 k2 k3 k4 hll hv he
    by_cases hl0 : 0 < l
    · obtain ⟨g, o, rfl, _⟩ := K2.out.h (by rw [HLl.out]; exact hl0)
      go_enter Tryd.func44, Tryd.ntmps44
      go_wp2_with fail
      refine HI.out.mono ?_
      rintro e' w1 ⟨rfl, rfl⟩
      have u0 : (0 : Int) ≤ (n : Int) := by omega
      have u1 : (n : Int) ≤ (l : Int) := by omega
      have hcut := cutA_eq g o n cp
      go_wp2
      go_ret
      have := rd_store (n := n) (e := e) (A' := some (cutA g o n cp)) (cp' := cp - n) (b := r.b) (l' := l - n) K1.out K4.out (fun _ a ha => by
        injection ha with ha; subst ha; rw [cutA_block]; exact K3.out (by rw [HLl.out]; exact hl0) _ rfl) ⟨bytesIn_drop K2.out.h n cp (by rw [HLl.out]; exact hle) (by rw [HLl.out]; exact s1), by rw [List.length_drop, HLl.out]; omega, .inr ⟨_, rfl⟩⟩ (by rw [List.length_drop, HLl.out]) rfl
      exact ⟨by rw [HX.out]; rfl, by rw [HNx.out]; exact this.1, this.2⟩
    · obtain rfl : l = 0 := by omega
      obtain rfl : n = 0 := by omega
      have hb0 : r.b = [] := List.eq_nil_of_length_eq_zero HLl.out
      rcases K2.out.at_ with ⟨rfl, rfl⟩ | ⟨a, rfl⟩
      · go_enter Tryd.func44, Tryd.ntmps44
        go_wp2_with fail
        refine HI.out.mono ?_
        rintro e' w1 ⟨rfl, rfl⟩
        go_wp2
        go_ret
        have := rd_store (n := 0) (e := e) (A' := none) (cp' := 0) (b := r.b) (l' := 0) K1.out K4.out (fun _ a ha => by cases ha) (by rw [hb0]; exact ⟨fun h => absurd h (by simp), by simp, .inl ⟨rfl, rfl⟩⟩) (by rw [hb0]; rfl) rfl
        exact ⟨by rw [HX.out]; rfl, by rw [HNx.out]; exact this.1, this.2⟩
      · obtain ⟨ab, ao, asp⟩ := a
        go_enter Tryd.func44, Tryd.ntmps44
        go_wp2_with fail
        refine HI.out.mono ?_
        rintro e' w1 ⟨rfl, rfl⟩
        go_wp2
        go_ret
        have := rd_store (n := 0) (e := e) (A' := some ⟨ab, ao, asp⟩) (cp' := cp) (b := r.b) (l' := 0) K1.out K4.out (fun h0 => absurd h0 (by rw [hb0]; simp)) (by rw [hb0]; exact ⟨fun h => absurd h (by simp), by simp, .inr ⟨_, rfl⟩⟩) (by rw [hb0]; rfl) rfl
        exact ⟨by rw [HX.out]; rfl, by rw [HNx.out]; exact this.1, this.2⟩
  · have te : ((r.e : Int) == 0) = false := by rw [beq_eq_false_iff_ne]; omega
    have HX : Hid (r.x = 0) := by unfold Hid Rd.x; rw [if_neg he]
    have HNx : Hid (r.nx = r) := by unfold Hid Rd.nx; rw [if_neg he]
    clear k1 k2 k3 k4 he
    go_enter Tryd.func44, Tryd.ntmps44
    go_wp2
    go_ret
    exact ⟨by rw [HX.out]; rfl, by rw [HNx.out]; exact H.out, Fr.refl _ _⟩

set_option maxHeartbeats 800000 in
set_option maxRecDepth 100000 in
theorem end_any {w : World} {B : Nat} {r : Rd} (h : RdAt w B r) (hr : r.e ≤ 5) :
    Calls Tryd.prog 46 #[.pointer (some ⟨B + 1, 0, none⟩), .pointer (some ⟨B, 0, none⟩)] w fun e w' => e = .returned (.int .i64 r.stop) ∧ Fr (fun b => b = B ∨ b = B + 1) w w' := by
  obtain ⟨⟨A, cp, k1, k2, k3⟩, k4⟩ := h
  have c0 := k1.cell 0
  have c1 := k4.cell 0
  simp only [List.getElem?_toArray, List.getElem?_cons_zero] at c0 c1
  have f0 := k1.frozen 0
  have f1 := k4.frozen 0
  have z0 := k1.lt
  have z1 := k4.lt
  have qL := len_bytes
  have HF : Hid (Fr (fun b => b = B ∨ b = B + 1) w (w.setCell ⟨B + 1, 0, none⟩ (.int .i64 3))) := (Fr.refl (fun b => b = B ∨ b = B + 1) w).setCell (p := ⟨B + 1, 0, none⟩) (.inr (.inr rfl)) _
  have HS : Hid (r.stop = if r.e = 0 ∧ 0 < r.b.length then 3 else r.e) := rfl
  have c1' : Hid ((w.setCell ⟨B + 1, 0, none⟩ (.int .i64 3)).cell? ⟨B + 1, 0, none⟩ = some (.int .i64 3)) := (k4.set_ 0 _).cell 0
  clear k1 k2 k3 k4
  obtain ⟨l, hll⟩ : ∃ l, r.b.length = l := ⟨_, rfl⟩
  obtain ⟨e, hee⟩ : ∃ e, r.e = e := ⟨_, rfl⟩
  rw [hll] at c0 HS
  rw [hee] at c1 HS hr
  clear hll hee
  by_cases he : e = 0
  · subst he
    by_cases h0 : 0 < l
    · have HS2 : Hid (r.stop = 3) := by rw [Hid, HS.out, if_pos ⟨rfl, h0⟩]
      have h0' : (0 : Int) < (l : Int) := by omega
      clear HS
      go_enter Tryd.func46, Tryd.ntmps46
      go_wp2
      try (rw [qL]; go_wp2)
      go_ret
      exact ⟨by rw [HS2.out]; rfl, HF.out⟩
    · have HS2 : Hid (r.stop = 0) := by rw [Hid, HS.out, if_neg (fun h => h0 h.2)]
      have h0' : ¬ (0 : Int) < (l : Int) := by omega
      clear HS
      go_enter Tryd.func46, Tryd.ntmps46
      go_wp2
      try (rw [qL]; go_wp2)
      go_ret
      exact ⟨by rw [HS2.out]; rfl, Fr.refl _ _⟩
  · have HS2 : Hid (r.stop = e) := by rw [Hid, HS.out, if_neg (fun h => he h.1)]
    have te : ((e : Int) == 0) = false := by rw [beq_eq_false_iff_ne]; omega
    clear HS
    go_enter Tryd.func46, Tryd.ntmps46
    go_wp2
    go_ret
    exact ⟨by rw [HS2.out]; rfl, Fr.refl _ _⟩
end Go.Proofs.YtofabaeadnljbaaDoor
