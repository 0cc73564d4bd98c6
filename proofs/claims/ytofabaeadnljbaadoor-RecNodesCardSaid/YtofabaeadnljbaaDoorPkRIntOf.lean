/-
  The document's IntOf, and its reader.
-/
import Derived.Test.YtofabaeadnljbaaDoorPkRVar
namespace Go.Proofs.YtofabaeadnljbaaDoor
set_option linter.unusedSimpArgs false
set_option linter.unusedVariables false
open Go.RowKit

set_option maxRecDepth 100000 in
theorem RIntOf_any (b : List UInt8) (w : World) (hl : b.length ≤ 140737488351232) :
    Calls Tryd.prog 47 #[.string ⟨b.toArray⟩] w fun e w' => e = .returned (intOfV (intOfB b)) ∧ w = w' := by
  have HV := Lib.hid (RVar_any b w hl)
  obtain ⟨s1, _, _, s4⟩ := varB_spec b
  have HD : Hid (intOfB b = if (varB b).2.2 = 0 then (intV (varB b).1, (varB b).2.1, 0) else (0, 0, (varB b).2.2)) := rfl
  obtain ⟨x, n, e, hr⟩ : ∃ x n e, varB b = (x, n, e) := ⟨_, _, _, rfl⟩
  rw [hr] at HV HD s1
  clear hr s4
  have HV : Hid (Calls Tryd.prog 39 #[.string ⟨b.toArray⟩] w fun e' w' => e' = .returned (.tuple #[.int .u64 (x : Int), .int .i64 (n : Int), .int .i64 (e : Int)]) ∧ w = w') := HV
  have HD : Hid (intOfB b = if e = 0 then (intV x, n, 0) else (0, 0, e)) := HD
  have s1 : x < 18446744073709551616 := s1
  by_cases he : e = 0
  · subst he
    have HDr : Hid (intOfB b = (intV x, n, 0)) := HD
    have e1 : IntKind.i64.wrap ((x : Int) / 2) = (x : Int) / 2 := by rw [IntKind.wrap_i64]; omega
    have hand := and64_1 x s1
    rcases Nat.mod_two_eq_zero_or_one x with hm | hm
    · rw [hm] at hand
      have HI : Hid (intV x = (x : Int) / 2) := by unfold Hid intV; rw [if_neg (by omega)]; rfl
      clear HD hm
      go_enter Tryd.func47, Tryd.ntmps47
      go_wp2_with fail
      refine HV.out.mono ?_
      rintro e w1 ⟨rfl, rfl⟩
      go_wp2
      go_ret3
      exact ⟨by rw [HDr.out, HI.out]; rfl, rfl⟩
    · rw [hm] at hand
      have HI : Hid (intV x = -((x : Int) / 2) - 1) := by unfold Hid intV; rw [if_pos hm]; rfl
      have e2 : IntKind.i64.wrap (-((x : Int) / 2)) = -((x : Int) / 2) := by rw [IntKind.wrap_i64]; omega
      have e3 : IntKind.i64.wrap (-((x : Int) / 2) - 1) = -((x : Int) / 2) - 1 := by rw [IntKind.wrap_i64]; omega
      clear HD hm
      go_enter Tryd.func47, Tryd.ntmps47
      go_wp2_with fail
      refine HV.out.mono ?_
      rintro e w1 ⟨rfl, rfl⟩
      go_wp2
      go_ret3
      exact ⟨by rw [HDr.out, HI.out]; rfl, rfl⟩
  · have HDr : Hid (intOfB b = (0, 0, e)) := by rw [Hid, HD.out, if_neg he]
    have te : ((e : Int) == 0) = false := by rw [beq_eq_false_iff_ne]; omega
    clear HD
    go_enter Tryd.func47, Tryd.ntmps47
    go_wp2_with fail
    refine HV.out.mono ?_
    rintro e w1 ⟨rfl, rfl⟩
    go_wp2
    go_ret3
    exact ⟨by rw [HDr.out]; rfl, rfl⟩

theorem str_drop (b : List UInt8) (n : Nat) (h : n ≤ b.length) : (⟨b.toArray⟩ : ByteArray).extract n b.length = ⟨(b.drop n).toArray⟩ := by
  apply ByteArray.ext
  simp
  exact List.take_of_length_le (by rw [List.length_drop]; omega)
set_option maxHeartbeats 800000 in
set_option maxRecDepth 100000 in
theorem rdInt_any {w : World} {p : Nat} {r : Rd} (h : Blk w p 70 #[strv r.b, .int .i64 r.e]) (hl : r.b.length ≤ 140737488351232) (hr : r.e ≤ 5) :
    Calls Tryd.prog 26 #[.pointer (some ⟨p, 0, none⟩)] w fun e w' => e = .returned (.int .i64 r.x) ∧ Blk w' p 70 #[strv r.nx.b, .int .i64 r.nx.e] ∧ Fr (fun b => b = p) w w' := by
  have K1 := Lib.hid h
  have c0 : w.cell? ⟨p, 0, none⟩ = some (.string ⟨r.b.toArray⟩) := h.cell 0
  have c1 := h.cell 1
  simp only [List.getElem?_toArray, List.getElem?_cons_zero, List.getElem?_cons_succ] at c1
  have f0 := h.frozen 0
  have f1 := h.frozen 1
  have z0 := h.lt
  clear h
  by_cases he : r.e = 0
  · have HI := Lib.hid (RIntOf_any r.b w hl)
    obtain ⟨s1, s2, s3, s4, s5⟩ := intOfB_spec r.b
    have HX : Hid (r.x = (intOfB r.b).1) := by unfold Hid Rd.x; rw [if_pos he]
    have HNx : Hid (r.nx = ⟨r.b.drop (intOfB r.b).2.1, (intOfB r.b).2.2⟩) := by unfold Hid Rd.nx; rw [if_pos he]
    rw [he] at c1
    obtain ⟨x, n, e, hv⟩ : ∃ x n e, intOfB r.b = (x, n, e) := ⟨_, _, _, rfl⟩
    rw [hv] at HI HX HNx s1 s2 s5
    have HI : Hid (Calls Tryd.prog 47 #[.string ⟨r.b.toArray⟩] w fun e' w' => e' = .returned (.tuple #[.int .i64 x, .int .i64 (n : Int), .int .i64 (e : Int)]) ∧ w = w') := HI
    have HX : Hid (r.x = x) := HX
    have HNx : Hid (r.nx = ⟨r.b.drop n, e⟩) := HNx
    have s1 : n ≤ r.b.length := s1
    have s5 : e ≠ 0 → x = 0 ∧ n = 0 := s5
    have hsz : (⟨r.b.toArray⟩ : ByteArray).size = r.b.length := rfl
    have hdr := str_drop r.b n s1
    have K1 : Hid (Blk w p 70 #[strv r.b, .int .i64 0]) := by have := K1.out; rw [he] at this; exact this
    clear s4 s3 hv he
    by_cases h0 : e = 0
    · subst h0
      have u0 : (0 : Int) ≤ (n : Int) := by omega
      have u1 : (n : Int) ≤ (r.b.length : Int) := by omega
      go_enter Tryd.func26, Tryd.ntmps26
      go_wp2_with fail
      refine HI.out.mono ?_
      rintro e' w1 ⟨rfl, rfl⟩
      go_wp2
      go_ret
      refine ⟨by rw [HX.out]; rfl, ?_, (Fr.refl (fun b => b = p) w).setCell (p := ⟨p, 0, none⟩) (.inr rfl) _⟩
      rw [HNx.out]
      exact K1.out.set_ 0 _
    · obtain ⟨rfl, rfl⟩ := s5 h0
      have te : ((e : Int) == 0) = false := by rw [beq_eq_false_iff_ne]; omega
      go_enter Tryd.func26, Tryd.ntmps26
      go_wp2_with fail
      refine HI.out.mono ?_
      rintro e' w1 ⟨rfl, rfl⟩
      go_wp2
      go_ret
      exact ⟨by rw [HX.out]; rfl, by rw [HNx.out]; exact K1.out.set_ 1 _, (Fr.refl (fun b => b = p) w).setCell (p := ⟨p, 1, none⟩) (.inr rfl) _⟩
  · have te : ((r.e : Int) == 0) = false := by rw [beq_eq_false_iff_ne]; omega
    have HX : Hid (r.x = 0) := by unfold Hid Rd.x; rw [if_neg he]
    have HNx : Hid (r.nx = r) := by unfold Hid Rd.nx; rw [if_neg he]
    clear he
    go_enter Tryd.func26, Tryd.ntmps26
    go_wp2
    go_ret
    exact ⟨by rw [HX.out]; rfl, by rw [HNx.out]; exact K1.out, Fr.refl _ _⟩

set_option maxHeartbeats 800000 in
set_option maxRecDepth 100000 in
theorem rdEnd_any {w : World} {p : Nat} {r : Rd} (h : Blk w p 70 #[strv r.b, .int .i64 r.e]) (hr : r.e ≤ 5) :
    Calls Tryd.prog 27 #[.pointer (some ⟨p, 0, none⟩)] w fun e w' => e = .returned (.int .i64 r.stop) ∧ Fr (fun b => b = p) w w' := by
  have c0 : w.cell? ⟨p, 0, none⟩ = some (.string ⟨r.b.toArray⟩) := h.cell 0
  have c1 := h.cell 1
  simp only [List.getElem?_toArray, List.getElem?_cons_zero, List.getElem?_cons_succ] at c1
  have f1 := h.frozen 1
  have z0 := h.lt
  have HS : Hid (r.stop = if r.e = 0 ∧ 0 < r.b.length then 3 else r.e) := rfl
  have HF : Hid (Fr (fun b => b = p) w (w.setCell ⟨p, 1, none⟩ (.int .i64 3))) := (Fr.refl (fun b => b = p) w).setCell (p := ⟨p, 1, none⟩) (.inr rfl) _
  have HC : Hid ((w.setCell ⟨p, 1, none⟩ (.int .i64 3)).cell? ⟨p, 1, none⟩ = some (.int .i64 3)) := (h.set_ 1 _).cell 1
  clear h
  obtain ⟨e, hee⟩ : ∃ e, r.e = e := ⟨_, rfl⟩
  obtain ⟨b, hbb⟩ : ∃ b, r.b = b := ⟨_, rfl⟩
  rw [hee] at c1 HS hr
  rw [hbb] at c0 HS
  clear hee hbb
  by_cases he : e = 0
  · subst he
    cases b with
    | nil =>
      have HS2 : Hid (r.stop = 0) := by rw [Hid, HS.out]; rfl
      clear HS
      go_enter Tryd.func27, Tryd.ntmps27
      go_wp2
      go_ret
      exact ⟨by rw [HS2.out]; rfl, Fr.refl _ _⟩
    | cons x b =>
      have HS2 : Hid (r.stop = 3) := by rw [Hid, HS.out, if_pos ⟨rfl, by simp⟩]
      have tb : ((⟨(x :: b).toArray⟩ : ByteArray).toList == (⟨#[]⟩ : ByteArray).toList) = false := by
        rw [beq_eq_false_iff_ne]
        intro h
        have := congrArg List.length h
        simp at this
      clear HS
      go_enter Tryd.func27, Tryd.ntmps27
      go_wp2
      go_ret
      exact ⟨by rw [HS2.out]; rfl, HF.out⟩
  · have HS2 : Hid (r.stop = e) := by rw [Hid, HS.out, if_neg (fun h => he h.1)]
    have te : ((e : Int) == 0) = false := by rw [beq_eq_false_iff_ne]; omega
    clear HS
    go_enter Tryd.func27, Tryd.ntmps27
    go_wp2
    go_ret
    exact ⟨by rw [HS2.out]; rfl, Fr.refl _ _⟩
end Go.Proofs.YtofabaeadnljbaaDoor
