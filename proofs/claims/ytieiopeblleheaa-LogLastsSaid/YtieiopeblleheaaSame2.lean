/-
  Same: a disk that stands as the document's is told so.
-/
import Derived.Test.YtieiopeblleheaaRef4
import Derived.Deep.QuietTactic
import Derived.BigQuiet
import Derived.Laws.BytesArg
namespace Go.Proofs.Ytieiopeblleheaa
set_option linter.unusedSimpArgs false
set_option linter.unusedVariables false
open Go.RowKit

theorem quiet_mine {P : Program} {f : FuncId} {args : Array Value} {w : World} {n : Nat} {v : Value} (h : Calls P f args (w.drewN n) fun e w' => e = .returned v ∧ w.drewN n = w') :
    Calls P f args (w.drewN n) fun e w'' => e = .returned v ∧ ∃ m, w'' = w.drewN m := h.mono fun _ _ ⟨he, hm⟩ => ⟨he, n, hm.symm⟩
theorem DiskOk.drewN {R : Nat → Prop} {w : World} {p : Nat} {S : DS} (h : DiskOk R w p S) (n : Nat) : DiskOk R (w.drewN n) p S := h.new ((Fr.refl _ w).drewN n)

set_option maxRecDepth 100000 in
theorem conv_nil (w : World) : (convert 29 9 (.slice none 0 0)).run Try.prog w = .ok (.string ⟨#[]⟩) w := by
  exact (run_convert_bytes_nil w 29 5 Try.underlying29 Try.underlying5 0 0) 9 Try.underlying9

/-- What a disk that the document has too is like: what is read is what lasts and what waits. -/
def Good (S : DS) : Prop := S.now = setAll S.last S.waits

section
variable {R R2 : Nat → Prop} {w : World} {p q : Nat} {S : DS}

set_option maxHeartbeats 800000 in
set_option maxRecDepth 100000 in
theorem Same_ok (h : DiskOk R w p S) (k : RefOk R2 w q S) (hg : Good S) (hwl : S.waits.length < 4000000000) :
    Calls Try.prog 30 #[.pointer (some ⟨p, 0, none⟩), .pointer (some ⟨q, 0, none⟩)] w fun e w' => e = .returned (.bool true) ∧ Fr Nob w w' := by
  have hll := h.lens
  have h64 : ∀ (i : Nat) (s : List UInt8), S.now[i]? = some s → s.length = 64 := fun i s hs => h.len64 hs
  have hS : ∀ n, Calls Try.prog 23 #[.pointer (some ⟨p, 0, none⟩)] (w.drewN n) fun e w' => e = .returned (.int .i64 S.last.length) ∧ w.drewN n = w' := by
    intro n; rw [hll]; exact Sectors_any (h.drewN n)
  have hsm : S.last.length ≤ 65536 := by obtain ⟨s1, s2, k⟩ := k; exact k.small
  have HS := Lib.hid hS
  have H := Lib.hid h
  have K := Lib.hid k
  have HG := Lib.hid hg
  have HL := Lib.hid hll
  have H64 := Lib.hid h64
  obtain ⟨s1, s2, k⟩ := k
  obtain ⟨h0, h1, h2, h3, h4⟩ := k.cells
  obtain ⟨g1, cap1, rfl, hg1⟩ := k.form1
  obtain ⟨A2, cc2, hs2⟩ := k.form2
  subst hs2
  have hqz := k.blk.lt
  have KA := Lib.hid k
  clear hS h k hg hll h64
  go_enter Try.func30, Try.ntmps30
  go_wp2
  go_quiet ((first | (go_at_call 23; exact quiet_mine (HS.out _)) | (go_at_call 22; exact quiet_mine (Writes_any (H.out.drewN _))) | (go_at_call 14; exact quiet_mine (Waiting_any (H.out.drewN _))) | (go_at_call 20; exact quiet_mine (Dead_any (H.out.drewN _)))))
  go_wp2
  have HF0 : Hid (Fr Nob w (w.drewN nq)) := (Fr.refl _ w).drewN nq
  clear h0 h1 h2 h3 h4 hqz
  go_loopw [5, 6, 7, 8, 9] (fun i _ _ _ _ wr => ∃ k : Nat, k ≤ S.last.length ∧ i = .int .i64 k ∧ Hid (Fr Nob w wr)) (fun i _ _ _ _ _ => S.last.length - (intOf i).toNat)
  case atStart => exact ⟨0, by omega, rfl, HF0⟩
  case round =>
    clear HF0
    obtain ⟨k, hk, rfl, hF⟩ := hrel
    have kr := KA.out.fr hF.out (fun _ _ h => h)
    have d0 : wr.cell? ⟨q, 0, none⟩ = some (.slice (some ⟨g1, 0, none⟩) S.last.length cap1) := kr.cells.1
    have hqr := kr.blk.lt
    clear kr
    by_cases hlt : k < S.last.length
    · by_cases hd : S.dead = true
      · have hw50 : S.wrong k = 50 := by
          unfold DS.wrong
          rw [if_neg (by have := HL.out; omega), if_pos hd]
        have hrd := Read_bad (k : Int) (H.out.new hF.out) (by rw [hw50]; decide)
        rw [hw50] at hrd
        have Hrd := Lib.hid hrd
        have Hd := Lib.hid hd
        clear hrd hw50 hd
        go_wp2_with fail
        refine Hrd.out.mono ?_
        rintro e w5 ⟨rfl, rfl⟩
        go_wp2_with fail
        refine (RefRead_dead (k : Int) (K.out.new hF.out) (by omega) (by omega) Hd.out).mono ?_
        rintro e w5 ⟨rfl, rfl⟩
        have q5 : (convert 29 9 (.slice none 0 0)).run Try.prog wr = .ok (.string ⟨#[]⟩) wr := conv_nil wr
        go_wp2
        go_roundw
        case rel => exact ⟨k + 1, by omega, by go_num, hF⟩
        case measure => simp [intOf]; omega
      · have hd' : S.dead = false := by simpa using hd
        have hkn : k < S.now.length := by have := HL.out; omega
        have HSn : Hid (S.now[k]? = some S.now[k]) := List.getElem?_eq_getElem hkn
        have Hd := Lib.hid hd'
        clear hd hd'
        generalize S.now[k] = s at *
        have h64 := H64.out k s HSn.out
        have H64s := Lib.hid h64
        clear h64
        go_wp2_with fail
        refine (Read_ok (k : Int) s (H.out.new hF.out) (by omega) Hd.out (by rw [Int.toNat_natCast]; exact HSn.out)).mono ?_
        rintro e w5 ⟨rfl, hr5, hf5⟩
        have q5 := Row64.conv hr5 H64s.out
        have HF5 := Lib.hid (hF.out.trans hf5)
        clear hr5 hf5
        go_wp2_with fail
        refine (RefRead_good k s (K.out.new HF5.out) Hd.out HG.out HSn.out hwl).mono ?_
        rintro e w6 ⟨rfl, rfl⟩
        go_wp2
        go_roundw
        case rel => exact ⟨k + 1, by omega, by go_num, HF5⟩
        case measure => simp [intOf]; omega
    · obtain rfl : k = S.last.length := by omega
      go_wp2
      go_ret
      exact ⟨rfl, hF.out⟩
end
end Go.Proofs.Ytieiopeblleheaa
