/-
  Commands: same (any two commands).
-/
import Derived.Test.YtidohbhcjnmmeaaDoorCmd6a
import Derived.Test.YtidohbhcjnmmeaaDoorCmd6b
import Derived.Test.YtidohbhcjnmmeaaDoorCmd6c
import Derived.Test.YtidohbhcjnmmeaaDoorCmd6d
namespace Go.Proofs.YtidohbhcjnmmeaaDoor
set_option linter.unusedSimpArgs false
set_option linter.unusedVariables false
open Go.RowKit

set_option maxHeartbeats 8000000 in
set_option maxRecDepth 100000 in
theorem same_any (c d : Cm) (A B : Option Addr) (ca cb : Nat) (w : World) (hA : PtsIn w A c.line) (hB : PtsIn w B d.line) (hc : c.line.length ≤ 1000000) (hd : d.line.length ≤ 1000000) :
    Calls Tryd.prog 21 #[c.v (.slice A c.line.length ca), d.v (.slice B d.line.length cb)] w fun e w' => e = .returned (.bool (decide (c = d))) ∧ Fr Nob w w' := by
  obtain ⟨ak, ao, aa, ab, af, al, ⟨ap1, ap2⟩, ⟨aq1, aq2⟩, an⟩ := c
  obtain ⟨bk, bo, ba, bb, bf, bl, ⟨bp1, bp2⟩, ⟨bq1, bq2⟩, bn⟩ := d
  unfold Cm.v
  dsimp only at hA hB hc hd ⊢
  obtain ⟨R, hR⟩ : ∃ R, decide ((⟨ak, ao, aa, ab, af, al, (ap1, ap2), (aq1, aq2), an⟩ : Cm) = ⟨bk, bo, ba, bb, bf, bl, (bp1, bp2), (bq1, bq2), bn⟩) = R := ⟨_, rfl⟩
  have HR := Lib.hid hR
  rw [hR]
  obtain ⟨m, hm⟩ : ∃ m, al.length = m := ⟨_, rfl⟩
  obtain ⟨n, hn⟩ : ∃ n, bl.length = n := ⟨_, rfl⟩
  have HQ : Hid (∀ W, Fr Nob w W → Calls Tryd.prog 33 #[.slice A m ca, .slice B n cb] W fun e w' => e = .returned (.bool (decide (al = bl))) ∧ Fr Nob W w') := fun W hW => by
    have := Equal_any A B ca cb al bl W (hA.new hW) (hB.new hW) hc hd
    rwa [hm, hn] at this
  rw [hm] at hc ⊢
  rw [hn] at hd ⊢
  have HF2 : Hid (Fr Nob w ((w.alloc (.cells #[.int .i64 ak, .int .i64 ao, .int .i64 aa, .int .i64 ab, .bool af, .slice A m ca, .int .i64 ap1, .int .i64 ap2, .int .i64 aq1, .int .i64 aq2, .int .i64 an] 32)).alloc (.cells #[.int .i64 bk, .int .i64 bo, .int .i64 ba, .int .i64 bb, .bool bf, .slice B n cb, .int .i64 bp1, .int .i64 bp2, .int .i64 bq1, .int .i64 bq2, .int .i64 bn] 32))) := ((Fr.refl _ _).alloc _).alloc _
  clear hA hB hR hm hn
  by_cases hk : ak = bk
  rotate_left
  · have hne : ¬ ((⟨ak, ao, aa, ab, af, al, (ap1, ap2), (aq1, aq2), an⟩ : Cm) = ⟨bk, bo, ba, bb, bf, bl, (bp1, bp2), (bq1, bq2), bn⟩) := fun e => hk (by cases e; rfl)
    have hRf : R = false := by rw [← HR.out, decide_eq_false hne]
    rw [hRf]
    exact same_k ak ap1 ap2 aq1 aq2 an ao aa ab af bk bp1 bp2 bq1 bq2 bn bo ba bb bf A B m n ca cb w hk
  subst hk
  by_cases hp1 : ap1 = bp1
  rotate_left
  · have hne : ¬ ((⟨ak, ao, aa, ab, af, al, (ap1, ap2), (aq1, aq2), an⟩ : Cm) = ⟨ak, bo, ba, bb, bf, bl, (bp1, bp2), (bq1, bq2), bn⟩) := fun e => hp1 (by cases e; rfl)
    have hRf : R = false := by rw [← HR.out, decide_eq_false hne]
    rw [hRf]
    exact same_p1 ak ap1 ap2 aq1 aq2 an ao aa ab af bp1 bp2 bq1 bq2 bn bo ba bb bf A B m n ca cb w hp1
  subst hp1
  by_cases hp2 : ap2 = bp2
  rotate_left
  · have hne : ¬ ((⟨ak, ao, aa, ab, af, al, (ap1, ap2), (aq1, aq2), an⟩ : Cm) = ⟨ak, bo, ba, bb, bf, bl, (ap1, bp2), (bq1, bq2), bn⟩) := fun e => hp2 (by cases e; rfl)
    have hRf : R = false := by rw [← HR.out, decide_eq_false hne]
    rw [hRf]
    exact same_p2 ak ap1 ap2 aq1 aq2 an ao aa ab af bp2 bq1 bq2 bn bo ba bb bf A B m n ca cb w hp2
  subst hp2
  by_cases hq1 : aq1 = bq1
  rotate_left
  · have hne : ¬ ((⟨ak, ao, aa, ab, af, al, (ap1, ap2), (aq1, aq2), an⟩ : Cm) = ⟨ak, bo, ba, bb, bf, bl, (ap1, ap2), (bq1, bq2), bn⟩) := fun e => hq1 (by cases e; rfl)
    have hRf : R = false := by rw [← HR.out, decide_eq_false hne]
    rw [hRf]
    exact same_q1 ak ap1 ap2 aq1 aq2 an ao aa ab af bq1 bq2 bn bo ba bb bf A B m n ca cb w hq1
  subst hq1
  by_cases hq2 : aq2 = bq2
  rotate_left
  · have hne : ¬ ((⟨ak, ao, aa, ab, af, al, (ap1, ap2), (aq1, aq2), an⟩ : Cm) = ⟨ak, bo, ba, bb, bf, bl, (ap1, ap2), (aq1, bq2), bn⟩) := fun e => hq2 (by cases e; rfl)
    have hRf : R = false := by rw [← HR.out, decide_eq_false hne]
    rw [hRf]
    exact same_q2 ak ap1 ap2 aq1 aq2 an ao aa ab af bq2 bn bo ba bb bf A B m n ca cb w hq2
  subst hq2
  by_cases hn : an = bn
  rotate_left
  · have hne : ¬ ((⟨ak, ao, aa, ab, af, al, (ap1, ap2), (aq1, aq2), an⟩ : Cm) = ⟨ak, bo, ba, bb, bf, bl, (ap1, ap2), (aq1, aq2), bn⟩) := fun e => hn (by cases e; rfl)
    have hRf : R = false := by rw [← HR.out, decide_eq_false hne]
    rw [hRf]
    exact same_n ak ap1 ap2 aq1 aq2 an ao aa ab af bn bo ba bb bf A B m n ca cb w hn
  subst hn
  by_cases ho : ao = bo
  rotate_left
  · have hne : ¬ ((⟨ak, ao, aa, ab, af, al, (ap1, ap2), (aq1, aq2), an⟩ : Cm) = ⟨ak, bo, ba, bb, bf, bl, (ap1, ap2), (aq1, aq2), an⟩) := fun e => ho (by cases e; rfl)
    have hRf : R = false := by rw [← HR.out, decide_eq_false hne]
    rw [hRf]
    exact same_o ak ap1 ap2 aq1 aq2 an ao aa ab af bo ba bb bf A B m n ca cb w ho
  subst ho
  by_cases ha : aa = ba
  rotate_left
  · have hne : ¬ ((⟨ak, ao, aa, ab, af, al, (ap1, ap2), (aq1, aq2), an⟩ : Cm) = ⟨ak, ao, ba, bb, bf, bl, (ap1, ap2), (aq1, aq2), an⟩) := fun e => ha (by cases e; rfl)
    have hRf : R = false := by rw [← HR.out, decide_eq_false hne]
    rw [hRf]
    exact same_a ak ap1 ap2 aq1 aq2 an ao aa ab af ba bb bf A B m n ca cb w ha
  subst ha
  by_cases hb : ab = bb
  rotate_left
  · have hne : ¬ ((⟨ak, ao, aa, ab, af, al, (ap1, ap2), (aq1, aq2), an⟩ : Cm) = ⟨ak, ao, aa, bb, bf, bl, (ap1, ap2), (aq1, aq2), an⟩) := fun e => hb (by cases e; rfl)
    have hRf : R = false := by rw [← HR.out, decide_eq_false hne]
    rw [hRf]
    exact same_b ak ap1 ap2 aq1 aq2 an ao aa ab af bb bf A B m n ca cb w hb
  subst hb
  by_cases hf : af = bf
  rotate_left
  · have hne : ¬ ((⟨ak, ao, aa, ab, af, al, (ap1, ap2), (aq1, aq2), an⟩ : Cm) = ⟨ak, ao, aa, ab, bf, bl, (ap1, ap2), (aq1, aq2), an⟩) := fun e => hf (by cases e; rfl)
    have hRf : R = false := by rw [← HR.out, decide_eq_false hne]
    rw [hRf]
    exact same_f ak ap1 ap2 aq1 aq2 an ao aa ab af  bf A B m n ca cb w hf
  subst hf
  go_enter Tryd.func21, Tryd.ntmps21
  go_wp2_with fail
  refine (HQ.out _ HF2.out).mono ?_
  rintro e w1 ⟨rfl, hf1⟩
  have HF3 := Lib.hid (HF2.out.trans hf1)
  have HE : Hid (decide (al = bl) = R) := by
    rw [← HR.out]
    by_cases h : al = bl
    · subst h; simp [Hid]
    · show decide (al = bl) = _
      rw [decide_eq_false h, decide_eq_false (fun e => h (by cases e; rfl))]
  rw [HE.out]
  clear hf1
  go_wp2
  go_ret
  exact ⟨rfl, HF3.out⟩
end Go.Proofs.YtidohbhcjnmmeaaDoor
