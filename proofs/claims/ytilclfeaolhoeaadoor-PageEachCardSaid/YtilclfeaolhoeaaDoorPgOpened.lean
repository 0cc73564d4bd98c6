/-
  opened, where the disk is still; what the laws' walks need.
-/
import Derived.Test.YtilclfeaolhoeaaDoorPgCalm
import Derived.Test.YtilclfeaolhoeaaDoorPgIs
namespace Go.Proofs.YtilclfeaolhoeaaDoor
set_option linter.unusedSimpArgs false
set_option linter.unusedVariables false
open Go.RowKit

set_option maxHeartbeats 1600000 in
set_option maxRecDepth 100000 in
theorem opened_ok {R : Nat → Prop} {w : World} {d : Nat} {S : DS} {hb : List UInt8} (at0 pages : Nat) (hd : DiskOk R w d S) (hst : Still S) (h1 : 1 ≤ pages) (h2 : pages ≤ 4096) (hat : at0 + 8 * pages + 80 ≤ S.now.length) (hh : S.now[at0 + 8 * pages]? = some hb) (hat2 : at0 ≤ 60000)
    (hps : PSound (layNow S.now at0 (lfRes S.now (at0 + 8 * pages) pages hb) (lfRes S.now (at0 + 8 * pages) pages hb).length) at0 pages) :
    Calls Tryd.prog 7 #[.pointer (some ⟨d, 0, none⟩), .int .i64 at0, .int .i64 pages, .int .i64 (-1), .slice none 0 0] w fun e w' => ∃ p R' S', e = .returned (.pointer (some ⟨p, 0, none⟩)) ∧ w.heap.size ≤ p ∧ p < w'.heap.size ∧ FileAt w' p d at0 pages (lfTurn S.now (at0 + 8 * pages) 0 hb 8) ∧ DiskOk R' w' d S' ∧ Still S' ∧ S'.now = layNow S.now at0 (lfRes S.now (at0 + 8 * pages) pages hb) (lfRes S.now (at0 + 8 * pages) pages hb).length ∧ ¬ R' p ∧ (∀ b, R' b → R b ∨ w.heap.size ≤ b) ∧ FrD R w w' := by
  obtain ⟨o1, o2, o3⟩ := hst.openRun at0 pages hb
  have HRun := Lib.hid (Open_run at0 pages hd hst.calm.dead h1 h2 hat hh (by rw [hst.waits]; simp) o1 o2.calm.dead (by rw [o3]; exact hps) hat2)
  have HO2 := Lib.hid o2
  have HO3 := Lib.hid o3
  clear o1 o2 o3 hd hst hh hps
  go_enter Tryd.func7, Tryd.ntmps7
  go_wp2_with fail
  refine HRun.out.mono ?_
  rintro e w1 ⟨p, R', rfl, hp0, hp1, hf1, hd1, hnp, hsub, hfr1⟩
  have HDd := Lib.hid (Dead_any hd1)
  rw [HO2.out.calm.dead] at HDd
  have HFu := Lib.hid (Fuse_anyD (-1) hd1 (by omega) (by omega))
  rw [HO2.out.set] at HFu
  have HF1 := Lib.hid hf1
  have HSub := Lib.hid hsub
  have HFr1 := Lib.hid hfr1
  have HRlt : Hid (∀ b, R' b → b < w1.heap.size) := fun b hb => hd1.lt hb
  clear hd1 hf1 hsub hfr1 HRun
  go_wp2_with fail
  refine HDd.out.mono ?_
  rintro e w2 ⟨rfl, rfl⟩
  go_wp2_with fail
  refine HFu.out.mono ?_
  rintro e w2 ⟨rfl, hd2, hf2⟩
  have HD2 := Lib.hid hd2
  have HF2 := Lib.hid hf2
  have hs12 : w1.heap.size ≤ w2.heap.size := hf2.size
  clear hd2 hf2
  go_wp2
  go_ret
  refine ⟨p, R', _, rfl, hp0, by omega, HF1.out.fr HF2.out.fr hnp, HD2.out, HO2.out, HO3.out, hnp, HSub.out, ?_⟩
  exact FrD.step (F := Mut R w) HFr1.out (fun i h => h) HF2.out (fun i hi h => by
    rcases HSub.out i h with h | h
    · exact h
    · omega)
/-- .. of a file as it was left. -/
theorem opened_pst {R : Nat → Prop} {w : World} {d : Nat} {S : DS} {at0 pages T : Nat} {lot : List PgV} {cur : Nat → Option PgV} (hd : DiskOk R w d S) (hst : Still S) (h1 : 1 ≤ pages) (h2 : pages ≤ 4096) (hat2 : at0 ≤ 60000) (hp : PSt S.now at0 pages T lot cur) :
    Calls Tryd.prog 7 #[.pointer (some ⟨d, 0, none⟩), .int .i64 at0, .int .i64 pages, .int .i64 (-1), .slice none 0 0] w fun e w' => ∃ p R' S', e = .returned (.pointer (some ⟨p, 0, none⟩)) ∧ w.heap.size ≤ p ∧ p < w'.heap.size ∧ FileAt w' p d at0 pages T ∧ DiskOk R' w' d S' ∧ Still S' ∧ PSt S'.now at0 pages T lot cur ∧ ¬ R' p ∧ (∀ b, R' b → R b ∨ w.heap.size ≤ b) ∧ FrD R w w' := by
  obtain ⟨hb, hh, e1, e2⟩ := hp.left
  have hl := hp.laid lot.length
  refine (opened_ok (hb := hb) at0 pages hd hst h1 h2 hp.len hh hat2 (by rw [e1, hl]; exact hp.sound)).mono ?_
  rintro e w' ⟨p, R', S', rfl, q1, q2, q3, q4, q5, q6, q7, q8, q9⟩
  rw [e1, hl] at q6
  rw [e2] at q3
  exact ⟨p, R', S', rfl, q1, q2, q3, q4, q5, by rw [q6]; exact hp, q7, q8, q9⟩

/-- A Write on a still disk. -/
theorem write_pst {R : Nat → Prop} {w : World} {p d at0 pages T : Nat} {S : DS} {lot : List PgV} {cur : Nat → Option PgV} (A : Option Addr) (c : Nat) (l : List (PgV × Value)) (h : FileAt w p d at0 pages T) (hp : ¬ R p) (hd : DiskOk R w d S) (hst : Still S) (hps : PSt S.now at0 pages T lot cur) (hl : PgsIn (fun b => R b ∨ b = p) w A l) (hok : ∀ x ∈ l, x.1.Ok ∧ x.1.no < pages) (hn0 : 0 < l.length) (hn : l.length ≤ 8)
    (hdis : ∀ (i j : Nat) x y, l[i]? = some x → l[j]? = some y → x.1.no = y.1.no → i = j) (hat2 : at0 ≤ 60000) (hpg : pages ≤ 5000) (hT : T + 1 < 4611686018427387904) :
    Calls Tryd.prog 9 #[.pointer (some ⟨p, 0, none⟩), .slice A l.length c] w fun e w' => ∃ S', e = .returned (.int .i64 0) ∧ DiskOk (Ext R w w') w' d S' ∧ Still S' ∧ PSt S'.now at0 pages (T + 1) (l.map (·.1)) (curW cur (l.map (·.1)) l.length) ∧ FileAt w' p d at0 pages (T + 1) ∧ Fr (fun b => Mut R w b ∨ b = p) w w' := by
  refine (pgWriteAll_run A c l h hp hd hl hok hn0 hn hdis hps.len hat2 hpg (by rw [hst.waits]; simp) (by omega)).mono ?_
  rintro e w' ⟨rfl, hd', ⟨t', hf', ht'⟩, hfr⟩
  have hops : writeOps at0 pages (T + 1) (l.map (·.1)) = (((plcOps (at0 + 8 * pages) (T + 1) (l.map (·.1)) (l.map (·.1)).length ++ secOps (at0 + 8 * pages) (lotB (T + 1) (l.map (·.1)).length) 1) ++ [.fl]) ++ layOps at0 (l.map (·.1)) (l.map (·.1)).length) ++ [.fl] := by unfold writeOps; simp only [List.append_assoc]
  obtain ⟨r1, r2, r3⟩ := hst.runs (((plcOps (at0 + 8 * pages) (T + 1) (l.map (·.1)) (l.map (·.1)).length ++ secOps (at0 + 8 * pages) (lotB (T + 1) (l.map (·.1)).length) 1) ++ [.fl]) ++ layOps at0 (l.map (·.1)) (l.map (·.1)).length)
  rw [← hops] at r1 r2
  have r3' : (runs S (writeOps at0 pages (T + 1) (l.map (·.1)))).1.now = wrote S.now at0 pages (T + 1) (l.map (·.1)) := by
    rw [← nowOps_write, (runs_calm _ hst.calm).2.2]
  rw [ht' r1] at hf'
  refine ⟨_, by rw [r1], hd', r2, ?_, hf', hfr⟩
  rw [r3']
  have hlen : (l.map (·.1)).length = l.length := List.length_map _
  have := hps.wrote (l := l.map (·.1)) (by intro e; rw [e] at hlen; simp at hlen; omega) (by omega) (fun x hx => by
    obtain ⟨y, hy, rfl⟩ := List.mem_map.1 hx
    exact hok y hy) (fun i j x y hx hy hxy => by
    rw [List.getElem?_map] at hx hy
    obtain ⟨a, ha, rfl⟩ := Option.map_eq_some_iff.1 hx
    obtain ⟨b, hb, rfl⟩ := Option.map_eq_some_iff.1 hy
    exact hdis i j a b ha hb hxy) hT
  rw [hlen] at this
  exact this
theorem pgAt_cur {now : List (List UInt8)} {at0 pages T : Nat} {lot : List PgV} {cur : Nat → Option PgV} (h : PSt now at0 pages T lot cur) (no : Nat) (hno : no < pages) : pgAt now at0 no = match cur no with | none => ⟨no, 0, zeros 480⟩ | some x => x := by
  unfold pgAt
  rw [h.page no hno]
  cases hc : cur no with
  | none => rw [if_pos (show (curB none).all (· == 0) = true from zeros_all 512)]
  | some x =>
    obtain ⟨x1, x2⟩ := h.cok no x hno hc
    rw [if_neg (by rw [show curB (some x) = imgB x 0 from rfl, img_some x 0 x1]; decide)]
    exact img_x x 0 x1
end Go.Proofs.YtilclfeaolhoeaaDoor
