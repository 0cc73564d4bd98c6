/-
  CrEv, CrRoom, CrPut, in one text.
-/
import Derived.Test.YtccmmnacejdeoaaGreatDoorMg27
import Derived.Test.YtccmmnacejdeoaaGreatDoorMg33
import Derived.Test.YtccmmnacejdeoaaGreatDoorMg28
/-
  A pool with all that lies under it, on a disk that may die (PInC); Evict.
-/
namespace Go.Proofs.YtccmmnacejdeoaaGreatDoor
set_option linter.unusedSimpArgs false
set_option linter.unusedVariables false
open Go.RowKit Go.Maps

structure PInC (w : World) (p f l d pages : Nat) (frames : Int) (V : Nat → PgV) (L : LS) (M N : Nat) (RP RQ RL RD : Nat → Prop) (hand : Int) (B : Nat) (rv : Value) (fs : List (Nat × Frm)) (cur : Nat → Option PgV) (S : DS) (T : Nat) (lot : List PgV) : Prop where
  pool : PoolAt RP RQ w p f l frames hand B rv fs
  und : UndC w f l d pages cur L S T lot RL RD N
  ap : ∀ b, RP b ∨ RQ b → ¬ RL b ∧ ¬ RD b ∧ b ≠ f
  views : Views fs cur pages V
  tm : T ≤ M
  M1 : M ≤ 1000000000000000000
  kk : ∀ y ∈ fs, y.2.x.lsn < L.next ∧ ∃ n, y.2.x.d = dataB n
  vok : ∀ no, no < pages → (V no).Ok ∧ (V no).no = no
section
variable {w w' : World} {p f l d pages : Nat} {frames : Int} {V : Nat → PgV} {L : LS} {M N : Nat} {RP RQ RL RD F : Nat → Prop} {hand : Int} {B : Nat} {rv : Value} {fs : List (Nat × Frm)} {cur : Nat → Option PgV} {S : DS} {T : Nat} {lot : List PgV}
theorem PInC.fr (h : PInC w p f l d pages frames V L M N RP RQ RL RD hand B rv fs cur S T lot) (hf : Fr F w w') (hF : ∀ b, Uni RP RQ RL RD f b → ¬ F b) : PInC w' p f l d pages frames V L M N RP RQ RL RD hand B rv fs cur S T lot :=
  { h with
    pool := h.pool.fr hf (fun b hb => hF b (.inl hb)) (fun b hb => hF b (.inr (.inl hb)))
    und := h.und.fr hf (fun b hb => hF b (.inr (.inr (.inl hb)))) (fun b hb => hF b (.inr (.inr (.inr (.inl hb))))) (hF f (.inr (.inr (.inr (.inr rfl))))) }
theorem PInC.new (h : PInC w p f l d pages frames V L M N RP RQ RL RD hand B rv fs cur S T lot) (hf : Fr Nob w w') : PInC w' p f l d pages frames V L M N RP RQ RL RD hand B rv fs cur S T lot := h.fr hf (fun _ _ h => h)
theorem PInC.lt (h : PInC w p f l d pages frames V L M N RP RQ RL RD hand B rv fs cur S T lot) {b : Nat} (hb : Uni RP RQ RL RD f b) : b < w.heap.size := by
  rcases hb with hb | hb | hb | hb | hb
  · exact h.pool.lt b hb
  · exact h.pool.ltq b hb
  · exact h.und.log.lt hb
  · exact h.und.disk.lt hb
  · rw [hb]; exact h.und.flt
/-- The pool behind a step that let its frames be SameUsed. -/
theorem PInC.used (h : PInC w p f l d pages frames V L M N RP RQ RL RD hand B rv fs cur S T lot) {gs : List (Nat × Frm)} {hand' : Int} (hp : PoolAt RP RQ w' p f l frames hand' B rv gs) (hs : SameUsed fs gs) (hf : Fr RP w w') : PInC w' p f l d pages frames V L M N RP RQ RL RD hand' B rv gs cur S T lot :=
  { h with
    pool := hp
    und := h.und.fr hf (fun b hb e => (h.ap b (.inl e)).1 hb) (fun b hb e => (h.ap b (.inl e)).2.1 hb) (fun e => (h.ap f (.inl e)).2.2 rfl)
    views := h.views.same hs
    kk := fun y hy => by
      obtain ⟨i, hi⟩ := List.mem_iff_getElem?.1 hy
      obtain ⟨z, hz, _, e, _⟩ := hs.2 i y hi
      rw [← e]
      exact h.kk z (List.mem_of_getElem? hz) }

/-- .. of a page that is not held. -/
theorem Evict_notC (h : PInC w p f l d pages frames V L M N RP RQ RL RD hand B rv fs cur S T lot) (no : Nat) (hno : no < pages) (hn : ∀ y ∈ fs, y.2.x.no ≠ no) :
    Calls Tryz.prog 10 #[.pointer (some ⟨p, 0, none⟩), .int .i64 no] w fun e w' => e = .returned (.int .i64 0) ∧ w = w' := by
  have HPg := Lib.hid (Pages_any h.und.file)
  have HMap := Lib.hid h.pool.map
  have HHeld : Hid (heldAt (ksOf fs) (no : Int) = none) := heldAt_none (fun k hk e => by
    unfold ksOf at hk
    obtain ⟨y, hy, rfl⟩ := List.mem_map.1 hk
    exact hn y hy (by have e : (y.2.x.no : Int) = no := e; omega))
  have hpg := h.und.pg2
  have p0 := h.pool.blk.cell 0
  have p3 := h.pool.blk.cell 3
  have zp := h.pool.blk.lt
  simp only [List.getElem?_toArray, List.getElem?_cons_zero, List.getElem?_cons_succ] at p0 p3
  have h1 : ¬ (no : Int) < 0 := by omega
  have h2 : ¬ (pages : Int) ≤ (no : Int) := by omega
  clear h hn
  go_enter Tryz.func10, Tryz.ntmps10
  go_wp2_with fail
  refine HPg.out.mono ?_
  rintro e w1 ⟨rfl, rfl⟩
  go_wp2_with (with_reducible refine wpList_fr_look _ rfl _ _ _ rfl _ _ key_law Tryz.underlying67 (mapif_zero _) B _ _ rfl HMap.out (no : Int) rfl (key_of _ (by omega) (by omega)) ?_; rw [HHeld.out])
  go_ret
  exact ⟨rfl, rfl⟩
/-- What Evict leaves of a page that was held. -/
theorem PInC.dropped (h : PInC w p f l d pages frames V L M N RP RQ RL RD hand B rv fs cur S T lot) {i b : Nat} {m : Frm} (hi : fs[i]? = some (b, m)) (hd : m.dirty = false) {rv' : Value} (hp : PoolAt RP RQ w' p f l frames hand B rv' (fs.eraseIdx i)) (hf : Fr RP w w') :
    PInC w' p f l d pages frames V L M N RP RQ RL RD hand B rv' (fs.eraseIdx i) cur S T lot :=
  { h with
    pool := hp
    und := h.und.fr hf (fun b hb e => (h.ap b (.inl e)).1 hb) (fun b hb e => (h.ap b (.inl e)).2.1 hb) (fun e => (h.ap f (.inl e)).2.2 rfl)
    views := h.views.drop hi hd
    kk := fun y hy => h.kk y (List.mem_of_mem_eraseIdx hy) }
/-- What write leaves of one page. -/
theorem PInC.wrote (h : PInC w p f l d pages frames V L M N RP RQ RL RD hand B rv fs cur S T lot) {i b : Nat} {m : Frm} (hi : fs[i]? = some (b, m)) {L' : LS} {S' : DS} {RD' : Nat → Prop} (hM : M + 1 ≤ 1000000000000000000) (hsa : LSame L L')
    (hp : PoolAt RP RQ w' p f l frames hand B rv (cleanF [m.x.no] fs)) (hu : UndC w' f l d pages (curW cur [m.x] 1) L' S' (T + 1) [m.x] RL RD' N) (hsub : ∀ b, RD' b → RD b ∨ w.heap.size ≤ b) :
    PInC w' p f l d pages frames V L' (M + 1) N RP RQ RL RD' hand B rv (cleanF [m.x.no] fs) (curW cur [m.x] 1) S' (T + 1) [m.x] where
  pool := hp
  und := hu
  ap := fun b hb => ⟨(h.ap b hb).1, fun e => by
    rcases hsub b e with e | e
    · exact (h.ap b hb).2.1 e
    · rcases hb with hb | hb
      · have := h.pool.lt b hb; omega
      · have := h.pool.ltq b hb; omega, (h.ap b hb).2.2⟩
  views := h.views.cleaned [m.x.no] (fun no hno => by
    unfold curW
    dsimp only [List.getElem?_cons_zero]
    rw [if_neg (fun e => hno (List.mem_singleton.2 e))]; rfl) (fun y hy hn => by
    rw [List.mem_singleton] at hn
    obtain ⟨j, hj⟩ := List.mem_iff_getElem?.1 hy
    have := h.pool.apart hj hi hn
    subst this
    rw [hi] at hj
    injection hj with hj
    subst hj
    unfold curW
    dsimp only [List.getElem?_cons_zero]
    rw [if_pos rfl]) (fun n hn => by
    rw [List.mem_singleton] at hn
    exact ⟨_, List.mem_of_getElem? hi, hn.symm⟩)
  tm := by have := h.tm; omega
  M1 := hM
  kk := fun y hy => by
    obtain ⟨z, hz, _, e, _⟩ := cleanF_mem hy
    rw [← e, hsa.next]
    exact h.kk z hz
  vok := h.vok
set_option maxHeartbeats 3200000 in
set_option maxRecDepth 100000 in
theorem Evict_heldC (h : PInC w p f l d pages frames V L M N RP RQ RL RD hand B rv fs cur S T lot) {i b : Nat} {m : Frm} (hi : fs[i]? = some (b, m)) (hM : M + 1 ≤ 1000000000000000000) :
    Calls Tryz.prog 10 #[.pointer (some ⟨p, 0, none⟩), .int .i64 m.x.no] w fun e w' => (e = .returned (.int .i64 0) ∧ ∃ L' S' T' lot' RD' rv' fs' cur', PInC w' p f l d pages frames V L' (M + 1) N RP RQ RL RD' hand B rv' fs' cur' S' T' lot' ∧ LSame L L' ∧ fs'.length + 1 = fs.length ∧ (∀ y ∈ fs', y.2.x.no ≠ m.x.no ∧ ∃ z ∈ fs, z.2.x.no = y.2.x.no ∧ (y.2.dirty = true → z.2.dirty = true)) ∧ (∀ b, RD' b → RD b ∨ w.heap.size ≤ b) ∧ Fr (Uni RP RQ RL RD f) w w') ∨ (e = .returned (.int .i64 50) ∧ LostE w w' d RD (Uni RP RQ RL RD f)) := by
  have H := Lib.hid h
  have HI := Lib.hid hi
  have hil := (List.getElem?_eq_some_iff.1 hi).1
  have hmf := List.mem_of_getElem? hi
  have HPg := Lib.hid (Pages_any h.und.file)
  have HMap := Lib.hid h.pool.map
  have HHeld : Hid (heldAt (ksOf fs) (m.x.no : Int) = some b) := heldAt_at h.pool.dis (ksOf_of hi)
  obtain ⟨hmok, hno⟩ := h.views.ok _ hmf
  have hno : m.x.no < pages := hno
  have hno5 : m.x.no < 100000 := hmok.no
  have hpg := h.und.pg2
  have htm := h.tm
  obtain ⟨rb, kb, ko, cc, rq, hfb, hbs⟩ := h.pool.frm _ hmf
  dsimp only at rb hfb hbs
  have fb3 := hfb.cell 3
  have zb := hfb.lt
  have p0 := h.pool.blk.cell 0
  have p3 := h.pool.blk.cell 3
  have zp := h.pool.blk.lt
  simp only [List.getElem?_toArray, List.getElem?_cons_zero, List.getElem?_cons_succ] at p0 p3 fb3
  have h1 : ¬ (m.x.no : Int) < 0 := by omega
  have h2 : ¬ (pages : Int) ≤ (m.x.no : Int) := by omega
  have hdisE : ∀ (j : Nat) y, fs[j]? = some y → y.2.x.no = m.x.no → j = i := fun j y hj e => h.pool.apart hj hi e
  have hers : ∀ (gs : List (Nat × Frm)), gs.length = fs.length → (∀ (j : Nat) y, gs[j]? = some y → ∃ z, fs[j]? = some z ∧ z.2.x = y.2.x ∧ (y.2.dirty = true → z.2.dirty = true)) → (gs.eraseIdx i).length + 1 = fs.length ∧ (∀ y ∈ gs.eraseIdx i, y.2.x.no ≠ m.x.no ∧ ∃ z ∈ fs, z.2.x.no = y.2.x.no ∧ (y.2.dirty = true → z.2.dirty = true)) := fun gs hgl hg => by
    refine ⟨by rw [List.length_eraseIdx, if_pos (by omega)]; omega, fun y hy => ?_⟩
    obtain ⟨j, hj1, hj2⟩ := List.mem_eraseIdx_iff_getElem?.1 hy
    obtain ⟨z, hz, e, ed⟩ := hg j y hj2
    exact ⟨fun e2 => hj1 (hdisE j z hz (by rw [e]; exact e2)), z, List.mem_of_getElem? hz, by rw [e], ed⟩
  have HErs := Lib.hid hers
  cases hdirty : m.dirty
  · have HDt := Lib.hid hdirty
    rw [hdirty] at fb3
    have HDrop := Lib.hid (drop_any h.pool hi hno5)
    clear h hi hmf hfb hbs rq hdirty hdisE hers
    go_enter Tryz.func10, Tryz.ntmps10
    go_wp2_with fail
    refine HPg.out.mono ?_
    rintro e w1 ⟨rfl, rfl⟩
    go_wp2_with (with_reducible refine wpList_fr_look _ rfl _ _ _ rfl _ _ key_law Tryz.underlying67 (mapif_zero _) B _ _ rfl HMap.out (m.x.no : Int) rfl (key_of _ (by omega) (by omega)) ?_; rw [HHeld.out]; dsimp only [ptrOf, Option.isSome])
    refine HDrop.out.mono ?_
    rintro e w2 ⟨rfl, rv', hp2, hf2⟩
    have hf2' : Fr RP w w2 := hf2.mono (fun b _ e => by
      rcases e with rfl | rfl | e
      · exact H.out.pool.rp
      · exact H.out.pool.rB
      · exact H.out.pool.rA b e.symm)
    have HIn2 := Lib.hid (H.out.dropped HI.out HDt.out hp2 hf2')
    have HF2 := Lib.hid hf2'
    clear hp2 hf2 hf2' HDrop
    go_wp2
    go_ret
    obtain ⟨q1, q2⟩ := HErs.out fs rfl (fun j y hj => ⟨y, hj, rfl, id⟩)
    exact .inl ⟨rfl, L, S, T, lot, RD, rv', fs.eraseIdx i, cur, { HIn2.out with tm := by have := HIn2.out.tm; omega, M1 := hM }, LSame.refl L, q1, q2, fun b hb => .inl hb, HF2.out.mono (fun b _ e => .inl e)⟩
  · have HDt := Lib.hid hdirty
    rw [hdirty] at fb3
    clear h hi hmf hfb hbs rq hdirty hdisE hers
    go_enter Tryz.func10, Tryz.ntmps10
    go_wp2_with fail
    refine HPg.out.mono ?_
    rintro e w1 ⟨rfl, rfl⟩
    go_wp2_with (with_reducible refine wpList_fr_look _ rfl _ _ _ rfl _ _ key_law Tryz.underlying67 (mapif_zero _) B _ _ rfl HMap.out (m.x.no : Int) rfl (key_of _ (by omega) (by omega)) ?_; rw [HHeld.out]; dsimp only [ptrOf, Option.isSome])
    have hfa : Fr Nob w (w.alloc (.cells #[.pointer (some ⟨b, 0, none⟩)] 71)) := (Fr.refl _ w).alloc _
    have hsz : (w.alloc (.cells #[.pointer (some ⟨b, 0, none⟩)] 71)).heap.size = w.heap.size + 1 := by simp
    have hwr : Calls Tryz.prog 27 #[.pointer (some ⟨p, 0, none⟩), .slice (some ⟨w.heap.size, 0, none⟩) 1 1] (w.alloc (.cells #[.pointer (some ⟨b, 0, none⟩)] 71)) fun e w' => (e = .returned (.int .i64 0) ∧ ∃ L' S' RD', PoolAt RP RQ w' p f l frames hand B rv (cleanF [m.x.no] fs) ∧ UndC w' f l d pages (curW cur [m.x] 1) L' S' (T + 1) [m.x] RL RD' N ∧ LSame L L' ∧ (∀ x, RD' x → RD x ∨ (w.alloc (.cells #[.pointer (some ⟨b, 0, none⟩)] 71)).heap.size ≤ x) ∧ Fr (fun x => RP x ∨ RL x ∨ RD x ∨ x = f) (w.alloc (.cells #[.pointer (some ⟨b, 0, none⟩)] 71)) w') ∨ (e = .returned (.int .i64 50) ∧ LostE (w.alloc (.cells #[.pointer (some ⟨b, 0, none⟩)] 71)) w' d RD (fun x => RP x ∨ RL x ∨ RD x ∨ x = f)) :=
      write_anyC (H.out.pool.new hfa) (H.out.und.new hfa) H.out.ap [(b, m)] (some ⟨w.heap.size, 0, none⟩) 1 (fun y hy => by
        rw [List.mem_singleton] at hy; rw [hy]; exact List.mem_of_getElem? HI.out) (fun _ => ⟨w.heap.size, rfl, fun e => by
        rcases e with e | e | e | e | e
        · have := H.out.lt (.inl e); omega
        · have := H.out.lt (.inr (.inr (.inl e))); omega
        · have := H.out.lt (.inr (.inr (.inr (.inl e)))); omega
        · have := H.out.lt (b := f) (.inr (.inr (.inr (.inr rfl)))); omega
        · omega, fun j y hy => by
        have hj : j = 0 := by have := (List.getElem?_eq_some_iff.1 hy).1; simp at this; exact this
        subst hj
        simp only [List.getElem?_cons_zero, Option.some.injEq] at hy
        subst hy
        exact (Blk.new w 71 #[.pointer (some ⟨b, 0, none⟩)]).cell 0⟩) (by simp) (by simp) (fun i j x y hi hj _ => by
        have h1 := (List.getElem?_eq_some_iff.1 hi).1
        have h2 := (List.getElem?_eq_some_iff.1 hj).1
        simp at h1 h2; omega) H.out.views.ok (fun y hy => by
        rw [List.mem_singleton] at hy; rw [hy]; exact H.out.kk _ (List.mem_of_getElem? HI.out)) (by omega)
    refine hwr.mono ?_
    rintro e w1 (⟨rfl, L', S', RD', hp1, hu1, hs1, hsub1, hf1⟩ | ⟨rfl, hlost⟩)
    rotate_left
    · have HLo : Hid (LostE w w1 d RD (Uni RP RQ RL RD f)) := hlost.after (V := Uni RP RQ RL RD f) (hfa.mono (fun _ _ h => h.elim)) (fun b hb => .inl hb) (fun b _ e => by
        rcases e with e | e | e | e
        · exact .inl e
        · exact .inr (.inr (.inl e))
        · exact .inr (.inr (.inr (.inl e)))
        · exact .inr (.inr (.inr (.inr e))))
      clear hlost hwr
      go_wp2
      go_ret
      exact .inr ⟨rfl, HLo.out⟩
    have hsub1' : ∀ x, RD' x → RD x ∨ w.heap.size ≤ x := fun x hx => (hsub1 x hx).imp id (fun h => by omega)
    have hin1 := PInC.wrote H.out HI.out hM hs1 hp1 hu1 hsub1'
    have hci : (cleanF [m.x.no] fs)[i]? = some (b, { m with dirty := false }) := by
      rw [cleanF_get HI.out, if_pos (List.mem_singleton.2 rfl)]
    have hcx : ∀ (j : Nat) y, (cleanF [m.x.no] fs)[j]? = some y → ∃ z, fs[j]? = some z ∧ z.2.x = y.2.x ∧ (y.2.dirty = true → z.2.dirty = true) := fun j y hj => by
      unfold cleanF at hj
      rw [List.getElem?_map] at hj
      obtain ⟨z, hz, rfl⟩ := Option.map_eq_some_iff.1 hj
      exact ⟨z, hz, by split <;> rfl, fun hd => by
        split at hd
        · exact (Bool.noConfusion hd)
        · exact hd⟩
    have HIn1 := Lib.hid hin1
    have HCi := Lib.hid hci
    have HCx := Lib.hid hcx
    have HS1 := Lib.hid hs1
    have HSub1 := Lib.hid hsub1'
    have HF1 : Hid (Fr (fun x => RP x ∨ RL x ∨ RD x ∨ x = f) w w1) := (hfa.mono (fun _ _ h => h.elim) : Fr (fun x => RP x ∨ RL x ∨ RD x ∨ x = f) w _).trans hf1
    have HDrop := Lib.hid (drop_any hp1 hci hno5)
    clear hwr hp1 hu1 hs1 hsub1 hsub1' hf1 hin1 hci hcx hfa hsz
    go_wp2_with fail
    refine HDrop.out.mono ?_
    rintro e w2 ⟨rfl, rv', hp2, hf2⟩
    have hf2' : Fr RP w1 w2 := hf2.mono (fun b _ e => by
      rcases e with rfl | rfl | e
      · exact H.out.pool.rp
      · exact H.out.pool.rB
      · exact H.out.pool.rA b e.symm)
    have HIn2 := Lib.hid (HIn1.out.dropped HCi.out rfl hp2 hf2')
    have HF2 := Lib.hid hf2'
    clear hp2 hf2 hf2' HDrop
    go_wp2
    go_ret
    obtain ⟨q1, q2⟩ := HErs.out (cleanF [m.x.no] fs) (by simp [cleanF]) HCx.out
    refine .inl ⟨rfl, L', S', T + 1, [m.x], RD', rv', (cleanF [m.x.no] fs).eraseIdx i, curW cur [m.x] 1, HIn2.out, HS1.out, q1, q2, HSub1.out, ?_⟩
    refine (HF1.out.mono (fun b _ e => ?_) : Fr (Uni RP RQ RL RD f) w w1).step HF2.out (fun b _ e => .inl e)
    rcases e with e | e | e | e
    · exact .inl e
    · exact .inr (.inr (.inl e))
    · exact .inr (.inr (.inr (.inl e)))
    · exact .inr (.inr (.inr (.inr e)))
end
end Go.Proofs.YtccmmnacejdeoaaGreatDoor

/-
  room, on a disk that may die.
-/
namespace Go.Proofs.YtccmmnacejdeoaaGreatDoor
set_option linter.unusedSimpArgs false
set_option linter.unusedVariables false
open Go.RowKit Go.Maps

section
variable {w w' : World} {p f l d pages : Nat} {frames : Int} {V : Nat → PgV} {L : LS} {M N : Nat} {RP RQ RL RD F : Nat → Prop} {hand : Int} {B : Nat} {rv : Value} {fs : List (Nat × Frm)} {cur : Nat → Option PgV} {S : DS} {T : Nat} {lot : List PgV}
set_option maxHeartbeats 3200000 in
set_option maxRecDepth 100000 in
theorem room_fullC (h : PInC w p f l d pages frames V L M N RP RQ RL RD hand B rv fs cur S T lot) (hfull : ¬ (fs.length : Int) < frames) (hM : M + 1 ≤ 1000000000000000000) :
    Calls Tryz.prog 25 #[.pointer (some ⟨p, 0, none⟩)] w fun e w' => (e = .returned (.int .i64 0) ∧ ∃ L' S' T' lot' RD' hand' rv' fs' cur', PInC w' p f l d pages frames V L' (M + 1) N RP RQ RL RD' hand' B rv' fs' cur' S' T' lot' ∧ LSame L L' ∧ (fs'.length : Int) < frames ∧ (∀ y ∈ fs', ∃ z ∈ fs, z.2.x.no = y.2.x.no ∧ (y.2.dirty = true → z.2.dirty = true)) ∧ (∀ b, RD' b → RD b ∨ w.heap.size ≤ b) ∧ Fr (Uni RP RQ RL RD f) w w') ∨ (e = .returned (.int .i64 50) ∧ LostE w w' d RD (Uni RP RQ RL RD f)) := by
  have qL := len_round
  have H := Lib.hid h
  have hfl := h.pool.len
  have hf0 := h.pool.f0
  obtain ⟨n, hn⟩ : ∃ n, fs.length = n := ⟨_, rfl⟩
  have HNl := Lib.hid hn
  rw [hn] at hfull hfl
  have hro := h.pool.rnd
  rw [hn] at hro
  obtain ⟨g, cap, erv, _⟩ := hro.form (by omega)
  have HErv := Lib.hid erv
  have hlt : ¬ (n : Int) < frames := hfull
  have p4 := h.pool.blk.cell 4
  have p2 := h.pool.blk.cell 2
  have zp := h.pool.blk.lt
  simp only [List.getElem?_toArray, List.getElem?_cons_zero, List.getElem?_cons_succ] at p4 p2
  rw [erv] at p4
  have HVic := Lib.hid (victim_any (h.pool.new (Fr.refl Nob w).drew) (by rw [hn]; omega) (fun y hy => (h.views.ok y hy).1.no))
  clear h hn hro erv
  go_enter Tryz.func25, Tryz.ntmps25
  go_wp2
  have hS : Fr Nob w w.drew := (Fr.refl _ w).drew
  refine Rg.begin (Fr Nob w) [] (by kernel_rfl) ?_
  refine Rg.op 0 (some 3) hS (v := ?v0a) (hy := fun wz hwz => ?h0a) (h := ?_)
  case h0a => (go_simp; try with_reducible rfl)
  refine Rg.op 1 (some 4) hS (v := ?v1a) (hy := fun wz hwz => ?h1a) (h := ?_)
  case h1a => (have hpp := Nat.lt_of_lt_of_le zp hwz.size; go_simp; try with_reducible rfl)
  refine Rg.op 2 (some 5) hS (v := ?v2a) (hy := fun wz hwz => ?h2a) (h := ?_)
  case h2a => (have hpp := Nat.lt_of_lt_of_le zp hwz.size; go_simp; try with_reducible rfl)
  refine Rg.op 3 (some 6) hS (v := (.slice (some ⟨g, 0, none⟩) n cap)) (hy := fun wz hwz => ?h3a) (h := ?_)
  case h3a => (have cx := (hwz.cell (p := ⟨p, 4, none⟩) zp (fun h => h)).trans p4; have hpp := Nat.lt_of_lt_of_le zp hwz.size; go_simp; try with_reducible rfl)
  refine Rg.op 4 (some 7) hS (v := (.int .i64 n)) (hy := fun wz hwz => ?h4a) (h := ?_)
  case h4a => (have hq := qL; go_simp; try with_reducible rfl)
  refine Rg.op 5 (some 8) hS (v := ?v5a) (hy := fun wz hwz => ?h5a) (h := ?_)
  case h5a => (go_simp; try with_reducible rfl)
  refine Rg.op 6 (some 9) hS (v := ?v6a) (hy := fun wz hwz => ?h6a) (h := ?_)
  case h6a => (have hpp := Nat.lt_of_lt_of_le zp hwz.size; go_simp; try with_reducible rfl)
  refine Rg.op 7 (some 10) hS (v := ?v7a) (hy := fun wz hwz => ?h7a) (h := ?_)
  case h7a => (have hpp := Nat.lt_of_lt_of_le zp hwz.size; go_simp; try with_reducible rfl)
  refine Rg.op 8 (some 11) hS (v := (.int .i64 frames)) (hy := fun wz hwz => ?h8a) (h := ?_)
  case h8a => (have cx := (hwz.cell (p := ⟨p, 2, none⟩) zp (fun h => h)).trans p2; have hpp := Nat.lt_of_lt_of_le zp hwz.size; go_simp; try with_reducible rfl)
  refine Rg.op 9 (some 12) hS (v := (.bool false)) (hy := fun wz hwz => ?h9a) (h := ?_)
  case h9a => (have hq := hlt; go_simp; try with_reducible rfl)
  refine Rg.done _ (h := ?_)
  go_wp2_with fail
  refine HVic.out.mono ?_
  rintro e w1 ⟨i, b, m, gs, hd', rfl, hgi, hp1, hsu, hf1⟩
  have hin1 := (H.out.new (Fr.refl Nob w).drew).used hp1 hsu hf1
  have HIn1 := Lib.hid hin1
  have HSu := Lib.hid hsu
  have HF1 : Hid (Fr RP w w1) := ((Fr.refl RP w).drew).trans hf1
  have HEv := Lib.hid (Evict_heldC hin1 hgi hM)
  clear hin1 hsu hf1 hp1 hgi HVic
  go_wp2_with fail
  refine HEv.out.mono ?_
  rintro e w2 (⟨rfl, L', S', T', lot', RD', rv', fs', cur', hin2, hs2, hl2, hno2, hsub2, hf2⟩ | ⟨rfl, hlost⟩)
  rotate_left
  · have HLo : Hid (LostE w w2 d RD (Uni RP RQ RL RD f)) := hlost.after (V := Uni RP RQ RL RD f) (HF1.out.mono (fun b _ e => .inl e)) (fun b hb => .inl hb) (fun b _ e => e)
    clear hlost HEv
    go_wp2
    go_ret
    exact .inr ⟨rfl, HLo.out⟩
  have HIn2 := Lib.hid hin2
  have HS2 := Lib.hid hs2
  have HNo2 := Lib.hid hno2
  have HSub2 := Lib.hid hsub2
  have HF2 := Lib.hid hf2
  have hl2' : fs'.length + 1 = n := by rw [hl2, HSu.out.1, HNl.out]
  clear hin2 hs2 hno2 hsub2 hf2 HEv hl2
  go_wp2
  go_ret
  have hz1 := HF1.out.size
  refine .inl ⟨rfl, L', S', T', lot', RD', hd', rv', fs', cur', HIn2.out, HS2.out, by omega, fun y hy => ?_, fun x hx => ?_, ?_⟩
  · obtain ⟨_, z, hz, e, ed⟩ := HNo2.out y hy
    obtain ⟨j, hj⟩ := List.mem_iff_getElem?.1 hz
    obtain ⟨z', hz', _, e2, e3⟩ := HSu.out.2 j z hj
    exact ⟨z', List.mem_of_getElem? hz', by rw [e2]; exact e, fun h => by rw [e3]; exact ed h⟩
  · rcases HSub2.out x hx with h | h
    · exact .inl h
    · exact .inr (by omega)
  · exact ((HF1.out.mono (fun b _ e => .inl e)) : Fr (Uni RP RQ RL RD f) w w1).trans HF2.out
theorem room_anyC (h : PInC w p f l d pages frames V L M N RP RQ RL RD hand B rv fs cur S T lot) (hM : M + 1 ≤ 1000000000000000000) :
    Calls Tryz.prog 25 #[.pointer (some ⟨p, 0, none⟩)] w fun e w' => (e = .returned (.int .i64 0) ∧ ∃ L' S' T' lot' RD' hand' rv' fs' cur', PInC w' p f l d pages frames V L' (M + 1) N RP RQ RL RD' hand' B rv' fs' cur' S' T' lot' ∧ LSame L L' ∧ (fs'.length : Int) < frames ∧ (∀ y ∈ fs', ∃ z ∈ fs, z.2.x.no = y.2.x.no ∧ (y.2.dirty = true → z.2.dirty = true)) ∧ (∀ b, RD' b → RD b ∨ w.heap.size ≤ b) ∧ Fr (Uni RP RQ RL RD f) w w') ∨ (e = .returned (.int .i64 50) ∧ LostE w w' d RD (Uni RP RQ RL RD f)) := by
  by_cases hlt : (fs.length : Int) < frames
  · obtain ⟨A, c, erv⟩ := own_form h.pool.rnd
    have hb := h.pool.blk
    rw [erv] at hb
    refine (room_yes (h := hb) hlt).mono ?_
    rintro e w' ⟨rfl, hf⟩
    have h' := h.new hf
    exact .inl ⟨rfl, L, S, T, lot, RD, hand, rv, fs, cur, { h' with tm := by have := h'.tm; omega, M1 := hM }, LSame.refl L, hlt, fun y hy => ⟨y, hy, rfl, id⟩, fun b hb => .inl hb, hf.mono (fun _ _ h => h.elim)⟩
  · exact room_fullC h hlt hM
end
end Go.Proofs.YtccmmnacejdeoaaGreatDoor

/-
  Put of a page that may be, on a disk that may die.
-/
namespace Go.Proofs.YtccmmnacejdeoaaGreatDoor
set_option linter.unusedSimpArgs false
set_option linter.unusedVariables false
open Go.RowKit Go.Maps

section
variable {w w' : World} {p f l d pages : Nat} {frames : Int} {V : Nat → PgV} {L : LS} {M N : Nat} {RP RQ RL RD F : Nat → Prop} {hand : Int} {B : Nat} {rv : Value} {fs : List (Nat × Frm)} {cur : Nat → Option PgV} {S : DS} {T : Nat} {lot : List PgV}
/-- What hold leaves of all. -/
theorem PInC.hold (h : PInC w p f l d pages frames V L M N RP RQ RL RD hand B rv fs cur S T lot) {x : PgV} {dirty : Bool} {gb g0 : Nat} {rv' : Value} {V' : Nat → PgV} (hv : Views (fs ++ [(gb, ⟨x, dirty, true⟩)]) cur pages V') (hvo : ∀ no, no < pages → (V' no).Ok ∧ (V' no).no = no)
    (hp : PoolAt (fun b => RP b ∨ (w.heap.size ≤ b ∧ b < w'.heap.size)) (fun b => RQ b ∨ b = g0) w' p f l frames hand B rv' (fs ++ [(gb, ⟨x, dirty, true⟩)])) (hf : Fr (fun b => b = p ∨ b = B ∨ some b = rv.ownBlock) w w') (hg : ¬ RL g0 ∧ ¬ RD g0 ∧ g0 ≠ f) (hxk : x.lsn < L.next ∧ ∃ n, x.d = dataB n) :
    PInC w' p f l d pages frames V' L M N (fun b => RP b ∨ (w.heap.size ≤ b ∧ b < w'.heap.size)) (fun b => RQ b ∨ b = g0) RL RD hand B rv' (fs ++ [(gb, ⟨x, dirty, true⟩)]) cur S T lot ∧ Fr RP w w' := by
  have hf' : Fr RP w w' := hf.mono (fun b _ e => by
    rcases e with rfl | rfl | e
    · exact h.pool.rp
    · exact h.pool.rB
    · exact h.pool.rA b e.symm)
  refine ⟨?_, hf'⟩
  exact {
    pool := hp
    und := h.und.fr hf' (fun b hb e => (h.ap b (.inl e)).1 hb) (fun b hb e => (h.ap b (.inl e)).2.1 hb) (fun e => (h.ap f (.inl e)).2.2 rfl)
    ap := fun b hb => by
      rcases hb with (hb | hb) | (hb | hb)
      · exact h.ap b (.inl hb)
      · refine ⟨fun e => ?_, fun e => ?_, fun e => ?_⟩
        · have := h.und.log.lt e; omega
        · have := h.und.disk.lt e; omega
        · have := h.und.flt; omega
      · exact h.ap b (.inr hb)
      · rw [hb]; exact hg
    views := hv
    tm := h.tm
    M1 := h.M1
    kk := fun y hy => by
      rcases List.mem_append.1 hy with hy | hy
      · exact h.kk y hy
      · rw [List.mem_singleton] at hy
        rw [hy]; exact hxk
    vok := hvo }
set_option maxHeartbeats 3200000 in
set_option maxRecDepth 100000 in
theorem Put_heldC (h : PInC w p f l d pages frames V L M N RP RQ RL RD hand B rv fs cur S T lot) (x : PgV) (kb ko c : Nat) (hb : Bsl w (some ⟨kb, ko, none⟩) c x.d) (hok : x.Ok) (hno : x.no < pages) (hls : x.lsn < L.next) (hkd : ∃ n, x.d = dataB n) {i b : Nat} {m : Frm} (hi : fs[i]? = some (b, m)) (hm : m.x.no = x.no) :
    Calls Tryz.prog 8 #[.pointer (some ⟨p, 0, none⟩), .agg #[.int .i64 x.no, .int .u64 x.lsn, .slice (some ⟨kb, ko, none⟩) 480 c]] w fun e w' => e = .returned (.int .i64 0) ∧ ∃ gn, w.heap.size ≤ gn ∧ gn < w'.heap.size ∧ PInC w' p f l d pages frames (fun no => if no = x.no then x else V no) L M N RP (fun k => RQ k ∨ k = gn) RL RD hand B rv (fs.set i (b, ⟨x, true, true⟩)) cur S T lot ∧ Fr RP w w' := by
  have qB := len_by
  obtain ⟨gx, hgx⟩ : ∃ g, w.heap.size = g := ⟨_, rfl⟩
  have HGx := Lib.hid hgx
  have hfa : Fr Nob w (w.alloc (.cells #[.int .i64 x.no, .int .u64 x.lsn, .slice (some ⟨kb, ko, none⟩) 480 c] 40)) := (Fr.refl _ w).alloc _
  have hbx : Blk (w.alloc (.cells #[.int .i64 x.no, .int .u64 x.lsn, .slice (some ⟨kb, ko, none⟩) 480 c] 40)) gx 40 #[.int .i64 x.no, .int .u64 x.lsn, .slice (some ⟨kb, ko, none⟩) 480 c] := by rw [← hgx]; exact Blk.new _ _ _
  have hin := h.new hfa
  obtain ⟨wa, hwa⟩ : ∃ W, w.alloc (.cells #[.int .i64 x.no, .int .u64 x.lsn, .slice (some ⟨kb, ko, none⟩) 480 c] 40) = W := ⟨_, rfl⟩
  rw [hwa] at hfa hbx hin
  have HIn := Lib.hid hin
  have HFa := Lib.hid hfa
  have HBx := Lib.hid hbx
  have x0 := hbx.cell 0
  have x1 := hbx.cell 1
  have x2 := hbx.cell 2
  have zx := hbx.lt
  have p0 := hin.pool.blk.cell 0
  have p1 := hin.pool.blk.cell 1
  have zp := hin.pool.blk.lt
  have hpg := h.und.pg2
  simp only [List.getElem?_toArray, List.getElem?_cons_zero, List.getElem?_cons_succ] at x0 x1 x2 p0 p1
  have p3 := hin.pool.blk.cell 3
  simp only [List.getElem?_toArray, List.getElem?_cons_zero, List.getElem?_cons_succ] at p3
  have HOk := Lib.hid hok
  have HKd : Hid (x.lsn < L.next ∧ ∃ n, x.d = dataB n) := ⟨hls, hkd⟩
  clear hkd
  have HBa := Lib.hid (hb.new hfa)
  have hno5 := hok.no
  have t0 : ¬ (x.no : Int) < 0 := by omega
  have t1 : ¬ (pages : Int) ≤ (x.no : Int) := by omega
  have t2 : True := trivial
  have t3 : ¬ L.next ≤ x.lsn := by omega
  have HUlt : Hid (∀ b, Uni RP RQ RL RD f b → b < w.heap.size) := fun b hb => h.lt hb
  have HI := Lib.hid hi
  have HM := Lib.hid hm
  have HHeld : Hid (heldAt (ksOf fs) (x.no : Int) = some b) := by
    have := heldAt_at h.pool.dis (ksOf_of hi)
    rw [hm] at this
    exact this
  obtain ⟨rb, kb', ko', cc, rq, hfb, hbs⟩ := hin.pool.frm _ (List.mem_of_getElem? hi)
  dsimp only at rb hfb hbs
  have HFb := Lib.hid hfb
  have HRb := Lib.hid rb
  clear h hin hfa hbx hb hok hi hm hfb hbs rq rb
  go_enter Tryz.func8, Tryz.ntmps8
  go_wp2
  have hS : Fr Nob wa wa.drew := (Fr.refl _ wa).drew
  refine Rg.begin (Fr Nob wa) [] (by kernel_rfl) ?_
  refine Rg.op 0 (some 8) hS (v := ?v0h) (hy := fun wz hwz => ?h0h) (h := ?_)
  case h0h => (go_simp; try with_reducible rfl)
  refine Rg.op 1 (some 9) hS (v := (.int .i64 x.no)) (hy := fun wz hwz => ?h1h) (h := ?_)
  case h1h => (have cx := (hwz.cell (p := ⟨gx, 0, none⟩) zx (fun h => h)).trans x0; have hpp := Nat.lt_of_lt_of_le zx hwz.size; go_simp; try with_reducible rfl)
  refine Rg.op 2 (some 10) hS (v := (.bool false)) (hy := fun wz hwz => ?h2h) (h := ?_)
  case h2h => (have hq := t0; go_simp; try with_reducible rfl)
  refine Rg.op 3 (some 11) hS (v := ?v3h) (hy := fun wz hwz => ?h3h) (h := ?_)
  case h3h => (go_simp; try with_reducible rfl)
  refine Rg.op 4 (some 12) hS (v := ?v4h) (hy := fun wz hwz => ?h4h) (h := ?_)
  case h4h => (go_simp; try with_reducible rfl)
  refine Rg.op 5 (some 13) hS (v := (.int .i64 x.no)) (hy := fun wz hwz => ?h5h) (h := ?_)
  case h5h => (have cx := (hwz.cell (p := ⟨gx, 0, none⟩) zx (fun h => h)).trans x0; have hpp := Nat.lt_of_lt_of_le zx hwz.size; go_simp; try with_reducible rfl)
  refine Rg.op 6 (some 14) hS (v := ?v6h) (hy := fun wz hwz => ?h6h) (h := ?_)
  case h6h => (go_simp; try with_reducible rfl)
  refine Rg.op 7 (some 15) hS (v := ?v7h) (hy := fun wz hwz => ?h7h) (h := ?_)
  case h7h => (have hpp := Nat.lt_of_lt_of_le zp hwz.size; go_simp; try with_reducible rfl)
  refine Rg.op 8 (some 16) hS (v := ?v8h) (hy := fun wz hwz => ?h8h) (h := ?_)
  case h8h => (have hpp := Nat.lt_of_lt_of_le zp hwz.size; go_simp; try with_reducible rfl)
  refine Rg.op 9 (some 17) hS (v := (.pointer (some ⟨f, 0, none⟩))) (hy := fun wz hwz => ?h9h) (h := ?_)
  case h9h => (have cx := (hwz.cell (p := ⟨p, 0, none⟩) zp (fun h => h)).trans p0; have hpp := Nat.lt_of_lt_of_le zp hwz.size; go_simp; try with_reducible rfl)
  refine Rg.call 10 (some 18) (hrun := ?h10h) (hcall := Pages_any (HIn.out.und.file.fr hS (fun h => h))) (h := ?_)
  case h10h => (go_simp)
  rintro e w3h ⟨rfl, rfl⟩
  refine ⟨_, ?a10h, rfl, ?b10h, (fun _ => hS), ?_⟩
  case b10h => (simp only [Act.put, List.setIfInBounds_toArray, List.set_cons_zero, List.set_cons_succ]; rfl)
  refine Rg.op 11 (some 19) hS (v := (.bool false)) (hy := fun wz hwz => ?h11h) (h := ?_)
  case h11h => (have hq := t1; go_simp; try with_reducible rfl)
  refine Rg.op 12 (some 20) hS (v := (.bool false)) (hy := fun wz hwz => ?h12h) (h := ?_)
  case h12h => (go_simp; try with_reducible rfl)
  refine Rg.op 13 (some 21) hS (v := ?v13h) (hy := fun wz hwz => ?h13h) (h := ?_)
  case h13h => (go_simp; try with_reducible rfl)
  refine Rg.op 14 (some 22) hS (v := ?v14h) (hy := fun wz hwz => ?h14h) (h := ?_)
  case h14h => (go_simp; try with_reducible rfl)
  refine Rg.op 15 (some 23) hS (v := (.slice (some ⟨kb, ko, none⟩) 480 c)) (hy := fun wz hwz => ?h15h) (h := ?_)
  case h15h => (have cx := (hwz.cell (p := ⟨gx, 2, none⟩) zx (fun h => h)).trans x2; have hpp := Nat.lt_of_lt_of_le zx hwz.size; go_simp; try with_reducible rfl)
  refine Rg.op 16 (some 24) hS (v := (.int .i64 480)) (hy := fun wz hwz => ?h16h) (h := ?_)
  case h16h => (have hq := qB; go_simp; try with_reducible rfl)
  refine Rg.op 17 (some 25) hS (v := (.bool false)) (hy := fun wz hwz => ?h17h) (h := ?_)
  case h17h => (have hq := t2; go_simp; try with_reducible rfl)
  refine Rg.op 18 (some 26) hS (v := (.bool false)) (hy := fun wz hwz => ?h18h) (h := ?_)
  case h18h => (go_simp; try with_reducible rfl)
  refine Rg.op 19 (some 27) hS (v := ?v19h) (hy := fun wz hwz => ?h19h) (h := ?_)
  case h19h => (go_simp; try with_reducible rfl)
  refine Rg.op 20 (some 28) hS (v := ?v20h) (hy := fun wz hwz => ?h20h) (h := ?_)
  case h20h => (go_simp; try with_reducible rfl)
  refine Rg.op 21 (some 29) hS (v := (.int .u64 x.lsn)) (hy := fun wz hwz => ?h21h) (h := ?_)
  case h21h => (have cx := (hwz.cell (p := ⟨gx, 1, none⟩) zx (fun h => h)).trans x1; have hpp := Nat.lt_of_lt_of_le zx hwz.size; go_simp; try with_reducible rfl)
  refine Rg.op 22 (some 30) hS (v := ?v22h) (hy := fun wz hwz => ?h22h) (h := ?_)
  case h22h => (go_simp; try with_reducible rfl)
  refine Rg.op 23 (some 31) hS (v := ?v23h) (hy := fun wz hwz => ?h23h) (h := ?_)
  case h23h => (have hpp := Nat.lt_of_lt_of_le zp hwz.size; go_simp; try with_reducible rfl)
  refine Rg.op 24 (some 32) hS (v := ?v24h) (hy := fun wz hwz => ?h24h) (h := ?_)
  case h24h => (have hpp := Nat.lt_of_lt_of_le zp hwz.size; go_simp; try with_reducible rfl)
  refine Rg.op 25 (some 33) hS (v := (.pointer (some ⟨l, 0, none⟩))) (hy := fun wz hwz => ?h25h) (h := ?_)
  case h25h => (have cx := (hwz.cell (p := ⟨p, 1, none⟩) zp (fun h => h)).trans p1; have hpp := Nat.lt_of_lt_of_le zp hwz.size; go_simp; try with_reducible rfl)
  refine Rg.call 26 (some 34) (hrun := ?h26h) (hcall := Next_any (HIn.out.und.log.new hS)) (h := ?_)
  case h26h => (go_simp)
  rintro e w4h ⟨rfl, rfl⟩
  refine ⟨_, ?a26h, rfl, ?b26h, (fun _ => hS), ?_⟩
  case b26h => (simp only [Act.put, List.setIfInBounds_toArray, List.set_cons_zero, List.set_cons_succ]; rfl)
  refine Rg.op 27 (some 35) hS (v := (.bool false)) (hy := fun wz hwz => ?h27h) (h := ?_)
  case h27h => (have hq := t3; go_simp; try with_reducible rfl)
  refine Rg.op 28 (some 36) hS (v := (.bool false)) (hy := fun wz hwz => ?h28h) (h := ?_)
  case h28h => (go_simp; try with_reducible rfl)
  refine Rg.done _ (h := ?_)
  go_wp2
  have hT : Fr Nob wa wa.drew.drew := hS.drew
  refine Rg.begin (Fr Nob wa) [] (by kernel_rfl) ?_
  refine Rg.op 0 (some 38) hT (v := ?v0j) (hy := fun wz hwz => ?h0j) (h := ?_)
  case h0j => (go_simp; try with_reducible rfl)
  refine Rg.op 1 (some 39) hT (v := ?v1j) (hy := fun wz hwz => ?h1j) (h := ?_)
  case h1j => (have hpp := Nat.lt_of_lt_of_le zp hwz.size; go_simp; try with_reducible rfl)
  refine Rg.op 2 (some 40) hT (v := ?v2j) (hy := fun wz hwz => ?h2j) (h := ?_)
  case h2j => (have hpp := Nat.lt_of_lt_of_le zp hwz.size; go_simp; try with_reducible rfl)
  refine Rg.op 3 (some 41) hT (v := (.map (some B))) (hy := fun wz hwz => ?h3j) (h := ?_)
  case h3j => (have cx := (hwz.cell (p := ⟨p, 3, none⟩) zp (fun h => h)).trans p3; have hpp := Nat.lt_of_lt_of_le zp hwz.size; go_simp; try with_reducible rfl)
  refine Rg.op 4 (some 42) hT (v := ?v4j) (hy := fun wz hwz => ?h4j) (h := ?_)
  case h4j => (go_simp; try with_reducible rfl)
  refine Rg.op 5 (some 43) hT (v := (.int .i64 x.no)) (hy := fun wz hwz => ?h5j) (h := ?_)
  case h5j => (have cx := (hwz.cell (p := ⟨gx, 0, none⟩) zx (fun h => h)).trans x0; have hpp := Nat.lt_of_lt_of_le zx hwz.size; go_simp; try with_reducible rfl)
  refine Rg.op 6 (some 44) hT (v := (.tuple #[.pointer (some ⟨b, 0, none⟩), .bool true])) (hy := fun wz hwz => ?h6j) (h := ?_)
  case h6j => (have hq := (HIn.out.pool.map.fr (hwz) (fun h => h)).run_ok key_law Tryz.underlying67 (mapif_zero _) (x.no : Int) (key_of _ (by omega) (by omega)); rw [HHeld.out] at hq; dsimp only [ptrOf, Option.isSome] at hq; go_simp; try rfl)
  refine Rg.op 7 (some 37) hT (v := ?v7j) (hy := fun wz hwz => ?h7j) (h := ?_)
  case h7j => (go_simp; try with_reducible rfl)
  refine Rg.op 8 (some 45) hT (v := ?v8j) (hy := fun wz hwz => ?h8j) (h := ?_)
  case h8j => (go_simp; try with_reducible rfl)
  refine Rg.op 9 (some 46) hT (v := ?v9j) (hy := fun wz hwz => ?h9j) (h := ?_)
  case h9j => (go_simp; try with_reducible rfl)
  refine Rg.op 10 (some 5) hT (v := ?v10j) (hy := fun wz hwz => ?h10j) (h := ?_)
  case h10j => (go_simp; try with_reducible rfl)
  refine Rg.op 11 (some 6) hT (v := ?v11j) (hy := fun wz hwz => ?h11j) (h := ?_)
  case h11j => (go_simp; try with_reducible rfl)
  refine Rg.done _ (h := ?_)
  have hbx2 : Blk wa.drew.drew gx 40 #[.int .i64 x.no, .int .u64 x.lsn, .slice (some ⟨kb, ko, none⟩) 480 c] := HBx.out
  have y0 := hbx2.cell 0
  have y1 := hbx2.cell 1
  have y2 := hbx2.cell 2
  have yz := hbx2.lt
  simp only [List.getElem?_toArray, List.getElem?_cons_zero, List.getElem?_cons_succ] at y0 y1 y2
  clear hbx2
  have HCp := Lib.hid (copied_any (x.no : Int) (x.lsn : Int) kb ko c x.d (HBa.out.new hT) HOk.out.d)
  go_wp2_with fail
  refine HCp.out.mono ?_
  rintro e w3 ⟨gn, rfl, hc3, hg3, hf3⟩
  have hf03 : Fr Nob wa w3 := hT.trans hf3
  have hfb3 := HFb.out.fr hf03 (fun h => h)
  have HFb3 := Lib.hid hfb3
  have HC3 := Lib.hid hc3
  have HF3 := Lib.hid hf03
  have s0 := hfb3.cell 0
  have s1 := hfb3.cell 1
  have s2 := hfb3.cell 2
  have s3 := hfb3.cell 3
  have s4 := hfb3.cell 4
  have q0 := hfb3.frozen 0
  have q1 := hfb3.frozen 1
  have q2 := hfb3.frozen 2
  have q3 := hfb3.frozen 3
  have q4 := hfb3.frozen 4
  have sz := hfb3.lt
  have hgl := hc3.lt
  have hg3' : wa.heap.size ≤ gn := hg3
  simp only [List.getElem?_toArray, List.getElem?_cons_zero, List.getElem?_cons_succ] at s0 s1 s2 s3 s4
  clear hfb3 hc3 hf3 hf03 HCp y0 y1 y2 yz hS hT
  go_wp2
  go_ret
  have hwa := HFa.out.size
  have hbE := ((((HFb3.out.set_ 0 (.int .i64 x.no)).set_ 1 (.int .u64 x.lsn)).set_ 2 (.slice (some ⟨gn, 0, none⟩) 480 480)).set_ 3 (.bool true)).set_ 4 (.bool true)
  have hfE : Fr (fun k => k = b) w3 (((((w3.setCell ⟨b, 0, none⟩ (.int .i64 x.no)).setCell ⟨b, 1, none⟩ (.int .u64 x.lsn)).setCell ⟨b, 2, none⟩ (.slice (some ⟨gn, 0, none⟩) 480 480)).setCell ⟨b, 3, none⟩ (.bool true)).setCell ⟨b, 4, none⟩ (.bool true)) :=
    (((((Fr.refl (fun k => k = b) w3).setCell (p := ⟨b, 0, none⟩) (.inr rfl) _).setCell (p := ⟨b, 1, none⟩) (.inr rfl) _).setCell (p := ⟨b, 2, none⟩) (.inr rfl) _).setCell (p := ⟨b, 3, none⟩) (.inr rfl) _).setCell (p := ⟨b, 4, none⟩) (.inr rfl) _
  have hUb : Uni RP RQ RL RD f b := .inl HRb.out
  have hblt := HUlt.out b hUb
  have hin3 := HIn.out.new HF3.out
  have hpm := hin3.pool.more (RP' := RP) (RQ' := fun k => RQ k ∨ k = gn) (fun _ h => h) (fun _ h => .inl h) (fun k hk e => by
    rcases e with e | e
    · exact hin3.pool.ap k hk e
    · have := HUlt.out k (.inl hk); omega) hin3.pool.lt (fun k hk => by
    rcases hk with hk | hk
    · exact hin3.pool.ltq k hk
    · omega)
  have hset := hpm.setF (m' := ⟨x, true, true⟩) HI.out hfE HM.out.symm ⟨HRb.out, gn, 0, 480, .inr rfl, hbE, (HC3.out.bsl 480 (by rw [HOk.out.d]; omega)).fr hfE (fun a ha e => by injection ha with ha; subst ha; have e : gn = b := e; omega)⟩
  refine ⟨rfl, gn, by omega, by have := hfE.size; omega, ?_, ((HFa.out.trans HF3.out).mono (fun _ _ h => h.elim) : Fr RP w w3).step hfE (fun k hk e => by have e : k = b := e; rw [e]; exact HRb.out)⟩
  exact { hin3 with
    pool := hset
    und := hin3.und.fr hfE (fun k hk e => (hin3.ap b (.inl HRb.out)).1 (e ▸ hk)) (fun k hk e => (hin3.ap b (.inl HRb.out)).2.1 (e ▸ hk)) (fun e => (hin3.ap b (.inl HRb.out)).2.2 e.symm)
    ap := fun k hk => by
      rcases hk with hk | hk | hk
      · exact hin3.ap k (.inl hk)
      · exact hin3.ap k (.inr hk)
      · refine ⟨fun e => ?_, fun e => ?_, fun e => ?_⟩
        · have := HUlt.out k (.inr (.inr (.inl e))); omega
        · have := HUlt.out k (.inr (.inr (.inr (.inl e)))); omega
        · have := HUlt.out k (.inr (.inr (.inr (.inr e)))); omega
    views := hin3.views.put HI.out (fun j y hj e => hin3.pool.apart hj HI.out e) x HM.out.symm HOk.out
    kk := fun y hy => by
      rcases List.mem_or_eq_of_mem_set hy with hy | hy
      · exact hin3.kk y hy
      · rw [hy]; exact HKd.out
    vok := fun no hn => by
      by_cases e : no = x.no
      · rw [if_pos e]; exact ⟨HOk.out, e.symm⟩
      · rw [if_neg e]; exact hin3.vok no hn }
set_option maxHeartbeats 3200000 in
set_option maxRecDepth 100000 in
theorem Put_newC (h : PInC w p f l d pages frames V L M N RP RQ RL RD hand B rv fs cur S T lot) (x : PgV) (kb ko c : Nat) (hb : Bsl w (some ⟨kb, ko, none⟩) c x.d) (hok : x.Ok) (hno : x.no < pages) (hls : x.lsn < L.next) (hkd : ∃ n, x.d = dataB n) (hn : ∀ y ∈ fs, y.2.x.no ≠ x.no) (hM : M + 1 ≤ 1000000000000000000) (hkb : ¬ Uni RP RQ RL RD f kb) :
    Calls Tryz.prog 8 #[.pointer (some ⟨p, 0, none⟩), .agg #[.int .i64 x.no, .int .u64 x.lsn, .slice (some ⟨kb, ko, none⟩) 480 c]] w fun e w' => (e = .returned (.int .i64 0) ∧ ∃ L' S' T' lot' RP' RQ' RD' hand' rv' fs' cur', PInC w' p f l d pages frames (fun no => if no = x.no then x else V no) L' (M + 1) N RP' RQ' RL RD' hand' B rv' fs' cur' S' T' lot' ∧ LSame L L' ∧ (∀ y ∈ fs', y.2.dirty = true → y.2.x.no = x.no ∨ ∃ z ∈ fs, z.2.x.no = y.2.x.no ∧ z.2.dirty = true) ∧ (∀ b, Uni RP' RQ' RL RD' f b → Uni RP RQ RL RD f b ∨ w.heap.size ≤ b) ∧ Fr (Uni RP RQ RL RD f) w w') ∨ (e = .returned (.int .i64 50) ∧ LostE w w' d RD (Uni RP RQ RL RD f)) := by
  have qB := len_by
  obtain ⟨gx, hgx⟩ : ∃ g, w.heap.size = g := ⟨_, rfl⟩
  have HGx := Lib.hid hgx
  have hfa : Fr Nob w (w.alloc (.cells #[.int .i64 x.no, .int .u64 x.lsn, .slice (some ⟨kb, ko, none⟩) 480 c] 40)) := (Fr.refl _ w).alloc _
  have hbx : Blk (w.alloc (.cells #[.int .i64 x.no, .int .u64 x.lsn, .slice (some ⟨kb, ko, none⟩) 480 c] 40)) gx 40 #[.int .i64 x.no, .int .u64 x.lsn, .slice (some ⟨kb, ko, none⟩) 480 c] := by rw [← hgx]; exact Blk.new _ _ _
  have hin := h.new hfa
  obtain ⟨wa, hwa⟩ : ∃ W, w.alloc (.cells #[.int .i64 x.no, .int .u64 x.lsn, .slice (some ⟨kb, ko, none⟩) 480 c] 40) = W := ⟨_, rfl⟩
  rw [hwa] at hfa hbx hin
  have HIn := Lib.hid hin
  have HFa := Lib.hid hfa
  have HBx := Lib.hid hbx
  have x0 := hbx.cell 0
  have x1 := hbx.cell 1
  have x2 := hbx.cell 2
  have zx := hbx.lt
  have p0 := hin.pool.blk.cell 0
  have p1 := hin.pool.blk.cell 1
  have zp := hin.pool.blk.lt
  have hpg := h.und.pg2
  simp only [List.getElem?_toArray, List.getElem?_cons_zero, List.getElem?_cons_succ] at x0 x1 x2 p0 p1
  have p3 := hin.pool.blk.cell 3
  simp only [List.getElem?_toArray, List.getElem?_cons_zero, List.getElem?_cons_succ] at p3
  have HOk := Lib.hid hok
  have HKd : Hid (x.lsn < L.next ∧ ∃ n, x.d = dataB n) := ⟨hls, hkd⟩
  clear hkd
  have HBa := Lib.hid (hb.new hfa)
  have hno5 := hok.no
  have t0 : ¬ (x.no : Int) < 0 := by omega
  have t1 : ¬ (pages : Int) ≤ (x.no : Int) := by omega
  have t2 : True := trivial
  have t3 : ¬ L.next ≤ x.lsn := by omega
  have HUlt : Hid (∀ b, Uni RP RQ RL RD f b → b < w.heap.size) := fun b hb => h.lt hb
  have HN := Lib.hid hn
  have HHeld : Hid (heldAt (ksOf fs) (x.no : Int) = none) := heldAt_none (fun k hk e => by
    unfold ksOf at hk
    obtain ⟨y, hy, rfl⟩ := List.mem_map.1 hk
    exact hn y hy (by have e : (y.2.x.no : Int) = x.no := e; omega))
  have hkl : kb < w.heap.size := hb.lt _ rfl
  clear h hin hfa hbx hb hok hn
  go_enter Tryz.func8, Tryz.ntmps8
  go_wp2
  have hS : Fr Nob wa wa.drew := (Fr.refl _ wa).drew
  refine Rg.begin (Fr Nob wa) [] (by kernel_rfl) ?_
  refine Rg.op 0 (some 8) hS (v := ?v0h) (hy := fun wz hwz => ?h0h) (h := ?_)
  case h0h => (go_simp; try with_reducible rfl)
  refine Rg.op 1 (some 9) hS (v := (.int .i64 x.no)) (hy := fun wz hwz => ?h1h) (h := ?_)
  case h1h => (have cx := (hwz.cell (p := ⟨gx, 0, none⟩) zx (fun h => h)).trans x0; have hpp := Nat.lt_of_lt_of_le zx hwz.size; go_simp; try with_reducible rfl)
  refine Rg.op 2 (some 10) hS (v := (.bool false)) (hy := fun wz hwz => ?h2h) (h := ?_)
  case h2h => (have hq := t0; go_simp; try with_reducible rfl)
  refine Rg.op 3 (some 11) hS (v := ?v3h) (hy := fun wz hwz => ?h3h) (h := ?_)
  case h3h => (go_simp; try with_reducible rfl)
  refine Rg.op 4 (some 12) hS (v := ?v4h) (hy := fun wz hwz => ?h4h) (h := ?_)
  case h4h => (go_simp; try with_reducible rfl)
  refine Rg.op 5 (some 13) hS (v := (.int .i64 x.no)) (hy := fun wz hwz => ?h5h) (h := ?_)
  case h5h => (have cx := (hwz.cell (p := ⟨gx, 0, none⟩) zx (fun h => h)).trans x0; have hpp := Nat.lt_of_lt_of_le zx hwz.size; go_simp; try with_reducible rfl)
  refine Rg.op 6 (some 14) hS (v := ?v6h) (hy := fun wz hwz => ?h6h) (h := ?_)
  case h6h => (go_simp; try with_reducible rfl)
  refine Rg.op 7 (some 15) hS (v := ?v7h) (hy := fun wz hwz => ?h7h) (h := ?_)
  case h7h => (have hpp := Nat.lt_of_lt_of_le zp hwz.size; go_simp; try with_reducible rfl)
  refine Rg.op 8 (some 16) hS (v := ?v8h) (hy := fun wz hwz => ?h8h) (h := ?_)
  case h8h => (have hpp := Nat.lt_of_lt_of_le zp hwz.size; go_simp; try with_reducible rfl)
  refine Rg.op 9 (some 17) hS (v := (.pointer (some ⟨f, 0, none⟩))) (hy := fun wz hwz => ?h9h) (h := ?_)
  case h9h => (have cx := (hwz.cell (p := ⟨p, 0, none⟩) zp (fun h => h)).trans p0; have hpp := Nat.lt_of_lt_of_le zp hwz.size; go_simp; try with_reducible rfl)
  refine Rg.call 10 (some 18) (hrun := ?h10h) (hcall := Pages_any (HIn.out.und.file.fr hS (fun h => h))) (h := ?_)
  case h10h => (go_simp)
  rintro e w3h ⟨rfl, rfl⟩
  refine ⟨_, ?a10h, rfl, ?b10h, (fun _ => hS), ?_⟩
  case b10h => (simp only [Act.put, List.setIfInBounds_toArray, List.set_cons_zero, List.set_cons_succ]; rfl)
  refine Rg.op 11 (some 19) hS (v := (.bool false)) (hy := fun wz hwz => ?h11h) (h := ?_)
  case h11h => (have hq := t1; go_simp; try with_reducible rfl)
  refine Rg.op 12 (some 20) hS (v := (.bool false)) (hy := fun wz hwz => ?h12h) (h := ?_)
  case h12h => (go_simp; try with_reducible rfl)
  refine Rg.op 13 (some 21) hS (v := ?v13h) (hy := fun wz hwz => ?h13h) (h := ?_)
  case h13h => (go_simp; try with_reducible rfl)
  refine Rg.op 14 (some 22) hS (v := ?v14h) (hy := fun wz hwz => ?h14h) (h := ?_)
  case h14h => (go_simp; try with_reducible rfl)
  refine Rg.op 15 (some 23) hS (v := (.slice (some ⟨kb, ko, none⟩) 480 c)) (hy := fun wz hwz => ?h15h) (h := ?_)
  case h15h => (have cx := (hwz.cell (p := ⟨gx, 2, none⟩) zx (fun h => h)).trans x2; have hpp := Nat.lt_of_lt_of_le zx hwz.size; go_simp; try with_reducible rfl)
  refine Rg.op 16 (some 24) hS (v := (.int .i64 480)) (hy := fun wz hwz => ?h16h) (h := ?_)
  case h16h => (have hq := qB; go_simp; try with_reducible rfl)
  refine Rg.op 17 (some 25) hS (v := (.bool false)) (hy := fun wz hwz => ?h17h) (h := ?_)
  case h17h => (have hq := t2; go_simp; try with_reducible rfl)
  refine Rg.op 18 (some 26) hS (v := (.bool false)) (hy := fun wz hwz => ?h18h) (h := ?_)
  case h18h => (go_simp; try with_reducible rfl)
  refine Rg.op 19 (some 27) hS (v := ?v19h) (hy := fun wz hwz => ?h19h) (h := ?_)
  case h19h => (go_simp; try with_reducible rfl)
  refine Rg.op 20 (some 28) hS (v := ?v20h) (hy := fun wz hwz => ?h20h) (h := ?_)
  case h20h => (go_simp; try with_reducible rfl)
  refine Rg.op 21 (some 29) hS (v := (.int .u64 x.lsn)) (hy := fun wz hwz => ?h21h) (h := ?_)
  case h21h => (have cx := (hwz.cell (p := ⟨gx, 1, none⟩) zx (fun h => h)).trans x1; have hpp := Nat.lt_of_lt_of_le zx hwz.size; go_simp; try with_reducible rfl)
  refine Rg.op 22 (some 30) hS (v := ?v22h) (hy := fun wz hwz => ?h22h) (h := ?_)
  case h22h => (go_simp; try with_reducible rfl)
  refine Rg.op 23 (some 31) hS (v := ?v23h) (hy := fun wz hwz => ?h23h) (h := ?_)
  case h23h => (have hpp := Nat.lt_of_lt_of_le zp hwz.size; go_simp; try with_reducible rfl)
  refine Rg.op 24 (some 32) hS (v := ?v24h) (hy := fun wz hwz => ?h24h) (h := ?_)
  case h24h => (have hpp := Nat.lt_of_lt_of_le zp hwz.size; go_simp; try with_reducible rfl)
  refine Rg.op 25 (some 33) hS (v := (.pointer (some ⟨l, 0, none⟩))) (hy := fun wz hwz => ?h25h) (h := ?_)
  case h25h => (have cx := (hwz.cell (p := ⟨p, 1, none⟩) zp (fun h => h)).trans p1; have hpp := Nat.lt_of_lt_of_le zp hwz.size; go_simp; try with_reducible rfl)
  refine Rg.call 26 (some 34) (hrun := ?h26h) (hcall := Next_any (HIn.out.und.log.new hS)) (h := ?_)
  case h26h => (go_simp)
  rintro e w4h ⟨rfl, rfl⟩
  refine ⟨_, ?a26h, rfl, ?b26h, (fun _ => hS), ?_⟩
  case b26h => (simp only [Act.put, List.setIfInBounds_toArray, List.set_cons_zero, List.set_cons_succ]; rfl)
  refine Rg.op 27 (some 35) hS (v := (.bool false)) (hy := fun wz hwz => ?h27h) (h := ?_)
  case h27h => (have hq := t3; go_simp; try with_reducible rfl)
  refine Rg.op 28 (some 36) hS (v := (.bool false)) (hy := fun wz hwz => ?h28h) (h := ?_)
  case h28h => (go_simp; try with_reducible rfl)
  refine Rg.done _ (h := ?_)
  go_wp2
  have hT : Fr Nob wa wa.drew.drew := hS.drew
  refine Rg.begin (Fr Nob wa) [] (by kernel_rfl) ?_
  refine Rg.op 0 (some 38) hT (v := ?v0j) (hy := fun wz hwz => ?h0j) (h := ?_)
  case h0j => (go_simp; try with_reducible rfl)
  refine Rg.op 1 (some 39) hT (v := ?v1j) (hy := fun wz hwz => ?h1j) (h := ?_)
  case h1j => (have hpp := Nat.lt_of_lt_of_le zp hwz.size; go_simp; try with_reducible rfl)
  refine Rg.op 2 (some 40) hT (v := ?v2j) (hy := fun wz hwz => ?h2j) (h := ?_)
  case h2j => (have hpp := Nat.lt_of_lt_of_le zp hwz.size; go_simp; try with_reducible rfl)
  refine Rg.op 3 (some 41) hT (v := (.map (some B))) (hy := fun wz hwz => ?h3j) (h := ?_)
  case h3j => (have cx := (hwz.cell (p := ⟨p, 3, none⟩) zp (fun h => h)).trans p3; have hpp := Nat.lt_of_lt_of_le zp hwz.size; go_simp; try with_reducible rfl)
  refine Rg.op 4 (some 42) hT (v := ?v4j) (hy := fun wz hwz => ?h4j) (h := ?_)
  case h4j => (go_simp; try with_reducible rfl)
  refine Rg.op 5 (some 43) hT (v := (.int .i64 x.no)) (hy := fun wz hwz => ?h5j) (h := ?_)
  case h5j => (have cx := (hwz.cell (p := ⟨gx, 0, none⟩) zx (fun h => h)).trans x0; have hpp := Nat.lt_of_lt_of_le zx hwz.size; go_simp; try with_reducible rfl)
  refine Rg.op 6 (some 44) hT (v := (.tuple #[.pointer none, .bool false])) (hy := fun wz hwz => ?h6j) (h := ?_)
  case h6j => (have hq := (HIn.out.pool.map.fr (hwz) (fun h => h)).run_ok key_law Tryz.underlying67 (mapif_zero _) (x.no : Int) (key_of _ (by omega) (by omega)); rw [HHeld.out] at hq; dsimp only [ptrOf, Option.isSome] at hq; go_simp; try rfl)
  refine Rg.op 7 (some 37) hT (v := ?v7j) (hy := fun wz hwz => ?h7j) (h := ?_)
  case h7j => (go_simp; try with_reducible rfl)
  refine Rg.op 8 (some 45) hT (v := ?v8j) (hy := fun wz hwz => ?h8j) (h := ?_)
  case h8j => (go_simp; try with_reducible rfl)
  refine Rg.op 9 (some 46) hT (v := ?v9j) (hy := fun wz hwz => ?h9j) (h := ?_)
  case h9j => (go_simp; try with_reducible rfl)
  refine Rg.op 10 (some 5) hT (v := ?v10j) (hy := fun wz hwz => ?h10j) (h := ?_)
  case h10j => (go_simp; try with_reducible rfl)
  refine Rg.op 11 (some 6) hT (v := ?v11j) (hy := fun wz hwz => ?h11j) (h := ?_)
  case h11j => (go_simp; try with_reducible rfl)
  refine Rg.done _ (h := ?_)
  have HRoom := Lib.hid (room_anyC (HIn.out.new hT) hM)
  have HT := Lib.hid hT
  clear hS
  obtain ⟨w3, hw3⟩ : ∃ W, wa.drew.drew = W := ⟨_, rfl⟩
  rw [hw3] at HRoom HT hT
  go_wp2_with fail
  refine HRoom.out.mono ?_
  rintro e w4 (⟨rfl, L', S', T', lot', RD', hand', rv', fs', cur', hin4, hs4, hl4, hno4, hsub4, hf4⟩ | ⟨rfl, hlost⟩)
  rotate_left
  · have HLo : Hid (LostE w w4 d RD (Uni RP RQ RL RD f)) := hlost.after (V := Uni RP RQ RL RD f) ((HFa.out.trans HT.out).mono (fun _ _ h => h.elim)) (fun b hb => .inl hb) (fun b _ e => e)
    clear hlost HRoom
    go_wp2
    go_ret
    exact .inr ⟨rfl, HLo.out⟩
  have hwa := HFa.out.size
  have hz3 := HT.out.size
  have hgxz := HGx.out
  have hU : ∀ b, w.heap.size ≤ b → ¬ Uni RP RQ RL RD f b := fun b hb e => by have := HUlt.out b e; omega
  have HIn4 := Lib.hid hin4
  have HS4 := Lib.hid hs4
  have HSub4 := Lib.hid hsub4
  have HF4 := Lib.hid hf4
  have hbx4 := (HBx.out.fr HT.out (fun h => h)).fr hf4 (hU gx (by omega))
  have hbs4 : Bsl w4 (some ⟨kb, ko, none⟩) c x.d := (HBa.out.new HT.out).fr hf4 (fun a ha e => by injection ha with ha; subst ha; exact hkb e)
  have hn4 : ∀ y ∈ fs', y.2.x.no ≠ x.no := fun y hy e => by
    obtain ⟨z, hz, e2, _⟩ := hno4 y hy
    exact HN.out z hz (e2.trans e)
  have HNo4 := Lib.hid hno4
  have HN4 := Lib.hid hn4
  have HL4 := Lib.hid hl4
  have HCp := Lib.hid (copied_any (x.no : Int) (x.lsn : Int) kb ko c x.d hbs4 HOk.out.d)
  have y0 := hbx4.cell 0
  have y1 := hbx4.cell 1
  have y2 := hbx4.cell 2
  have yz := hbx4.lt
  simp only [List.getElem?_toArray, List.getElem?_cons_zero, List.getElem?_cons_succ] at y0 y1 y2
  clear hin4 hs4 hsub4 hf4 hbx4 hbs4 hn4 hno4 hl4 HRoom hw3 hT
  go_wp2_with fail
  refine HCp.out.mono ?_
  rintro e w5 ⟨gn, rfl, hc5, hg5, hf5⟩
  have hz34 : w3.heap.size ≤ w4.heap.size := HF4.out.size
  have hin5 := HIn4.out.new hf5
  have hRPg : ¬ RP gn := fun e => hU gn (by omega) (.inl e)
  have hbs5 := hc5.bsl 480 (by rw [HOk.out.d]; omega)
  have HHold := Lib.hid (hold_any hin5.pool x true gn 0 480 hbs5 hRPg HL4.out HN4.out HOk.out.no)
  have HIn5 := Lib.hid hin5
  have HF5 := Lib.hid hf5
  have hgl := hc5.lt
  clear hc5 hf5 hin5 hbs5 HCp y0 y1 y2 yz
  go_wp2_with fail
  refine HHold.out.mono ?_
  rintro e w6 ⟨rfl, rv6, gb, hp6, hf6⟩
  have hg5' : w4.heap.size ≤ gn := hg5
  have hg0o : ¬ RL gn ∧ ¬ RD' gn ∧ gn ≠ f := ⟨fun e => hU gn (by omega) (.inr (.inr (.inl e))), fun e => by
    have := HIn4.out.und.disk.lt e; omega, fun e => hU gn (by omega) (.inr (.inr (.inr (.inr e))))⟩
  obtain ⟨hin6, hf6'⟩ := HIn5.out.hold (HIn5.out.views.putNew gb x hno HN4.out HOk.out) (fun no hn => by
      by_cases e : no = x.no
      · rw [if_pos e]; exact ⟨HOk.out, e.symm⟩
      · rw [if_neg e]; exact HIn5.out.vok no hn) hp6 hf6 hg0o ⟨by rw [HS4.out.next]; exact HKd.out.1, HKd.out.2⟩
  have HIn6 := Lib.hid hin6
  have HF6 := Lib.hid hf6'
  clear hp6 hf6 hin6 hf6' HHold
  go_wp2
  go_ret
  refine .inl ⟨rfl, L', S', T', lot', _, _, RD', hand', rv6, _, cur', HIn6.out, HS4.out, fun y hy hd => ?_, fun b hb => ?_, ?_⟩
  · rcases List.mem_append.1 hy with hy | hy
    · obtain ⟨z, hz, e1, e2⟩ := HNo4.out y hy
      exact .inr ⟨z, hz, e1, e2 hd⟩
    · rw [List.mem_singleton] at hy
      rw [hy]
      exact .inl rfl
  · have hz5 := HF5.out.size
    rcases hb with (hb | hb) | (hb | hb) | hb | hb | hb
    · exact .inl (.inl hb)
    · exact .inr (by omega)
    · exact .inl (.inr (.inl hb))
    · exact .inr (by omega)
    · exact .inl (.inr (.inr (.inl hb)))
    · rcases HSub4.out b hb with e | e
      · exact .inl (.inr (.inr (.inr (.inl e))))
      · exact .inr (by omega)
    · exact .inl (.inr (.inr (.inr (.inr hb))))
  · exact ((((HFa.out.trans HT.out).mono (fun _ _ h => h.elim) : Fr (Uni RP RQ RL RD f) w w3).trans HF4.out).trans (HF5.out.mono (fun _ _ h => h.elim))).trans (HF6.out.mono (fun _ _ h => .inl h))
end
end Go.Proofs.YtccmmnacejdeoaaGreatDoor
