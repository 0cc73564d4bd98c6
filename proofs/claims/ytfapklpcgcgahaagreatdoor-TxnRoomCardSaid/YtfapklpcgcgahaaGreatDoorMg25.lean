/-
  Pool10, Pool11, Pool12, in one text.
-/
import Derived.Test.YtfapklpcgcgahaaGreatDoorMg24
/-
  A pool with all that lies under it (PIn); Evict.
-/
namespace Go.Proofs.YtfapklpcgcgahaaGreatDoor
set_option linter.unusedSimpArgs false
set_option linter.unusedVariables false
open Go.RowKit Go.Maps

structure PIn (w : World) (p f l d pages : Nat) (frames : Int) (V : Nat → PgV) (L : LS) (M N : Nat) (RP RQ RL RD : Nat → Prop) (hand : Int) (B : Nat) (rv : Value) (fs : List (Nat × Frm)) (cur : Nat → Option PgV) (S : DS) (T : Nat) (lot : List PgV) : Prop where
  pool : PoolAt RP RQ w p f l frames hand B rv fs
  und : Und w f l d pages cur L S T lot RL RD N
  ap : ∀ b, RP b ∨ RQ b → ¬ RL b ∧ ¬ RD b ∧ b ≠ f
  views : Views fs cur pages V
  tm : T ≤ M
  M1 : M ≤ 1000000000000000000
  vok : ∀ no, no < pages → (V no).Ok ∧ (V no).no = no
/-- All blocks of a pool and of what lies under it. -/
def Uni (RP RQ RL RD : Nat → Prop) (f : Nat) : Nat → Prop := fun b => RP b ∨ RQ b ∨ RL b ∨ RD b ∨ b = f
section
variable {w w' : World} {p f l d pages : Nat} {frames : Int} {V : Nat → PgV} {L : LS} {M N : Nat} {RP RQ RL RD F : Nat → Prop} {hand : Int} {B : Nat} {rv : Value} {fs : List (Nat × Frm)} {cur : Nat → Option PgV} {S : DS} {T : Nat} {lot : List PgV}
theorem PIn.fr (h : PIn w p f l d pages frames V L M N RP RQ RL RD hand B rv fs cur S T lot) (hf : Fr F w w') (hF : ∀ b, Uni RP RQ RL RD f b → ¬ F b) : PIn w' p f l d pages frames V L M N RP RQ RL RD hand B rv fs cur S T lot :=
  { h with
    pool := h.pool.fr hf (fun b hb => hF b (.inl hb)) (fun b hb => hF b (.inr (.inl hb)))
    und := h.und.fr hf (fun b hb => hF b (.inr (.inr (.inl hb)))) (fun b hb => hF b (.inr (.inr (.inr (.inl hb))))) (hF f (.inr (.inr (.inr (.inr rfl))))) }
theorem PIn.new (h : PIn w p f l d pages frames V L M N RP RQ RL RD hand B rv fs cur S T lot) (hf : Fr Nob w w') : PIn w' p f l d pages frames V L M N RP RQ RL RD hand B rv fs cur S T lot := h.fr hf (fun _ _ h => h)
theorem PIn.lt (h : PIn w p f l d pages frames V L M N RP RQ RL RD hand B rv fs cur S T lot) {b : Nat} (hb : Uni RP RQ RL RD f b) : b < w.heap.size := by
  rcases hb with hb | hb | hb | hb | hb
  · exact h.pool.lt b hb
  · exact h.pool.ltq b hb
  · exact h.und.log.lt hb
  · exact h.und.disk.lt hb
  · rw [hb]; exact h.und.flt
/-- The pool behind a step that let its frames be SameUsed. -/
theorem PIn.used (h : PIn w p f l d pages frames V L M N RP RQ RL RD hand B rv fs cur S T lot) {gs : List (Nat × Frm)} {hand' : Int} (hp : PoolAt RP RQ w' p f l frames hand' B rv gs) (hs : SameUsed fs gs) (hf : Fr RP w w') : PIn w' p f l d pages frames V L M N RP RQ RL RD hand' B rv gs cur S T lot :=
  { h with
    pool := hp
    und := h.und.fr hf (fun b hb e => (h.ap b (.inl e)).1 hb) (fun b hb e => (h.ap b (.inl e)).2.1 hb) (fun e => (h.ap f (.inl e)).2.2 rfl)
    views := h.views.same hs }

set_option maxRecDepth 100000 in
theorem Pages_any {w : World} {f d at0 pages turn : Nat} (h : FileAt w f d at0 pages turn) : Calls Tryz.prog 82 #[.pointer (some ⟨f, 0, none⟩)] w fun e w' => e = .returned (.int .i64 pages) ∧ w = w' := by
  have c2 := Blk.cell h 2
  have hz := Blk.lt h
  simp only [List.getElem?_toArray, List.getElem?_cons_zero, List.getElem?_cons_succ] at c2
  clear h
  go_enter Tryz.func82, Tryz.ntmps82
  go_wp2
  go_ret
  exact ⟨rfl, rfl⟩
/-- .. of a page that is not held. -/
theorem Evict_not (h : PIn w p f l d pages frames V L M N RP RQ RL RD hand B rv fs cur S T lot) (no : Nat) (hno : no < pages) (hn : ∀ y ∈ fs, y.2.x.no ≠ no) :
    Calls Tryz.prog 48 #[.pointer (some ⟨p, 0, none⟩), .int .i64 no] w fun e w' => e = .returned (.int .i64 0) ∧ w = w' := by
  have HPg := Lib.hid (Pages_any h.und.file)
  have HMap := Lib.hid h.pool.map
  have HHeld : Hid (heldAt (ksOf fs) (no : Int) = none) := heldAt_none (fun k hk e => by
    unfold ksOf at hk
    obtain ⟨y, hy, rfl⟩ := List.mem_map.1 hk
    exact hn y hy (by have e : (y.2.x.no : Int) = no := e; omega))
  have hpg := h.und.pg2
  have p0 := h.pool.blk.cell 0
  have p3 := h.pool.blk.cell 3
  have zp := h.pool.blk.lt
  simp only [List.getElem?_toArray, List.getElem?_cons_zero, List.getElem?_cons_succ] at p0 p3
  have h1 : ¬ (no : Int) < 0 := by omega
  have h2 : ¬ (pages : Int) ≤ (no : Int) := by omega
  clear h hn
  go_enter Tryz.func48, Tryz.ntmps48
  go_wp2_with fail
  refine HPg.out.mono ?_
  rintro e w1 ⟨rfl, rfl⟩
  go_wp2_with (with_reducible refine wpList_fr_look _ rfl _ _ _ rfl _ _ key_law Tryz.underlying113 (mapif_zero _) B _ _ rfl HMap.out (no : Int) rfl (key_of _ (by omega) (by omega)) ?_; rw [HHeld.out])
  go_ret
  exact ⟨rfl, rfl⟩
/-- What Evict leaves of a page that was held. -/
theorem PIn.dropped (h : PIn w p f l d pages frames V L M N RP RQ RL RD hand B rv fs cur S T lot) {i b : Nat} {m : Frm} (hi : fs[i]? = some (b, m)) (hd : m.dirty = false) {rv' : Value} (hp : PoolAt RP RQ w' p f l frames hand B rv' (fs.eraseIdx i)) (hf : Fr RP w w') :
    PIn w' p f l d pages frames V L M N RP RQ RL RD hand B rv' (fs.eraseIdx i) cur S T lot :=
  { h with
    pool := hp
    und := h.und.fr hf (fun b hb e => (h.ap b (.inl e)).1 hb) (fun b hb e => (h.ap b (.inl e)).2.1 hb) (fun e => (h.ap f (.inl e)).2.2 rfl)
    views := h.views.drop hi hd }
/-- What write leaves of one page. -/
theorem PIn.wrote (h : PIn w p f l d pages frames V L M N RP RQ RL RD hand B rv fs cur S T lot) {i b : Nat} {m : Frm} (hi : fs[i]? = some (b, m)) {L' : LS} {S' : DS} {RD' : Nat → Prop} (hM : M + 1 ≤ 1000000000000000000)
    (hp : PoolAt RP RQ w' p f l frames hand B rv (cleanF [m.x.no] fs)) (hu : Und w' f l d pages (curW cur [m.x] 1) L' S' (T + 1) [m.x] RL RD' N) (hsub : ∀ b, RD' b → RD b ∨ w.heap.size ≤ b) :
    PIn w' p f l d pages frames V L' (M + 1) N RP RQ RL RD' hand B rv (cleanF [m.x.no] fs) (curW cur [m.x] 1) S' (T + 1) [m.x] where
  pool := hp
  und := hu
  ap := fun b hb => ⟨(h.ap b hb).1, fun e => by
    rcases hsub b e with e | e
    · exact (h.ap b hb).2.1 e
    · rcases hb with hb | hb
      · have := h.pool.lt b hb; omega
      · have := h.pool.ltq b hb; omega, (h.ap b hb).2.2⟩
  views := h.views.cleaned [m.x.no] (fun no hno => by
    unfold curW
    dsimp only [List.getElem?_cons_zero]
    rw [if_neg (fun e => hno (List.mem_singleton.2 e))]; rfl) (fun y hy hn => by
    rw [List.mem_singleton] at hn
    obtain ⟨j, hj⟩ := List.mem_iff_getElem?.1 hy
    have := h.pool.apart hj hi hn
    subst this
    rw [hi] at hj
    injection hj with hj
    subst hj
    unfold curW
    dsimp only [List.getElem?_cons_zero]
    rw [if_pos rfl]) (fun n hn => by
    rw [List.mem_singleton] at hn
    exact ⟨_, List.mem_of_getElem? hi, hn.symm⟩)
  tm := by have := h.tm; omega
  M1 := hM
  vok := h.vok
set_option maxHeartbeats 3200000 in
set_option maxRecDepth 100000 in
theorem Evict_held (h : PIn w p f l d pages frames V L M N RP RQ RL RD hand B rv fs cur S T lot) {i b : Nat} {m : Frm} (hi : fs[i]? = some (b, m)) (hM : M + 1 ≤ 1000000000000000000) :
    Calls Tryz.prog 48 #[.pointer (some ⟨p, 0, none⟩), .int .i64 m.x.no] w fun e w' => e = .returned (.int .i64 0) ∧ ∃ L' S' T' lot' RD' rv' fs' cur', PIn w' p f l d pages frames V L' (M + 1) N RP RQ RL RD' hand B rv' fs' cur' S' T' lot' ∧ LSame L L' ∧ fs'.length + 1 = fs.length ∧ (∀ y ∈ fs', y.2.x.no ≠ m.x.no ∧ ∃ z ∈ fs, z.2.x.no = y.2.x.no ∧ (y.2.dirty = true → z.2.dirty = true)) ∧ (∀ b, RD' b → RD b ∨ w.heap.size ≤ b) ∧ Fr (Uni RP RQ RL RD f) w w' := by
  have H := Lib.hid h
  have HI := Lib.hid hi
  have hil := (List.getElem?_eq_some_iff.1 hi).1
  have hmf := List.mem_of_getElem? hi
  have HPg := Lib.hid (Pages_any h.und.file)
  have HMap := Lib.hid h.pool.map
  have HHeld : Hid (heldAt (ksOf fs) (m.x.no : Int) = some b) := heldAt_at h.pool.dis (ksOf_of hi)
  obtain ⟨hmok, hno⟩ := h.views.ok _ hmf
  have hno : m.x.no < pages := hno
  have hno5 : m.x.no < 100000 := hmok.no
  have hpg := h.und.pg2
  have htm := h.tm
  obtain ⟨rb, kb, ko, cc, rq, hfb, hbs⟩ := h.pool.frm _ hmf
  dsimp only at rb hfb hbs
  have fb3 := hfb.cell 3
  have zb := hfb.lt
  have p0 := h.pool.blk.cell 0
  have p3 := h.pool.blk.cell 3
  have zp := h.pool.blk.lt
  simp only [List.getElem?_toArray, List.getElem?_cons_zero, List.getElem?_cons_succ] at p0 p3 fb3
  have h1 : ¬ (m.x.no : Int) < 0 := by omega
  have h2 : ¬ (pages : Int) ≤ (m.x.no : Int) := by omega
  have hdisE : ∀ (j : Nat) y, fs[j]? = some y → y.2.x.no = m.x.no → j = i := fun j y hj e => h.pool.apart hj hi e
  have hers : ∀ (gs : List (Nat × Frm)), gs.length = fs.length → (∀ (j : Nat) y, gs[j]? = some y → ∃ z, fs[j]? = some z ∧ z.2.x = y.2.x ∧ (y.2.dirty = true → z.2.dirty = true)) → (gs.eraseIdx i).length + 1 = fs.length ∧ (∀ y ∈ gs.eraseIdx i, y.2.x.no ≠ m.x.no ∧ ∃ z ∈ fs, z.2.x.no = y.2.x.no ∧ (y.2.dirty = true → z.2.dirty = true)) := fun gs hgl hg => by
    refine ⟨by rw [List.length_eraseIdx, if_pos (by omega)]; omega, fun y hy => ?_⟩
    obtain ⟨j, hj1, hj2⟩ := List.mem_eraseIdx_iff_getElem?.1 hy
    obtain ⟨z, hz, e, ed⟩ := hg j y hj2
    exact ⟨fun e2 => hj1 (hdisE j z hz (by rw [e]; exact e2)), z, List.mem_of_getElem? hz, by rw [e], ed⟩
  have HErs := Lib.hid hers
  cases hdirty : m.dirty
  · have HDt := Lib.hid hdirty
    rw [hdirty] at fb3
    have HDrop := Lib.hid (drop_any h.pool hi hno5)
    clear h hi hmf hfb hbs rq hdirty hdisE hers
    go_enter Tryz.func48, Tryz.ntmps48
    go_wp2_with fail
    refine HPg.out.mono ?_
    rintro e w1 ⟨rfl, rfl⟩
    go_wp2_with (with_reducible refine wpList_fr_look _ rfl _ _ _ rfl _ _ key_law Tryz.underlying113 (mapif_zero _) B _ _ rfl HMap.out (m.x.no : Int) rfl (key_of _ (by omega) (by omega)) ?_; rw [HHeld.out]; dsimp only [ptrOf, Option.isSome])
    refine HDrop.out.mono ?_
    rintro e w2 ⟨rfl, rv', hp2, hf2⟩
    have hf2' : Fr RP w w2 := hf2.mono (fun b _ e => by
      rcases e with rfl | rfl | e
      · exact H.out.pool.rp
      · exact H.out.pool.rB
      · exact H.out.pool.rA b e.symm)
    have HIn2 := Lib.hid (H.out.dropped HI.out HDt.out hp2 hf2')
    have HF2 := Lib.hid hf2'
    clear hp2 hf2 hf2' HDrop
    go_wp2
    go_ret
    obtain ⟨q1, q2⟩ := HErs.out fs rfl (fun j y hj => ⟨y, hj, rfl, id⟩)
    exact ⟨rfl, L, S, T, lot, RD, rv', fs.eraseIdx i, cur, { HIn2.out with tm := by have := HIn2.out.tm; omega, M1 := hM }, LSame.refl L, q1, q2, fun b hb => .inl hb, HF2.out.mono (fun b _ e => .inl e)⟩
  · have HDt := Lib.hid hdirty
    rw [hdirty] at fb3
    clear h hi hmf hfb hbs rq hdirty hdisE hers
    go_enter Tryz.func48, Tryz.ntmps48
    go_wp2_with fail
    refine HPg.out.mono ?_
    rintro e w1 ⟨rfl, rfl⟩
    go_wp2_with (with_reducible refine wpList_fr_look _ rfl _ _ _ rfl _ _ key_law Tryz.underlying113 (mapif_zero _) B _ _ rfl HMap.out (m.x.no : Int) rfl (key_of _ (by omega) (by omega)) ?_; rw [HHeld.out]; dsimp only [ptrOf, Option.isSome])
    have hfa : Fr Nob w (w.alloc (.cells #[.pointer (some ⟨b, 0, none⟩)] 127)) := (Fr.refl _ w).alloc _
    have hsz : (w.alloc (.cells #[.pointer (some ⟨b, 0, none⟩)] 127)).heap.size = w.heap.size + 1 := by simp
    have hwr : Calls Tryz.prog 83 #[.pointer (some ⟨p, 0, none⟩), .slice (some ⟨w.heap.size, 0, none⟩) 1 1] (w.alloc (.cells #[.pointer (some ⟨b, 0, none⟩)] 127)) fun e w' => e = .returned (.int .i64 0) ∧ ∃ L' S' RD', PoolAt RP RQ w' p f l frames hand B rv (cleanF [m.x.no] fs) ∧ Und w' f l d pages (curW cur [m.x] 1) L' S' (T + 1) [m.x] RL RD' N ∧ LSame L L' ∧ (∀ x, RD' x → RD x ∨ (w.alloc (.cells #[.pointer (some ⟨b, 0, none⟩)] 127)).heap.size ≤ x) ∧ Fr (fun x => RP x ∨ RL x ∨ RD x ∨ x = f) (w.alloc (.cells #[.pointer (some ⟨b, 0, none⟩)] 127)) w' :=
      write_any (H.out.pool.new hfa) (H.out.und.new hfa) H.out.ap [(b, m)] (some ⟨w.heap.size, 0, none⟩) 1 (fun y hy => by
        rw [List.mem_singleton] at hy; rw [hy]; exact List.mem_of_getElem? HI.out) (fun _ => ⟨w.heap.size, rfl, fun e => by
        rcases e with e | e | e | e | e
        · have := H.out.lt (.inl e); omega
        · have := H.out.lt (.inr (.inr (.inl e))); omega
        · have := H.out.lt (.inr (.inr (.inr (.inl e)))); omega
        · have := H.out.lt (b := f) (.inr (.inr (.inr (.inr rfl)))); omega
        · omega, fun j y hy => by
        have hj : j = 0 := by have := (List.getElem?_eq_some_iff.1 hy).1; simp at this; exact this
        subst hj
        simp only [List.getElem?_cons_zero, Option.some.injEq] at hy
        subst hy
        exact (Blk.new w 127 #[.pointer (some ⟨b, 0, none⟩)]).cell 0⟩) (by simp) (by simp) (fun i j x y hi hj _ => by
        have h1 := (List.getElem?_eq_some_iff.1 hi).1
        have h2 := (List.getElem?_eq_some_iff.1 hj).1
        simp at h1 h2; omega) H.out.views.ok (by omega)
    refine hwr.mono ?_
    rintro e w1 ⟨rfl, L', S', RD', hp1, hu1, hs1, hsub1, hf1⟩
    have hsub1' : ∀ x, RD' x → RD x ∨ w.heap.size ≤ x := fun x hx => (hsub1 x hx).imp id (fun h => by omega)
    have hin1 := PIn.wrote H.out HI.out hM hp1 hu1 hsub1'
    have hci : (cleanF [m.x.no] fs)[i]? = some (b, { m with dirty := false }) := by
      rw [cleanF_get HI.out, if_pos (List.mem_singleton.2 rfl)]
    have hcx : ∀ (j : Nat) y, (cleanF [m.x.no] fs)[j]? = some y → ∃ z, fs[j]? = some z ∧ z.2.x = y.2.x ∧ (y.2.dirty = true → z.2.dirty = true) := fun j y hj => by
      unfold cleanF at hj
      rw [List.getElem?_map] at hj
      obtain ⟨z, hz, rfl⟩ := Option.map_eq_some_iff.1 hj
      exact ⟨z, hz, by split <;> rfl, fun hd => by
        split at hd
        · exact (Bool.noConfusion hd)
        · exact hd⟩
    have HIn1 := Lib.hid hin1
    have HCi := Lib.hid hci
    have HCx := Lib.hid hcx
    have HS1 := Lib.hid hs1
    have HSub1 := Lib.hid hsub1'
    have HF1 : Hid (Fr (fun x => RP x ∨ RL x ∨ RD x ∨ x = f) w w1) := (hfa.mono (fun _ _ h => h.elim) : Fr (fun x => RP x ∨ RL x ∨ RD x ∨ x = f) w _).trans hf1
    have HDrop := Lib.hid (drop_any hp1 hci hno5)
    clear hwr hp1 hu1 hs1 hsub1 hsub1' hf1 hin1 hci hcx hfa hsz
    go_wp2_with fail
    refine HDrop.out.mono ?_
    rintro e w2 ⟨rfl, rv', hp2, hf2⟩
    have hf2' : Fr RP w1 w2 := hf2.mono (fun b _ e => by
      rcases e with rfl | rfl | e
      · exact H.out.pool.rp
      · exact H.out.pool.rB
      · exact H.out.pool.rA b e.symm)
    have HIn2 := Lib.hid (HIn1.out.dropped HCi.out rfl hp2 hf2')
    have HF2 := Lib.hid hf2'
    clear hp2 hf2 hf2' HDrop
    go_wp2
    go_ret
    obtain ⟨q1, q2⟩ := HErs.out (cleanF [m.x.no] fs) (by simp [cleanF]) HCx.out
    refine ⟨rfl, L', S', T + 1, [m.x], RD', rv', (cleanF [m.x.no] fs).eraseIdx i, curW cur [m.x] 1, HIn2.out, HS1.out, q1, q2, HSub1.out, ?_⟩
    refine (HF1.out.mono (fun b _ e => ?_) : Fr (Uni RP RQ RL RD f) w w1).step HF2.out (fun b _ e => .inl e)
    rcases e with e | e | e | e
    · exact .inl e
    · exact .inr (.inr (.inl e))
    · exact .inr (.inr (.inr (.inl e)))
    · exact .inr (.inr (.inr (.inr e)))
end
end Go.Proofs.YtfapklpcgcgahaaGreatDoor

/-
  room: one more page may be held.
-/
namespace Go.Proofs.YtfapklpcgcgahaaGreatDoor
set_option linter.unusedSimpArgs false
set_option linter.unusedVariables false
open Go.RowKit Go.Maps

section
variable {w w' : World} {p f l d pages : Nat} {frames : Int} {V : Nat → PgV} {L : LS} {M N : Nat} {RP RQ RL RD F : Nat → Prop} {hand : Int} {B : Nat} {rv : Value} {fs : List (Nat × Frm)} {cur : Nat → Option PgV} {S : DS} {T : Nat} {lot : List PgV}
theorem own_form {e : TypeId} {size n : Nat} {v : Value} {xs : List Value} {base : Nat} (h : w.ownsRow base e size v n xs) : ∃ A c, v = .slice A n c := by
  rcases h.2 with ⟨e1, e2⟩ | ⟨g, cap, cur, e1, _⟩
  · rw [e2]; exact ⟨_, _, e1⟩
  · exact ⟨_, _, e1⟩
set_option maxHeartbeats 3200000 in
set_option maxRecDepth 100000 in
theorem room_full (h : PIn w p f l d pages frames V L M N RP RQ RL RD hand B rv fs cur S T lot) (hfull : ¬ (fs.length : Int) < frames) (hM : M + 1 ≤ 1000000000000000000) :
    Calls Tryz.prog 75 #[.pointer (some ⟨p, 0, none⟩)] w fun e w' => e = .returned (.int .i64 0) ∧ ∃ L' S' T' lot' RD' hand' rv' fs' cur', PIn w' p f l d pages frames V L' (M + 1) N RP RQ RL RD' hand' B rv' fs' cur' S' T' lot' ∧ LSame L L' ∧ (fs'.length : Int) < frames ∧ (∀ y ∈ fs', ∃ z ∈ fs, z.2.x.no = y.2.x.no ∧ (y.2.dirty = true → z.2.dirty = true)) ∧ (∀ b, RD' b → RD b ∨ w.heap.size ≤ b) ∧ Fr (Uni RP RQ RL RD f) w w' := by
  have qL := len_round
  have H := Lib.hid h
  have hfl := h.pool.len
  have hf0 := h.pool.f0
  obtain ⟨n, hn⟩ : ∃ n, fs.length = n := ⟨_, rfl⟩
  have HNl := Lib.hid hn
  rw [hn] at hfull hfl
  have hro := h.pool.rnd
  rw [hn] at hro
  obtain ⟨g, cap, erv, _⟩ := hro.form (by omega)
  have HErv := Lib.hid erv
  have hlt : ¬ (n : Int) < frames := hfull
  have p4 := h.pool.blk.cell 4
  have p2 := h.pool.blk.cell 2
  have zp := h.pool.blk.lt
  simp only [List.getElem?_toArray, List.getElem?_cons_zero, List.getElem?_cons_succ] at p4 p2
  rw [erv] at p4
  have HVic := Lib.hid (victim_any (h.pool.new (Fr.refl Nob w).drew) (by rw [hn]; omega) (fun y hy => (h.views.ok y hy).1.no))
  clear h hn hro erv
  go_enter Tryz.func75, Tryz.ntmps75
  go_wp2
  have hS : Fr Nob w w.drew := (Fr.refl _ w).drew
  refine Rg.begin (Fr Nob w) [] (by kernel_rfl) ?_
  refine Rg.op 0 (some 3) hS (v := ?v0a) (hy := fun wz hwz => ?h0a) (h := ?_)
  case h0a => (go_simp; try with_reducible rfl)
  refine Rg.op 1 (some 4) hS (v := ?v1a) (hy := fun wz hwz => ?h1a) (h := ?_)
  case h1a => (have hpp := Nat.lt_of_lt_of_le zp hwz.size; go_simp; try with_reducible rfl)
  refine Rg.op 2 (some 5) hS (v := ?v2a) (hy := fun wz hwz => ?h2a) (h := ?_)
  case h2a => (have hpp := Nat.lt_of_lt_of_le zp hwz.size; go_simp; try with_reducible rfl)
  refine Rg.op 3 (some 6) hS (v := (.slice (some ⟨g, 0, none⟩) n cap)) (hy := fun wz hwz => ?h3a) (h := ?_)
  case h3a => (have cx := (hwz.cell (p := ⟨p, 4, none⟩) zp (fun h => h)).trans p4; have hpp := Nat.lt_of_lt_of_le zp hwz.size; go_simp; try with_reducible rfl)
  refine Rg.op 4 (some 7) hS (v := (.int .i64 n)) (hy := fun wz hwz => ?h4a) (h := ?_)
  case h4a => (have hq := qL; go_simp; try with_reducible rfl)
  refine Rg.op 5 (some 8) hS (v := ?v5a) (hy := fun wz hwz => ?h5a) (h := ?_)
  case h5a => (go_simp; try with_reducible rfl)
  refine Rg.op 6 (some 9) hS (v := ?v6a) (hy := fun wz hwz => ?h6a) (h := ?_)
  case h6a => (have hpp := Nat.lt_of_lt_of_le zp hwz.size; go_simp; try with_reducible rfl)
  refine Rg.op 7 (some 10) hS (v := ?v7a) (hy := fun wz hwz => ?h7a) (h := ?_)
  case h7a => (have hpp := Nat.lt_of_lt_of_le zp hwz.size; go_simp; try with_reducible rfl)
  refine Rg.op 8 (some 11) hS (v := (.int .i64 frames)) (hy := fun wz hwz => ?h8a) (h := ?_)
  case h8a => (have cx := (hwz.cell (p := ⟨p, 2, none⟩) zp (fun h => h)).trans p2; have hpp := Nat.lt_of_lt_of_le zp hwz.size; go_simp; try with_reducible rfl)
  refine Rg.op 9 (some 12) hS (v := (.bool false)) (hy := fun wz hwz => ?h9a) (h := ?_)
  case h9a => (have hq := hlt; go_simp; try with_reducible rfl)
  refine Rg.done _ (h := ?_)
  go_wp2_with fail
  refine HVic.out.mono ?_
  rintro e w1 ⟨i, b, m, gs, hd', rfl, hgi, hp1, hsu, hf1⟩
  have hin1 := (H.out.new (Fr.refl Nob w).drew).used hp1 hsu hf1
  have HIn1 := Lib.hid hin1
  have HSu := Lib.hid hsu
  have HF1 : Hid (Fr RP w w1) := ((Fr.refl RP w).drew).trans hf1
  have HEv := Lib.hid (Evict_held hin1 hgi hM)
  clear hin1 hsu hf1 hp1 hgi HVic
  go_wp2_with fail
  refine HEv.out.mono ?_
  rintro e w2 ⟨rfl, L', S', T', lot', RD', rv', fs', cur', hin2, hs2, hl2, hno2, hsub2, hf2⟩
  have HIn2 := Lib.hid hin2
  have HS2 := Lib.hid hs2
  have HNo2 := Lib.hid hno2
  have HSub2 := Lib.hid hsub2
  have HF2 := Lib.hid hf2
  have hl2' : fs'.length + 1 = n := by rw [hl2, HSu.out.1, HNl.out]
  clear hin2 hs2 hno2 hsub2 hf2 HEv hl2
  go_wp2
  go_ret
  have hz1 := HF1.out.size
  refine ⟨rfl, L', S', T', lot', RD', hd', rv', fs', cur', HIn2.out, HS2.out, by omega, fun y hy => ?_, fun x hx => ?_, ?_⟩
  · obtain ⟨_, z, hz, e, ed⟩ := HNo2.out y hy
    obtain ⟨j, hj⟩ := List.mem_iff_getElem?.1 hz
    obtain ⟨z', hz', _, e2, e3⟩ := HSu.out.2 j z hj
    exact ⟨z', List.mem_of_getElem? hz', by rw [e2]; exact e, fun h => by rw [e3]; exact ed h⟩
  · rcases HSub2.out x hx with h | h
    · exact .inl h
    · exact .inr (by omega)
  · exact ((HF1.out.mono (fun b _ e => .inl e)) : Fr (Uni RP RQ RL RD f) w w1).trans HF2.out
theorem room_any (h : PIn w p f l d pages frames V L M N RP RQ RL RD hand B rv fs cur S T lot) (hM : M + 1 ≤ 1000000000000000000) :
    Calls Tryz.prog 75 #[.pointer (some ⟨p, 0, none⟩)] w fun e w' => e = .returned (.int .i64 0) ∧ ∃ L' S' T' lot' RD' hand' rv' fs' cur', PIn w' p f l d pages frames V L' (M + 1) N RP RQ RL RD' hand' B rv' fs' cur' S' T' lot' ∧ LSame L L' ∧ (fs'.length : Int) < frames ∧ (∀ y ∈ fs', ∃ z ∈ fs, z.2.x.no = y.2.x.no ∧ (y.2.dirty = true → z.2.dirty = true)) ∧ (∀ b, RD' b → RD b ∨ w.heap.size ≤ b) ∧ Fr (Uni RP RQ RL RD f) w w' := by
  by_cases hlt : (fs.length : Int) < frames
  · obtain ⟨A, c, erv⟩ := own_form h.pool.rnd
    have hb := h.pool.blk
    rw [erv] at hb
    refine (room_yes (h := hb) hlt).mono ?_
    rintro e w' ⟨rfl, hf⟩
    have h' := h.new hf
    exact ⟨rfl, L, S, T, lot, RD, hand, rv, fs, cur, { h' with tm := by have := h'.tm; omega, M1 := hM }, LSame.refl L, hlt, fun y hy => ⟨y, hy, rfl, id⟩, fun b hb => .inl hb, hf.mono (fun _ _ h => h.elim)⟩
  · exact room_full h hlt hM
end
end Go.Proofs.YtfapklpcgcgahaaGreatDoor

/-
  Get: a page, held or read.
-/
namespace Go.Proofs.YtfapklpcgcgahaaGreatDoor
set_option linter.unusedSimpArgs false
set_option linter.unusedVariables false
open Go.RowKit Go.Maps

section
variable {w w' : World} {p f l d pages : Nat} {frames : Int} {V : Nat → PgV} {L : LS} {M N : Nat} {RP RQ RL RD F : Nat → Prop} {hand : Int} {B : Nat} {rv : Value} {fs : List (Nat × Frm)} {cur : Nat → Option PgV} {S : DS} {T : Nat} {lot : List PgV}
/-- A frame's marks change, nothing else. -/
theorem PIn.mark (h : PIn w p f l d pages frames V L M N RP RQ RL RD hand B rv fs cur S T lot) {i b : Nat} {m : Frm} (hi : fs[i]? = some (b, m)) : PIn (w.setCell ⟨b, 4, none⟩ (.bool true)) p f l d pages frames V L M N RP RQ RL RD hand B rv (fs.set i (b, { m with used := true })) cur S T lot := by
  have hfs : Fr (fun x => x = b) w (w.setCell ⟨b, 4, none⟩ (.bool true)) := (Fr.refl (fun x => x = b) w).setCell (p := ⟨b, 4, none⟩) (.inr rfl) _
  obtain ⟨rb, kb, ko, cc, rq, hfb, hbs⟩ := h.pool.frm _ (List.mem_of_getElem? hi)
  have hm' : FrmAt RP RQ (w.setCell ⟨b, 4, none⟩ (.bool true)) b { m with used := true } := ⟨rb, kb, ko, cc, rq, hfb.set_ 4 _, hbs.fr hfs (fun a ha e => by injection ha with ha; subst ha; exact h.pool.ap b rb (e ▸ rq))⟩
  exact { h with
    pool := h.pool.setF (m' := { m with used := true }) hi hfs rfl hm'
    und := h.und.fr hfs (fun x hx e => (h.ap b (.inl rb)).1 (e ▸ hx)) (fun x hx e => (h.ap b (.inl rb)).2.1 (e ▸ hx)) (fun e => (h.ap b (.inl rb)).2.2 e.symm)
    views := h.views.used hi true }
set_option maxHeartbeats 3200000 in
set_option maxRecDepth 100000 in
theorem Get_held (h : PIn w p f l d pages frames V L M N RP RQ RL RD hand B rv fs cur S T lot) {i b : Nat} {m : Frm} (hi : fs[i]? = some (b, m)) :
    Calls Tryz.prog 42 #[.pointer (some ⟨p, 0, none⟩), .int .i64 m.x.no] w fun e w' => ∃ g, e = .returned (.tuple #[.agg #[.int .i64 m.x.no, .int .u64 m.x.lsn, .slice (some ⟨g, 0, none⟩) 480 480], .int .i64 0]) ∧ CopyIn w' g m.x.d ∧ w.heap.size ≤ g ∧ PIn w' p f l d pages frames V L M N RP RQ RL RD hand B rv (fs.set i (b, { m with used := true })) cur S T lot ∧ Fr RP w w' := by
  obtain ⟨gr, hgr⟩ : ∃ g, w.heap.size = g := ⟨_, rfl⟩
  have HGr := Lib.hid hgr
  have hfa : Fr Nob w (w.alloc (.cells #[.int .i64 0, .int .u64 0, .slice none 0 0] 84)) := (Fr.refl _ w).alloc _
  have hba : Blk (w.alloc (.cells #[.int .i64 0, .int .u64 0, .slice none 0 0] 84)) gr 84 #[.int .i64 0, .int .u64 0, .slice none 0 0] := by rw [← hgr]; exact Blk.new _ _ _
  have hin := h.new hfa
  obtain ⟨wa, hwa⟩ : ∃ W, w.alloc (.cells #[.int .i64 0, .int .u64 0, .slice none 0 0] 84) = W := ⟨_, rfl⟩
  rw [hwa] at hfa hba hin
  have HIn := Lib.hid hin
  have HI := Lib.hid hi
  have HFa := Lib.hid hfa
  have HBa := Lib.hid hba
  have HMap := Lib.hid hin.pool.map
  have HHeld : Hid (heldAt (ksOf fs) (m.x.no : Int) = some b) := heldAt_at h.pool.dis (ksOf_of hi)
  obtain ⟨hmok, hno⟩ := h.views.ok _ (List.mem_of_getElem? hi)
  have hno5 : m.x.no < 100000 := hmok.no
  have HMd : Hid (m.x.d.length = 480) := hmok.d
  obtain ⟨rb, kb, ko, cc, rq, hfb, hbs⟩ := hin.pool.frm _ (List.mem_of_getElem? hi)
  dsimp only at rb hfb hbs
  have hin1 := hin.mark hi
  have hblt : b < w.heap.size := h.pool.lt b rb
  have hb1 : Blk (wa.setCell ⟨b, 4, none⟩ (.bool true)) b 130 #[.int .i64 m.x.no, .int .u64 m.x.lsn, .slice (some ⟨kb, ko, none⟩) 480 cc, .bool m.dirty, .bool true] := hfb.set_ 4 _
  have hbs1 : Bsl (wa.setCell ⟨b, 4, none⟩ (.bool true)) (some ⟨kb, ko, none⟩) cc m.x.d := hbs.fr ((Fr.refl (fun x => x = b) wa).setCell (p := ⟨b, 4, none⟩) (.inr rfl) (.bool true)) (fun a ha e => by injection ha with ha; subst ha; exact h.pool.ap b rb (e ▸ rq))
  have hba1 : Blk (wa.setCell ⟨b, 4, none⟩ (.bool true)) gr 84 #[.int .i64 0, .int .u64 0, .slice none 0 0] := hba.far (p := ⟨b, 4, none⟩) (by show gr ≠ b; omega) _
  have HIn1 := Lib.hid hin1
  have HBa1 := Lib.hid hba1
  have HCp := Lib.hid (copied_any (m.x.no : Int) (m.x.lsn : Int) kb ko cc m.x.d hbs1 hmok.d)
  have fb4 := hfb.cell 4
  have fq4 := hfb.frozen 4
  have zb := hfb.lt
  have p3 := hin.pool.blk.cell 3
  have zp := hin.pool.blk.lt
  have k0 := hb1.cell 0
  have k1 := hb1.cell 1
  have k2 := hb1.cell 2
  have kz := hb1.lt
  simp only [List.getElem?_toArray, List.getElem?_cons_zero, List.getElem?_cons_succ] at p3 fb4 k0 k1 k2
  have HRb := Lib.hid rb
  have HUlt : Hid (∀ x, Uni RP RQ RL RD f x → x < w.heap.size) := fun x hx => h.lt hx
  clear h hi hin hfa hba hfb hbs rq hin1 hb1 hbs1 hba1 hmok rb
  go_enter Tryz.func42, Tryz.ntmps42
  go_wp2_with (with_reducible refine wpList_fr_look _ rfl _ _ _ rfl _ _ key_law Tryz.underlying113 (mapif_zero _) B _ _ rfl HMap.out (m.x.no : Int) rfl (key_of _ (by omega) (by omega)) ?_; rw [HHeld.out]; dsimp only [ptrOf, Option.isSome])
  refine HCp.out.mono ?_
  rintro e w2 ⟨g, rfl, hc2, hg2, hf2⟩
  have hb2 := HBa1.out.fr hf2 (fun h => h)
  have HB2 := Lib.hid hb2
  have HC2 := Lib.hid hc2
  have HF2 := Lib.hid hf2
  have s0 := hb2.cell 0
  have s1 := hb2.cell 1
  have s2 := hb2.cell 2
  have t0 := hb2.frozen 0
  have t1 := hb2.frozen 1
  have t2 := hb2.frozen 2
  have sz := hb2.lt
  have hgl := hc2.lt
  simp only [List.getElem?_toArray, List.getElem?_cons_zero, List.getElem?_cons_succ] at s0 s1 s2
  clear hb2 hc2 hf2 HCp
  go_wp2
  have hfE : Fr (fun x => x = gr) w2 (((w2.setCell ⟨gr, 0, none⟩ (.int .i64 m.x.no)).setCell ⟨gr, 1, none⟩ (.int .u64 m.x.lsn)).setCell ⟨gr, 2, none⟩ (.slice (some ⟨g, 0, none⟩) 480 480)) :=
    (((Fr.refl (fun x => x = gr) w2).setCell (p := ⟨gr, 0, none⟩) (.inr rfl) _).setCell (p := ⟨gr, 1, none⟩) (.inr rfl) _).setCell (p := ⟨gr, 2, none⟩) (.inr rfl) _
  have hbE : Blk (((w2.setCell ⟨gr, 0, none⟩ (.int .i64 m.x.no)).setCell ⟨gr, 1, none⟩ (.int .u64 m.x.lsn)).setCell ⟨gr, 2, none⟩ (.slice (some ⟨g, 0, none⟩) 480 480)) gr 84 #[.int .i64 m.x.no, .int .u64 m.x.lsn, .slice (some ⟨g, 0, none⟩) 480 480] := ((HB2.out.set_ 0 _).set_ 1 _).set_ 2 _
  have hgz : (wa.setCell ⟨b, 4, none⟩ (.bool true)).heap.size ≤ g := hg2
  have hga : gr < (wa.setCell ⟨b, 4, none⟩ (.bool true)).heap.size := HBa1.out.lt
  have hwg := HGr.out
  refine bodyPost_ret (results_cell_rowP rfl _ _ _ _ _ _ rfl hbE Tryz.underlying84 rfl page_size) rfl ⟨g, rfl, HC2.out.fr hfE (fun e => by omega), by omega, (HIn1.out.new HF2.out).fr hfE (fun x hx e => by
    have := (HIn.out.lt (b := x) hx)
    have hx2 : x < w.heap.size := by
      have h0 := HUlt.out x hx
      exact h0
    omega), ?_⟩
  have h1 : Fr RP w (wa.setCell ⟨b, 4, none⟩ (.bool true)) := ((HFa.out.mono (fun _ _ h => h.elim) : Fr RP w wa)).setCell (p := ⟨b, 4, none⟩) (.inr HRb.out) _
  exact (h1.trans (HF2.out.mono (fun _ _ h => h.elim))).step hfE (fun i hi e => by omega)
end
end Go.Proofs.YtfapklpcgcgahaaGreatDoor
