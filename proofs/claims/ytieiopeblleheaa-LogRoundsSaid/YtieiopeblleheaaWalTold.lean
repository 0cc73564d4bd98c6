/-
  What a log tells: its records, as strings.
-/
import Derived.Test.YtieiopeblleheaaWalAwake
import Derived.Test.YtieiopeblleheaaWalBytes
import Derived.Maps.OwnIn
namespace Go.Proofs.Ytieiopeblleheaa
set_option linter.unusedSimpArgs false
set_option linter.unusedVariables false
open Go.RowKit Go.Shelf
attribute [local go_sem] Oper.semAt_some

theorem info_strT : (Try.prog.info? 9).map (fun i => (i.zero, i.size, i.bytes)) = some (some (.string ⟨#[]⟩), 1, 16) := by kernel_rfl
theorem own_notcells {w w' : World} {base size n : Nat} {e : TypeId} {v : Value} {xs : List Value} {row : Option Nat} (h : w.ownsRow base e size v n xs) (hg : w.grownBy w' row) (hr : ∀ r, row = some r → ∃ o : Obj, w.heap[r]? = some o ∧ o.isCells = false) : w'.ownsRow base e size v n xs := by
  refine h.kept hg ?_
  rcases h.2 with ⟨e, _⟩ | ⟨g, cap, cur, e, _, hh, _⟩
  · exact .inl (by rw [e]; rfl)
  · refine .inr (fun e2 => ?_)
    rw [e] at e2
    obtain ⟨o, ho, hc⟩ := hr g e2.symm
    rw [hh] at ho
    injection ho with ho
    subst ho
    cases hc
theorem own_slice {w : World} {base n : Nat} {v : Value} {l : List UInt8} (h : w.ownsRow base 5 1 v n (bts l)) : ∃ A c, v = .slice A n c ∧ BytesIn w A l ∧ ∀ a, A = some a → ∃ o : Obj, w.heap[a.block]? = some o ∧ o.isCells = true := by
  have hl := h.1
  rw [bts_length] at hl
  rcases h.2 with ⟨e, e2⟩ | ⟨g, cap, cur, e, _, hh, _⟩
  · exact ⟨none, 0, by rw [e, e2], fun h0 => absurd h0 (by omega), fun a ha => by cases ha⟩
  · subst e
    exact ⟨_, cap, rfl, bytesIn_own h, fun a ha => by injection ha with ha; subst ha; exact ⟨_, hh, rfl⟩⟩
set_option maxHeartbeats 3200000 in
set_option maxRecDepth 100000 in
theorem told_any {w : World} {p d : Nat} {L : LS} {R : Nat → Prop} (h : LogOk R w p d L) (hsm : ∀ x ∈ L.l, x.1.length ≤ 3000000000) (hfirst : L.first + L.l.length < 18446744073709551616) (hll : L.l.length < 4000000) (hnx : L.next = L.first + L.l.length) :
    Calls Try.prog 41 #[.pointer (some ⟨p, 0, none⟩)] w fun e w' => ∃ v, e = .returned (.tuple #[v, .bool true]) ∧ w'.ownsRow w.heap.size 9 1 v L.l.length (strCells L.rs) ∧ Fr Nob w w' := by
  obtain ⟨i0, hi0, hz0, hz1, hz2⟩ := info_parts info_strT
  have H := Lib.hid h
  refine (callsIn_wide (n := 6)).1 ?_
  refine callsIn_of_wp_marks Try.func41 rfl trivial ?_ rfl
  simp only [Try.ntmps41, List.size_toArray, List.length_cons, List.length_nil, Nat.reduceAdd, Nat.reduceSub, Array.replicate_succ, Array.replicate_zero, List.push_toArray, List.append_toArray, List.nil_append, List.cons_append]
  refine wpIn_wide.2 ?_
  have HFs : Hid (∀ W, Fr Nob w W → Calls Try.prog 35 #[.pointer (some ⟨p, 0, none⟩)] W fun e w' => e = .returned (.int .u64 L.first) ∧ W = w') := fun W hW => First_any (H.out.new hW)
  have HNx : Hid (∀ W, LogOk R W p d L → Calls Try.prog 36 #[.pointer (some ⟨p, 0, none⟩)] W fun e w' => e = .returned (.int .u64 L.next) ∧ W = w') := fun W hW => Next_any hW
  have HAl : Hid (∀ W, Fr Nob w W → Calls Try.prog 54 #[.pointer (some ⟨p, 0, none⟩)] W fun e w' => e = .returned (.func (.func 67) #[] #[.pointer (some ⟨W.heap.size, 0, none⟩)]) ∧ w' = W.alloc (.cells #[.pointer (some ⟨p, 0, none⟩)] 56)) := fun W hW => All_any (H.out.new hW)
  obtain ⟨n, hn⟩ : ∃ n, L.l.length = n := ⟨_, rfl⟩
  have HN := Lib.hid hn
  clear h hn
  obtain ⟨z, hz⟩ : ∃ z, w.heap.size = z := ⟨_, rfl⟩
  have HZ := Lib.hid hz
  go_wp2_with fail
  refine (HFs.out _ ((((Fr.refl Nob w).alloc _).alloc _).alloc _)).mono ?_
  rintro e w1 ⟨rfl, rfl⟩
  go_wp2_with fail
  have hf4 : Fr Nob w ((((w.alloc (.cells #[.slice none 0 0] 65)).alloc (.cells #[.bool false] 4)).alloc (.cells #[.slice none 0 0] 65)).alloc (.cells #[.int .u64 L.first] 59)) := ((((Fr.refl Nob w).alloc _).alloc _).alloc _).alloc _
  refine (HAl.out _ hf4).mono ?_
  rintro e w5 ⟨rfl, hw5⟩
  have hf5 : Fr Nob w w5 := by rw [hw5]; exact hf4.alloc _
  have hk0 : Blk w5 z 65 #[.slice none 0 0] := by rw [hw5, ← hz]; exact ((((Blk.new w _ _).alloc _).alloc _).alloc _).alloc _
  have hk1 : Blk w5 (z + 1) 4 #[.bool false] := by
    rw [hw5, ← hz]
    have := Blk.new (w.alloc (.cells #[.slice none 0 0] 65)) 4 #[.bool false]
    rw [World.size_alloc] at this
    exact ((this.alloc _).alloc _).alloc _
  have hk2 : Blk w5 (z + 1 + 1) 65 #[.slice none 0 0] := by
    rw [hw5, ← hz]
    have := Blk.new ((w.alloc (.cells #[.slice none 0 0] 65)).alloc (.cells #[.bool false] 4)) 65 #[.slice none 0 0]
    rw [World.size_alloc, World.size_alloc] at this
    exact (this.alloc _).alloc _
  have hk3 : Blk w5 (z + 1 + 1 + 1) 59 #[.int .u64 L.first] := by
    rw [hw5, ← hz]
    have := Blk.new (((w.alloc (.cells #[.slice none 0 0] 65)).alloc (.cells #[.bool false] 4)).alloc (.cells #[.slice none 0 0] 65)) 59 #[.int .u64 L.first]
    rw [World.size_alloc, World.size_alloc, World.size_alloc] at this
    exact this.alloc _
  have hk4 : Blk w5 (z + 1 + 1 + 1 + 1) 56 #[.pointer (some ⟨p, 0, none⟩)] := by
    rw [hw5, ← hz]
    have := Blk.new ((((w.alloc (.cells #[.slice none 0 0] 65)).alloc (.cells #[.bool false] 4)).alloc (.cells #[.slice none 0 0] 65)).alloc (.cells #[.int .u64 L.first] 59)) 56 #[.pointer (some ⟨p, 0, none⟩)]
    rwa [World.size_alloc, World.size_alloc, World.size_alloc, World.size_alloc] at this
  have hz5 : w5.heap.size = z + 5 := by rw [hw5]; simp [hz]
  have HL5 := Lib.hid (H.out.new hf5)
  have hzz : ((((w.alloc (.cells #[.slice none 0 0] 65)).alloc (.cells #[.bool false] 4)).alloc (.cells #[.slice none 0 0] 65)).alloc (.cells #[.int .u64 L.first] 59)).heap.size = z + 1 + 1 + 1 + 1 := by simp [hz]
  rw [hzz]
  clear hw5 hf4 hzz HFs HAl
  obtain ⟨B, hB⟩ : ∃ B, w5.heap.size = B := ⟨_, rfl⟩
  have hMR : ∀ b, (b = z + 1 + 1 ∨ b = z + 1 + 1 + 1 ∨ B ≤ b) → ¬ R b ∧ b ≠ z + 1 + 1 + 1 + 1 := by
    intro b hb
    refine ⟨fun h => ?_, by omega⟩
    have : b < w.heap.size := H.out.lt h
    omega
  have htl := All_tells 5 (B := B) (M := fun b => b = z + 1 + 1 ∨ b = z + 1 + 1 + 1 ∨ B ≤ b) (Nat.le_of_eq hB.symm) HL5.out hMR hk4 hsm hfirst (by omega)
  have HTl := Lib.hid htl
  have HF5 := Lib.hid hf5
  have HK0 := Lib.hid hk0
  have HK1 := Lib.hid hk1
  clear htl hk4 hk0 hk1 hsm hf5
  go_wp2_with fail
  refine (wpIn_wide (n := 6)).1 ?_
  refine told_range (F := Fence.wide) rfl (by decide) (gf := 67) (lb := #[.pointer (some ⟨z + 1 + 1 + 1 + 1, 0, none⟩)]) rfl trivial (enters_of Try.func67 (by kernel_rfl) rfl) HTl.out Fr.trans
    (fun W k o o' hk _ _ _ => (Fr.refl _ W).grown (grownBy_putObj' W k o') (fun r e => by cases e; exact .inr (.inr (.inr (by omega))))) (Below.refl _ _) (fun _ => rfl)
    (fun pre W => Hid (Fr (fun b => b = z + 1 + 1 ∨ b = z + 1 + 1 + 1 ∨ B ≤ b) w5 W) ∧ (∃ v, Hid (Blk W (z + 1 + 1) 65 #[v]) ∧ Hid (W.ownsRow B 9 1 v pre.length (strCells (pre.map (·.b))))) ∧ Hid (Blk W (z + 1 + 1 + 1) 59 #[.int .u64 ((L.first + pre.length : Nat) : Int)]))
    (fun s Wa Wb row hs hg hr => by
      obtain ⟨h1, ⟨v, h2, h3⟩, h4⟩ := hs
      refine ⟨h1.out.grown hg (fun r e => .inr (.inr (by have := (hr r e).1; omega))), ⟨v, blk_grown h2.out hg (fun r e => (hr r e).2), own_notcells h3.out hg (fun r e => (hr r e).2)⟩, blk_grown h4.out hg (fun r e => (hr r e).2)⟩)
    ⟨Fr.refl _ _, ⟨_, hk2, ⟨by simp [strCells], .inl ⟨rfl, rfl⟩⟩⟩, hk3⟩ ?round ?done
  case round =>
    rintro l pre ⟨xi, xv, xb⟩ U hl ⟨hI1, ⟨v, hI2, hI3⟩, hI4⟩ ⟨hG, hrec⟩ hlen
    obtain ⟨k, hk⟩ : ∃ k, pre.length = k := ⟨_, rfl⟩
    rw [hk] at hrec hlen hI3 hI4
    have hkl : k < L.l.length := hlen
    have hx : (xi, xb) = (L.first + k, L.l[k].1) := by
      have : L.recs[k]? = some (L.first + k, L.l[k].1) := by simp [LS.recs, List.getElem?_eq_getElem hkl]
      rw [this] at hrec
      injection hrec with hrec
      exact hrec.symm
    injection hx with hx1 hx2
    subst hx1
    have hG' : U.ownsRow B 5 1 xv xb.length (bts xb) := hG
    clear hG
    obtain ⟨A, c, rfl, hbi, hbc⟩ := own_slice hG'
    have HK := Lib.hid hk
    clear hG' hrec hx2
    dsimp only [encR]
    gi_wp2
    refine ⟨KeepsFrom.refl _ _, Fr.refl _ _, fun r hr => ?_⟩
    have hgl2 : ∀ a, A = some a → ¬ a.block = l := by
      rintro a ha rfl
      obtain ⟨o, ho, hc⟩ := hbc a ha
      rw [ho] at hr
      injection hr with hr
      subst hr
      cases hc
    have hnl : ∀ g t cs, Blk U g t cs → ¬ g = l := by
      rintro g t cs hb rfl
      unfold Blk at hb
      rw [hr] at hb
      cases hb
    have hg0 := grownBy_putObj' U l (.loop { r with state := .busy })
    have hf0 : Fr (fun b => b = l) U (U.putObj l (.loop { r with state := .busy })) := (Fr.refl _ U).grown hg0 (fun r e => by cases e; exact .inr rfl)
    have hcv : (convert 29 9 (.slice A xb.length c)).run Try.prog (U.putObj l (.loop { r with state := .busy })) = .ok (.string ⟨xb.toArray⟩) (U.putObj l (.loop { r with state := .busy })) :=
      conv_in (l := xb) (hbi.fr hf0 (fun a ha => hgl2 a ha)) c
    have hb2 := hI2.out.fr hf0 (hnl _ _ _ hI2.out)
    have hb3 := hI4.out.fr hf0 (hnl _ _ _ hI4.out)
    have ho3 := own_notcells hI3.out hg0 (fun r' e => by cases e; exact ⟨_, hr, rfl⟩)
    have HI1 := Lib.hid (hI1.out.trans (hf0.mono (G := fun b => b = z + 1 + 1 ∨ b = z + 1 + 1 + 1 ∨ B ≤ b) (fun _ _ e => .inr (.inr (by omega)))))
    obtain ⟨V0, hV0⟩ : ∃ V0, (U.putObj l (.loop { r with state := .busy })) = V0 := ⟨_, rfl⟩
    rw [hV0] at hcv hb2 hb3 ho3 HI1 ⊢
    have c2 := hb2.cell 0
    have c3 := hb3.cell 0
    have f2 := hb2.frozen 0
    have f3 := hb3.frozen 0
    have hk2V := hb2.lt
    have hk3V := hb3.lt
    simp only [List.getElem?_toArray, List.getElem?_cons_zero] at c2 c3
    have HB2 := Lib.hid hb2
    have HB3 := Lib.hid hb3
    have hownW : Hid ((V0.alloc (.cells #[.string ⟨xb.toArray⟩] 9)).ownsRow B 9 1 v k (strCells (pre.map (·.b)))) := own_fr ho3 ((Fr.refl Nob V0).alloc _) (fun _ _ h => h)
    have hBV : B ≤ (V0.alloc (.cells #[.string ⟨xb.toArray⟩] 9)).heap.size := by rw [World.size_alloc]; have := HI1.out.size; omega
    have hc2 := cell_one_new V0 (strv xb) 9
    have Hc2 : Hid (∀ j u, [strv xb][j]? = some u → (V0.alloc (.cells #[.string ⟨xb.toArray⟩] 9)).cell? ((⟨V0.heap.size, 0, none⟩ : Addr).add j) = some u) := hc2
    clear hb2 hb3 hr hf0 hg0 hV0 hI1 hI2 hI3 hI4 hbi hbc hgl2 hnl ho3 hc2 hkl
    gi_wp2_with (gi_at_builtin; refine wpListIn_append_own_at _ rfl (.tmp 17) (.tmp 20) 65 rfl B 9 i0 (.string ⟨#[]⟩) 1 16 Try.underlying65 hi0 hz0 hz1 hz2 rfl (by decide) v k (strCells (pre.map (·.b))) rfl hownW.out ⟨V0.heap.size, 0, none⟩ 1 1 [strv xb] rfl rfl Hc2.out (by simp [strv, Value.oneCell']) (by unfold maxLen; omega) (by omega) hBV ?_; intro v7 w7 hown7 hg7 hn7 hat7; obtain ⟨g7, cap7, rfl, hg7b, hg7l⟩ := hown7.form (by omega); have b2 := (HB2.out.alloc (.cells #[.string ⟨xb.toArray⟩] 9)).grown hg7 (Blk.own_ne (HB2.out.alloc _) hownW.out (by decide)); have b3 := (HB3.out.alloc (.cells #[.string ⟨xb.toArray⟩] 9)).grown hg7 (Blk.own_ne (HB3.out.alloc _) hownW.out (by decide)); have c2 := b2.cell 0; have c3 := b3.cell 0; have f2 := b2.frozen 0; have f3 := b3.frozen 0; have l2 := b2.lt; have l3 := b3.lt; simp only [List.getElem?_toArray, List.getElem?_cons_zero] at c2 c3; have B2 := Lib.hid b2; have B3 := Lib.hid b3; have HO7 := Lib.hid hown7; have HG7 := Lib.hid hg7; clear b2 b3 hown7 hg7 hn7 hat7)
    have hf7 : Fr (fun b => b = z + 1 + 1 ∨ b = z + 1 + 1 + 1 ∨ B ≤ b) V0 w7 := Fr.grown ((Fr.refl _ V0).alloc (.cells #[.string ⟨xb.toArray⟩] 9)) HG7.out (fun x hx => .inr (.inr (.inr (hownW.out.lt x hx).1)))
    have hfE := (hf7.setCell (p := ⟨z + 1 + 1, 0, none⟩) (.inr (.inl rfl)) (.slice (some ⟨g7, 0, none⟩) (k + 1) cap7)).setCell (p := ⟨z + 1 + 1 + 1, 0, none⟩) (.inr (.inr (.inl rfl))) (.int .u64 ((L.first : Int) + (k : Int) + 1))
    have hKo : KeepsOthers V0 ((w7.setCell ⟨z + 1 + 1, 0, none⟩ (.slice (some ⟨g7, 0, none⟩) (k + 1) cap7)).setCell ⟨z + 1 + 1 + 1, 0, none⟩ (.int .u64 ((L.first : Int) + (k : Int) + 1))) := by
      refine ((KeepsOthers.alloc V0 (.cells #[.string ⟨xb.toArray⟩] 9)).trans (KeepsOthers.of_grownBy HG7.out (fun j o hj ho => ?_))).trans ((KeepsOthers.setCell _ _ _).trans (KeepsOthers.setCell _ _ _))
      rcases hownW.out.2 with ⟨e, _⟩ | ⟨g', cap', cur, e, _, hh, _⟩
      · rw [e] at hj; cases hj
      · rw [e] at hj
        injection hj with hj
        subst hj
        rw [hh] at ho
        injection ho with ho
        subst ho
        rfl
    have hO8 := own_set (own_set HO7.out B2.out (i := 0) (u := .slice (some ⟨g7, 0, none⟩) (k + 1) cap7) (by decide)) (B3.out.far (p := ⟨z + 1 + 1, 0, none⟩) (by dsimp only; omega) _) (i := 0) (u := .int .u64 ((L.first : Int) + (k : Int) + 1)) (by decide)
    refine ⟨hKo.from _, hfE, HI1.out.trans hfE, ⟨_, ((B2.out.set_ 0 _).far (p := ⟨z + 1 + 1 + 1, 0, none⟩) (by dsimp only; omega) _), ?_⟩, ?_⟩
    · have e1 : (pre ++ [({ id := L.first + k, v := .slice A xb.length c, b := xb } : Rec)]).length = k + 1 := by rw [List.length_append, HK.out]; rfl
      have e2 : strCells (List.map (fun x => x.b) (pre ++ [({ id := L.first + k, v := .slice A xb.length c, b := xb } : Rec)])) = strCells (pre.map (·.b)) ++ [strv xb] := by simp [strCells]
      rw [e1, e2]
      exact hO8
    · have e1 : (pre ++ [({ id := L.first + k, v := .slice A xb.length c, b := xb } : Rec)]).length = k + 1 := by rw [List.length_append, HK.out]; rfl
      rw [e1, show ((L.first + (k + 1) : Nat) : Int) = (L.first : Int) + (k : Int) + 1 from by omega]
      exact (B3.out.far (p := ⟨z + 1 + 1, 0, none⟩) (by dsimp only; omega) _).set_ 0 _
  case done =>
    rintro D xs W hD hS ⟨hI1, ⟨v, hI2, hI3⟩, hI4⟩ hK
    obtain ⟨A3, n3, c3, rfl⟩ : ∃ A n c, v = .slice A n c := by
      rcases hI3.out.2 with ⟨e, _⟩ | ⟨g, cap, cur, e, _⟩
      · exact ⟨_, _, _, e⟩
      · exact ⟨_, _, _, e⟩
    have hlen : xs.length = n := by
      have := congrArg List.length hS
      rw [List.length_map, LS.recs_length] at this
      rw [this]; exact HN.out
    have hrs : xs.map (·.b) = L.rs := by
      have h1 : L.recs.map (·.2) = L.rs := by unfold LS.recs LS.rs; apply List.ext_getElem? ; intro i; simp [List.getElem?_mapIdx]; cases L.l[i]? <;> rfl
      rw [← h1, ← hS, List.map_map]; rfl
    rw [hlen] at hI3 hI4
    rw [hrs] at hI3
    have hLW := HL5.out.fr hI1.out (fun b hb hm => (hMR b hm).1 hb)
    have hb0 := HK0.out.fr hI1.out (by omega)
    have hb1 := HK1.out.fr hI1.out (by omega)
    have HB0 := Lib.hid hb0
    have HB1 := Lib.hid hb1
    have HB2 := Lib.hid hI2.out
    have HB3 := Lib.hid hI4.out
    have HO3 := Lib.hid hI3.out
    have HLW := Lib.hid hLW
    have HFW := Lib.hid (Fr.step (F := Nob) HF5.out hI1.out (fun i hi h => by have := HF5.out.size; omega))
    have hzW := hI1.out.size
    have e0 : ((L.first + n : Nat) : Int) = (L.next : Int) := by have := HN.out; omega
    have HE0 := Lib.hid e0
    have HK := Lib.hid hK
    clear hS hI1 hI2 hI3 hI4 hK hLW hb0 hb1 hlen hrs HTl e0
    go_wp2
    have hS0 : Fr Nob W W.drew := (Fr.refl _ W).drew
    have x2 := HB2.out.drew.cell 0
    have x3 := HB3.out.drew.cell 0
    simp only [List.getElem?_toArray, List.getElem?_cons_zero] at x2 x3
    have hS : W.drew.cell? ⟨z + 1 + 1, 0, none⟩ = some (.slice A3 n3 c3) ∧ W.drew.cell? ⟨z + 1 + 1 + 1, 0, none⟩ = some (.int .u64 ((L.first + n : Nat) : Int)) ∧ B ≤ W.drew.heap.size := ⟨x2, x3, by have := hS0.size; omega⟩
    clear x2 x3
    refine Rg.begin (fun V => V.cell? ⟨z + 1 + 1, 0, none⟩ = some (.slice A3 n3 c3) ∧ V.cell? ⟨z + 1 + 1 + 1, 0, none⟩ = some (.int .u64 ((L.first + n : Nat) : Int)) ∧ B ≤ V.heap.size) [6] (by kernel_rfl) ?_
    refine Rg.op 0 (some 24) hS (v := ?v0e) (a' := ?a0e) (hy := fun wz hwz => ?h0e) (ha := ?b0e) (h := ?_)
    case h0e => (obtain ⟨c2, c3', hp⟩ := hwz; go_simp; try with_reducible rfl)
    case b0e => (simp only [Act.put, List.setIfInBounds_toArray, List.set_cons_zero, List.set_cons_succ]; rfl)
    refine Rg.op 1 (some 25) hS (v := ?v1e) (a' := ?a1e) (hy := fun wz hwz => ?h1e) (ha := ?b1e) (h := ?_)
    case h1e => (obtain ⟨c2, c3', hp⟩ := hwz; go_simp; try with_reducible rfl)
    case b1e => (simp only [Act.put, List.setIfInBounds_toArray, List.set_cons_zero, List.set_cons_succ]; rfl)
    refine Rg.op 2 (some 26) hS (v := ?v2e) (a' := ?a2e) (hy := fun wz hwz => ?h2e) (ha := ?b2e) (h := ?_)
    case h2e => (go_simp; try with_reducible rfl)
    case b2e => (simp only [Act.put, List.setIfInBounds_toArray, List.set_cons_zero, List.set_cons_succ]; rfl)
    refine Rg.call 3 (some 27) (hrun := ?h3e) (hcall := HNx.out _ (HLW.out.new hS0)) (h := ?_)
    case h3e => (go_simp)
    rintro e w9 ⟨rfl, rfl⟩
    refine ⟨_, ?a3e, rfl, ?b3e, (fun _ => hS), ?_⟩
    case b3e => (simp only [Act.put, List.setIfInBounds_toArray, List.set_cons_zero, List.set_cons_succ]; rfl)
    refine Rg.op 4 (some 28) hS (v := (.bool true)) (a' := ?a4e) (hy := fun wz hwz => ?h4e) (ha := ?b4e) (h := ?_)
    case h4e => (have e0 := HN.out.symm; go_simp; try with_reducible rfl)
    case b4e => (simp only [Act.put, List.setIfInBounds_toArray, List.set_cons_zero, List.set_cons_succ]; rfl)
    have q0 := HB0.out.drew.frozen 0
    have c0 := HB0.out.drew.cell 0
    have hp0 := HB0.out.drew.lt
    simp only [List.getElem?_toArray, List.getElem?_cons_zero] at c0
    have b2 := HB2.out.drew.far (p := ⟨z, 0, none⟩) (by dsimp only; omega) (.slice A3 n3 c3)
    have b3 := HB3.out.drew.far (p := ⟨z, 0, none⟩) (by dsimp only; omega) (.slice A3 n3 c3)
    have hS2 : (W.drew.setCell ⟨z, 0, none⟩ (.slice A3 n3 c3)).cell? ⟨z + 1 + 1, 0, none⟩ = some (.slice A3 n3 c3) ∧ (W.drew.setCell ⟨z, 0, none⟩ (.slice A3 n3 c3)).cell? ⟨z + 1 + 1 + 1, 0, none⟩ = some (.int .u64 ((L.first + n : Nat) : Int)) ∧ B ≤ (W.drew.setCell ⟨z, 0, none⟩ (.slice A3 n3 c3)).heap.size := ⟨b2.cell 0, b3.cell 0, by simpa using hS.2.2⟩
    refine Rg.store 5 (w' := (W.drew.setCell ⟨z, 0, none⟩ (.slice A3 n3 c3))) (hrun := ?h5e) (hS := (fun _ => hS2)) (h := ?_)
    case h5e => (go_simp; try with_reducible rfl)
    have q1 := HB1.out.frozen 0
    have c1 := HB1.out.cell 0
    have hp1 := HB1.out.lt
    simp only [List.getElem?_toArray, List.getElem?_cons_zero] at c1
    refine Rg.store 6 (w' := ?w6e) (hrun := ?h6e) (hS := (fun h => absurd (by decide) h)) (h := ?_)
    case h6e => (go_simp; try with_reducible rfl)
    refine Rg.done _ (h := ?_)
    obtain ⟨W1, hW1⟩ : ∃ W1, ((W.setCell ⟨z, 0, none⟩ (.slice A3 n3 c3)).setCell ⟨z + 1, 0, none⟩ (.bool true)).drew = W1 := ⟨_, rfl⟩
    have hfW : Fr (fun b => b = z ∨ b = z + 1) W W1 := by rw [← hW1]; exact (((Fr.refl _ W).setCell (p := ⟨z, 0, none⟩) (.inr (.inl rfl)) _).setCell (p := ⟨z + 1, 0, none⟩) (.inr (.inr rfl)) _).drew
    have hD1 : W1.heap[D]? = some (.deferred (some [])) := by
      rw [hfW.block D (by have h := HK.out; exact (Array.getElem?_eq_some_iff.1 h).1) (by omega)]; exact HK.out
    have hr0 : Blk W1 z 65 #[.slice A3 n3 c3] := by rw [← hW1]; exact ((HB0.out.set_ 0 _).far (p := ⟨z + 1, 0, none⟩) (by dsimp only; omega) _).drew
    have hr1 : Blk W1 (z + 1) 4 #[.bool true] := by rw [← hW1]; exact ((HB1.out.far (p := ⟨z, 0, none⟩) (by dsimp only; omega) _).set_ 0 _).drew
    have hO1 := own_fr HO3.out hfW (fun g hg h => by have := (HO3.out.lt g hg).1; omega)
    have hF1 : Fr Nob w W1 := HFW.out.step hfW (fun i hi h => by omega)
    rw [hW1]
    clear hW1
    go_wp2
    have hg5 := grownBy_putObj' W1 D (.deferred none)
    have hr0' := hr0.grown hg5 (fun e => by injection e with e; omega)
    have hr1' := hr1.grown hg5 (fun e => by injection e with e; omega)
    have hO5 := own_notcells hO1 hg5 (fun r e => by injection e with e; subst e; exact ⟨_, hD1, rfl⟩)
    have cr := hr0'.cell 0
    have cs := hr1'.cell 0
    simp only [List.getElem?_toArray, List.getElem?_cons_zero] at cr cs
    refine ⟨by simp, .inl ⟨_, _, rfl, run_takeDeferred hD1, ?_⟩⟩
    refine ⟨_, by simp [results, Try.results41, go_sem, cr, cs]; rfl, _, rfl, ?_, ?_⟩
    · have hnn := HN.out
      rw [hnn]
      exact own_base hO5 (fun g hg => by have := (hO5.lt g hg).1; have := HZ.out; omega)
    · exact Fr.grown hF1 hg5 (fun k e => by cases e; exact .inl (by have := HZ.out; omega))
end Go.Proofs.Ytieiopeblleheaa
