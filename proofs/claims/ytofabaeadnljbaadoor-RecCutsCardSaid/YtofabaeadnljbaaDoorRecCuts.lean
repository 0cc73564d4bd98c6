/-
  What RecCuts comes to: true, whatever the node, the numbers and the byte.
-/
import Derived.Test.YtofabaeadnljbaaDoorPkEdgeOf
import Derived.Test.YtofabaeadnljbaaDoorPkAwake
namespace Go.Proofs.YtofabaeadnljbaaDoor
set_option linter.unusedSimpArgs false
set_option linter.unusedVariables false
open Go.RowKit

/-- What a reader of records says of a row that is cut short, and of one with a byte behind it. -/
structure Says (f : FuncId) (b : List UInt8) (c : Nat) (m : UInt8) : Prop where
  cut : ∀ W A cp, Bs W A cp (b.take c) → Calls Tryd.prog f #[.slice A c cp] W fun e w' => (∃ cs, e = .returned (.tuple #[.agg cs, .int .i64 4])) ∧ Fr Nob W w'
  more : ∀ W A cp, Bs W A cp (b ++ [m]) → Calls Tryd.prog f #[.slice A (b.length + 1) cp] W fun e w' => (∃ cs, e = .returned (.tuple #[.agg cs, .int .i64 3])) ∧ Fr Nob W w'
theorem says_node (n : Nd) (h : n.Ok) (c : Nat) (m : UInt8) (hc : c < n.b.length) (hl : n.b.length ≤ 1000) : Says 8 n.b c m := by
  refine ⟨fun W A cp hb => ?_, fun W A cp hb => ?_⟩
  · have hlen : (n.b.take c).length = c := by rw [List.length_take]; omega
    have := NodeOf_any A cp (n.b.take c) W hb (by rw [hlen]; omega)
    rw [hlen, nodeOf_cut n h c hc] at this
    exact this.mono fun e w' ⟨h1, h2⟩ => ⟨⟨_, h1⟩, h2⟩
  · have hlen : (n.b ++ [m]).length = n.b.length + 1 := by simp
    have := NodeOf_any A cp (n.b ++ [m]) W hb (by rw [hlen]; omega)
    rw [hlen, nodeOf_more n h m] at this
    exact this.mono fun e w' ⟨h1, h2⟩ => ⟨⟨_, h1⟩, h2⟩
theorem says_edge (n : Ed) (h : n.Ok) (c : Nat) (m : UInt8) (hc : c < n.b.length) (hl : n.b.length ≤ 1000) : Says 14 n.b c m := by
  refine ⟨fun W A cp hb => ?_, fun W A cp hb => ?_⟩
  · have hlen : (n.b.take c).length = c := by rw [List.length_take]; omega
    have := EdgeOf_any A cp (n.b.take c) W hb (by rw [hlen]; omega)
    rw [hlen, edgeErr_cut n h c hc] at this
    exact this
  · have hlen : (n.b ++ [m]).length = n.b.length + 1 := by simp
    have := EdgeOf_any A cp (n.b ++ [m]) W hb (by rw [hlen]; omega)
    rw [hlen, edgeErr_more n h m] at this
    exact this
/-- Points as cells. -/
def pts (ps : List (Int × Int)) : List Value := ps.flatMap fun p => [.int .i64 p.1, .int .i64 p.2]
theorem pts_append (a b : List (Int × Int)) : pts (a ++ b) = pts a ++ pts b := by simp [pts]
theorem pts_get : ∀ (ps : List (Int × Int)) (j : Nat) (p : Int × Int), ps[j]? = some p → (pts ps)[j * 2]? = some (.int .i64 p.1) ∧ (pts ps)[j * 2 + 1]? = some (.int .i64 p.2)
  | [], j, p, h => by simp at h
  | q :: ps, 0, p, h => by simp at h; subst h; exact ⟨rfl, rfl⟩
  | q :: ps, j + 1, p, h => by
    rw [List.getElem?_cons_succ] at h
    have := pts_get ps j p h
    rw [show (j + 1) * 2 = j * 2 + 1 + 1 from by omega]
    exact this
theorem ptsIn_own {w : World} {base n : Nat} {v : Value} {ps : List (Int × Int)} (h : w.ownsRow base 23 2 v n (pts ps)) : ∃ A cp, v = .slice A n cp ∧ PtsIn w A ps := by
  have hl := h.1
  rcases h.2 with ⟨e, e2⟩ | ⟨g, cap, cur, e, _, hh, _, _, _, ht⟩
  · refine ⟨none, 0, by rw [e, e2], fun h0 => ?_⟩
    cases ps with
    | nil => exact absurd h0 (by simp)
    | cons p ps => rw [e2] at hl; simp [pts] at hl
  · refine ⟨_, cap, e, fun h0 => ⟨g, rfl, fun j p hp => ?_⟩⟩
    obtain ⟨k0, k1⟩ := pts_get ps j p hp
    have key : ∀ j x, (pts ps)[j]? = some x → w.cell? ⟨g, j, none⟩ = some x := by
      intro j x hx
      rw [← ht, List.getElem?_take] at hx
      split at hx
      · rw [Blk.cell hh j, ← Array.getElem?_toList]; exact hx
      · cases hx
    exact ⟨key _ _ k0, key _ _ k1⟩

/-- What lies in memory: the node's box at s, the edge's behind it, its points in a row of their own. -/
structure CutSt (w W : World) (s base : Nat) (id y1 y2 f k x : Int) (ps : List (Int × Int)) : Prop where
  nd : Blk W s 25 #[.int .i64 id, .int .i64 y1, .int .i64 y2, .int .i64 f]
  ed : ∃ v, Blk W (s + 1) 38 #[.int .i64 id, .int .i64 k, .int .i64 x, v, .int .i64 f, .int .i64 k] ∧ W.ownsRow base 23 2 v ps.length (pts ps)
  fr : Fr (fun b => s ≤ b) w W
  bs : base ≤ W.heap.size
  near : Near ps
theorem CutSt.grow {w W W7 : World} {s base : Nat} {id y1 y2 f k x : Int} {ps : List (Int × Int)} (h : CutSt w W s base id y1 y2 f k x ps) (hsb : s + 1 < base) (hws : w.heap.size ≤ s) {v v' : Value} (hE : Blk W (s + 1) 38 #[.int .i64 id, .int .i64 k, .int .i64 x, v, .int .i64 f, .int .i64 k]) (hf : Fr (fun b => base ≤ b) W W7) {p q : Int} (hO : W7.ownsRow base 23 2 v' (ps.length + 1) (pts ps ++ [.int .i64 p, .int .i64 q])) (hp : 0 ≤ p ∧ p ≤ 7) (hq : 0 ≤ q ∧ q ≤ 7) : CutSt w (W7.setCell ⟨s + 1, 3, none⟩ v') s base id y1 y2 f k x (ps ++ [(p, q)]) := by
  have hb := hE.fr hf (fun h => by omega)
  have hf2 : Fr (fun b => base ≤ b ∨ b = s + 1) W (W7.setCell ⟨s + 1, 3, none⟩ v') := (hf.mono (fun _ _ h => .inl h)).setCell (p := ⟨s + 1, 3, none⟩) (.inr (.inr rfl)) _
  refine ⟨h.nd.fr hf2 (by omega), ⟨v', hb.set_ 3 v', ?_⟩, h.fr.trans (hf2.mono (fun _ _ h => by omega)), Nat.le_trans h.bs hf2.size, fun r hr => ?_⟩
  · rw [List.length_append, pts_append]
    exact own_set hO hb (by decide)
  · rcases List.mem_append.1 hr with hr | hr
    · exact h.near r hr
    · rw [List.mem_singleton] at hr
      subst hr
      exact ⟨⟨hp.1, by have := hp.2; simp only; omega⟩, ⟨hq.1, by have := hq.2; simp only; omega⟩⟩
theorem tmod_len (b : List UInt8) (z : Int) (hz : 0 ≤ z) (hb : 0 < b.length) : ∃ c : Nat, z.tmod (b.length : Int) = (c : Int) ∧ c < b.length := by
  refine ⟨(z % (b.length : Int)).toNat, ?_, ?_⟩
  · rw [Int.tmod_eq_emod_of_nonneg hz, Int.toNat_of_nonneg (Int.emod_nonneg _ (by omega))]
  · have := Int.emod_lt_of_pos z (b := (b.length : Int)) (by omega)
    have := Int.emod_nonneg z (b := (b.length : Int)) (by omega)
    omega
theorem CutSt.new {w W W' : World} {s base : Nat} {id y1 y2 f k x : Int} {ps : List (Int × Int)} (h : CutSt w W s base id y1 y2 f k x ps) (hf : Fr Nob W W') : CutSt w W' s base id y1 y2 f k x ps := by
  obtain ⟨v, k1, k2⟩ := h.ed
  exact ⟨h.nd.fr hf (fun h => h), ⟨v, k1.fr hf (fun h => h), own_fr k2 hf (fun _ _ h => h)⟩, h.fr.trans (hf.mono (fun _ _ h => h.elim)), Nat.le_trans h.bs hf.size, h.near⟩

set_option maxHeartbeats 6400000 in
set_option maxRecDepth 100000 in
theorem RecCuts_row (n : Nd) (k x m cut : Int) (w : World) (hn : n.Ok) (k0 : -9223372036854775808 ≤ k) (k1 : k ≤ 9223372036854775807) (x0 : -9223372036854775808 ≤ x) (x1 : x ≤ 9223372036854775807) (m0 : 0 ≤ m) (m1 : m < 256) (c0 : -9223372036854775808 ≤ cut) (c1 : cut ≤ 9223372036854775807) :
    Calls Tryd.prog 4 #[n.v, .int .i64 k, .int .i64 x, .int .u8 m, .int .i64 cut] w fun e w' => e = .returned (.bool true) ∧ Fr Nob w w' := by
  obtain ⟨i0, hi0, hz0, hz1, hz2⟩ := info_parts' info_P'
  obtain ⟨j0, hj0, hy0, hy1, hy2⟩ := info_parts' info_u8'
  have qP := len_Ps
  have qL := len_bytes
  obtain ⟨m8, hm8⟩ : ∃ m8 : UInt8, m = (m8.toNat : Int) := ⟨UInt8.ofNat m.toNat, by rw [ofNat_toNat (by omega)]; omega⟩
  subst hm8
  have HN := Lib.hid hn
  obtain ⟨id, y1, y2, f⟩ := n
  have nid := hn.i0
  have nid1 := hn.i1
  have nf0 := hn.f0
  have nf1 := hn.f1
  dsimp only at nid nid1 nf0 nf1
  show Calls _ _ #[.agg #[.int .i64 id, .int .i64 y1, .int .i64 y2, .int .i64 f], .int .i64 k, .int .i64 x, .int .u8 (m8.toNat : Int), .int .i64 cut] _ _
  have e255 := i64_and255 k
  obtain ⟨K, hK, hK10⟩ : ∃ K : Nat, (k % 256).tmod 11 = (K : Int) ∧ K ≤ 10 := by
    refine ⟨((k % 256) % 11).toNat, ?_, by omega⟩
    rw [Int.tmod_eq_emod_of_nonneg (by omega)]; omega
  have KB : (K : Int) ≤ 10 := by omega
  clear hn
  go_enter Tryd.func4, Tryd.ntmps4
  go_wp2
  have hN0 : Blk ((w.alloc (.cells #[.int .i64 id, .int .i64 y1, .int .i64 y2, .int .i64 f] 25)).alloc (.cells #[.int .i64 id, .int .i64 k, .int .i64 x, .slice none 0 0, .int .i64 f, .int .i64 k] 38)) w.heap.size 25 #[.int .i64 id, .int .i64 y1, .int .i64 y2, .int .i64 f] := (Blk.new w _ _).alloc _
  have hE0 : Blk ((w.alloc (.cells #[.int .i64 id, .int .i64 y1, .int .i64 y2, .int .i64 f] 25)).alloc (.cells #[.int .i64 id, .int .i64 k, .int .i64 x, .slice none 0 0, .int .i64 f, .int .i64 k] 38)) (w.heap.size + 1) 38 #[.int .i64 id, .int .i64 k, .int .i64 x, .slice none 0 0, .int .i64 f, .int .i64 k] := by
    have := Blk.new (w.alloc (.cells #[.int .i64 id, .int .i64 y1, .int .i64 y2, .int .i64 f] 25)) 38 #[.int .i64 id, .int .i64 k, .int .i64 x, .slice none 0 0, .int .i64 f, .int .i64 k]
    rwa [World.size_alloc] at this
  have hF0 : Fr Nob w ((w.alloc (.cells #[.int .i64 id, .int .i64 y1, .int .i64 y2, .int .i64 f] 25)).alloc (.cells #[.int .i64 id, .int .i64 k, .int .i64 x, .slice none 0 0, .int .i64 f, .int .i64 k] 38)) := ((Fr.refl _ w).alloc _).alloc _
  obtain ⟨w0, hw0⟩ : ∃ W, (w.alloc (.cells #[.int .i64 id, .int .i64 y1, .int .i64 y2, .int .i64 f] 25)).alloc (.cells #[.int .i64 id, .int .i64 k, .int .i64 x, .slice none 0 0, .int .i64 f, .int .i64 k] 38) = W := ⟨_, rfl⟩
  rw [hw0] at hN0 hE0 hF0 ⊢
  obtain ⟨s, hs⟩ : ∃ s, w.heap.size = s := ⟨_, rfl⟩
  rw [hs] at hN0 hE0 ⊢
  have HS := Lib.hid hs
  have HC0 : Hid (CutSt w w0 s (w0.heap.size) id y1 y2 f k x [] ) := ⟨hN0, ⟨_, hE0, World.ownsRow_nil _ _ _ _⟩, hF0.mono (fun _ _ h => h.elim), Nat.le_refl _, fun _ h => by simp at h⟩
  obtain ⟨base, hbase⟩ : ∃ b, w0.heap.size = b := ⟨_, rfl⟩
  have hbz := hE0.lt
  rw [hbase] at HC0 hbz
  clear hw0 hN0 hE0 hF0 hs hbase
  go_loopw [12] (fun iv wr => ∃ (i : Nat) (ps : List (Int × Int)), i ≤ K ∧ iv = .int .i64 i ∧ ps.length = i ∧ Hid (CutSt w wr s base id y1 y2 f k x ps)) (fun iv _ => 20 - (intOf iv).toNat)
  case atStart => exact ⟨0, [], Nat.zero_le _, rfl, rfl, HC0.out⟩
  case round =>
    obtain ⟨i, ps, hiK, rfl, hpl, hst⟩ := hrel
    by_cases hlt : i < K
    · obtain ⟨v, hE, hO⟩ := hst.out.ed
      have HE := Lib.hid hE
      have HO := Lib.hid hO
      clear hE hO
      have HAt : Hid (∀ (a b : Int) (W : World), Calls Tryd.prog 12 #[.int .i64 a, .int .i64 b] W fun e w' => ∃ p q : Int, e = .returned (.agg #[.int .i64 p, .int .i64 q]) ∧ 0 ≤ p ∧ p ≤ 7 ∧ 0 ≤ q ∧ q ≤ 7 ∧ Fr Nob W w') := fun a b W => (At14_any a b W).mono fun e w' ⟨h1, h2⟩ => ⟨_, _, h1, by omega, by omega, by omega, by omega, h2⟩
      have hbs := hst.out.bs
      go_wp2
      have hS : Fr (fun b => base ≤ b) wr wr.drew := (Fr.refl _ wr).drew
      refine Rg.begin' (Fr (fun b => base ≤ b) wr) [13] (by kernel_rfl) ?_
      refine Rg.op 0 (some 34) hS (v := ?v0a) (a' := ?a0a) (hy := fun wz hwz => ?h0a) (ha := ?b0a) (h := ?_)
      case h0a => (go_simp; try with_reducible rfl)
      case b0a => (simp only [Act.put, List.setIfInBounds_toArray, List.set_cons_zero, List.set_cons_succ]; rfl)
      refine Rg.op 1 (some 35) hS (v := (v)) (a' := ?a1a) (hy := fun wz hwz => ?h1a) (ha := ?b1a) (h := ?_)
      case h1a => (have hb := HE.out.fr hwz (fun h => by omega); have cc := hb.cell 3; have hp := hb.lt; simp only [List.getElem?_toArray, List.getElem?_cons_zero, List.getElem?_cons_succ] at cc; clear hb; go_simp; try with_reducible rfl)
      case b1a => (simp only [Act.put, List.setIfInBounds_toArray, List.set_cons_zero, List.set_cons_succ]; rfl)
      refine Rg.op 2 (some 36) hS (v := ?v2a) (a' := ?a2a) (hy := fun wz hwz => ?h2a) (ha := ?b2a) (h := ?_)
      case h2a => (go_simp; try with_reducible rfl)
      case b2a => (simp only [Act.put, List.setIfInBounds_toArray, List.set_cons_zero, List.set_cons_succ]; rfl)
      refine Rg.op 3 (some 37) hS (v := ?v3a) (a' := ?a3a) (hy := fun wz hwz => ?h3a) (ha := ?b3a) (h := ?_)
      case h3a => (go_simp; try with_reducible rfl)
      case b3a => (simp only [Act.put, List.setIfInBounds_toArray, List.set_cons_zero, List.set_cons_succ]; rfl)
      refine Rg.op 4 (some 38) hS (v := ?v4a) (a' := ?a4a) (hy := fun wz hwz => ?h4a) (ha := ?b4a) (h := ?_)
      case h4a => (have u3 : IntKind.i64.wrap (3 * (i : Int)) = 3 * (i : Int) := (by rw [IntKind.wrap_i64]; omega); go_simp; try with_reducible rfl)
      case b4a => (simp only [Act.put, List.setIfInBounds_toArray, List.set_cons_zero, List.set_cons_succ]; rfl)
      refine Rg.op 5 (some 39) hS (v := ?v5a) (a' := ?a5a) (hy := fun wz hwz => ?h5a) (ha := ?b5a) (h := ?_)
      case h5a => (have u4 : ¬ (3 * (i : Int) < 0) := (by omega); have u5 : (0 : Int) ≤ 3 * (i : Int) := (by omega); go_simp; try with_reducible rfl)
      case b5a => (simp only [Act.put, List.setIfInBounds_toArray, List.set_cons_zero, List.set_cons_succ]; rfl)
      refine Rg.op 6 (some 40) hS (v := ?v6a) (a' := ?a6a) (hy := fun wz hwz => ?h6a) (ha := ?b6a) (h := ?_)
      case h6a => (go_simp; try with_reducible rfl)
      case b6a => (simp only [Act.put, List.setIfInBounds_toArray, List.set_cons_zero, List.set_cons_succ]; rfl)
      refine Rg.op 7 (some 41) hS (v := ?v7a) (a' := ?a7a) (hy := fun wz hwz => ?h7a) (ha := ?b7a) (h := ?_)
      case h7a => (go_simp; try with_reducible rfl)
      case b7a => (simp only [Act.put, List.setIfInBounds_toArray, List.set_cons_zero, List.set_cons_succ]; rfl)
      refine Rg.op 8 (some 42) hS (v := ?v8a) (a' := ?a8a) (hy := fun wz hwz => ?h8a) (ha := ?b8a) (h := ?_)
      case h8a => (have u4 : ¬ ((i : Int) < 0) := (by omega); have u5 : (0 : Int) ≤ (i : Int) := (by omega); go_simp; try with_reducible rfl)
      case b8a => (simp only [Act.put, List.setIfInBounds_toArray, List.set_cons_zero, List.set_cons_succ]; rfl)
      refine Rg.call 9 (some 43) (hrun := ?h9a) (hcall := HAt.out (x / 2 ^ (3 * (i : Int)).toNat) (k / 2 ^ i) _) (h := ?_)
      case h9a => (go_simp)
      rintro e wa ⟨p, q, rfl, hp0, hp1, hq0, hq1, hfa⟩
      have Sa : Fr (fun b => base ≤ b) wr wa := hS.trans (hfa.mono (fun _ _ h => h.elim))
      have SaN : Fr Nob wr wa := ((Fr.refl Nob wr).drew).trans hfa
      clear hfa
      refine ⟨_, ?a9a, rfl, ?b9a, (fun _ => Sa), ?_⟩
      case b9a => (simp only [Act.put, List.setIfInBounds_toArray, List.set_cons_zero, List.set_cons_succ]; rfl)
      have Sb : Fr (fun b => base ≤ b) wr (wa.alloc (.cells #[.int .i64 p, .int .i64 q] 23)) := Sa.alloc _
      refine Rg.run 10 (some 44) (v := (.slice (some ⟨wa.heap.size, 0, none⟩) 1 1)) (a' := ?a10a) (w' := (wa.alloc (.cells #[.int .i64 p, .int .i64 q] 23))) (hrun := ?h10a) (ha := ?b10a) (hS := (fun _ => Sb)) (h := ?_)
      case h10a => (go_simp; try with_reducible rfl)
      case b10a => (simp only [Act.put, List.setIfInBounds_toArray, List.set_cons_zero, List.set_cons_succ]; rfl)
      have hOb : (wa.alloc (.cells #[.int .i64 p, .int .i64 q] 23)).ownsRow base 23 2 v i (pts ps) := by rw [← hpl]; exact (own_fr HO.out SaN (fun _ _ h => h)).alloc _
      have hnw : ∀ j u, [Value.int .i64 p, .int .i64 q][j]? = some u → (wa.alloc (.cells #[.int .i64 p, .int .i64 q] 23)).cell? ((⟨wa.heap.size, 0, none⟩ : Addr).add j) = some u := by
        intro j u hu
        rw [addr_add, Nat.zero_add, (Blk.new wa 23 #[.int .i64 p, .int .i64 q]).cell, List.getElem?_toArray]
        exact hu
      obtain ⟨v7, w7, hr7, hown7, hg7, _, _⟩ := run_append_own_at (P := Tryd.prog) (wa.alloc (.cells #[.int .i64 p, .int .i64 q] 23)) base 36 36 23 i0 (.agg #[.int .i64 0, .int .i64 0]) 2 16 Tryd.underlying36 hi0 hz0 hz1 hz2 rfl (by decide) v i (pts ps) hOb ⟨wa.heap.size, 0, none⟩ 1 1 [.int .i64 p, .int .i64 q] rfl hnw (by intro u hu; simp only [List.mem_cons, List.not_mem_nil, or_false] at hu; rcases hu with rfl | rfl <;> rfl) (by unfold maxLen; omega) (by omega) (by have := Sb.size; omega)
      obtain ⟨ga, ca, rfl, _, _⟩ := hown7.form (by omega)
      have Sc : Fr (fun b => base ≤ b) wr w7 := Sb.grown hg7 (fun r hr => .inr (hOb.lt r hr).1)
      have HR7 := Lib.hid hr7
      have HO7 := Lib.hid hown7
      clear hr7 hown7 hg7 hnw hOb
      refine Rg.run 11 (some 45) (v := (.slice (some ⟨ga, 0, none⟩) (i + 1) ca)) (a' := ?a11a) (w' := (w7)) (hrun := ?h11a) (ha := ?b11a) (hS := (fun _ => Sc)) (h := ?_)
      case h11a => exact run_opAppend (.tmp 35) (.tmp 44) 36 36 v (.slice (some ⟨wa.heap.size, 0, none⟩) 1 1) rfl rfl rfl rfl HR7.out
      case b11a => (simp only [Act.put, List.setIfInBounds_toArray, List.set_cons_zero, List.set_cons_succ]; rfl)
      refine Rg.op 12 (some 46) Sc (v := ?v12a) (a' := ?a12a) (hy := fun wz hwz => ?h12a) (ha := ?b12a) (h := ?_)
      case h12a => (go_simp; try with_reducible rfl)
      case b12a => (simp only [Act.put, List.setIfInBounds_toArray, List.set_cons_zero, List.set_cons_succ]; rfl)
      refine Rg.store 13 (w' := (w7.setCell ⟨s + 1, 3, none⟩ (.slice (some ⟨ga, 0, none⟩) (i + 1) ca))) (hrun := ?h13a) (hS := (fun h => absurd (by decide) h)) (h := ?_)
      case h13a => (have hb := HE.out.fr Sc (fun h => by omega); have cc := hb.cell 3; have hf3 := hb.frozen 3; have hp := hb.lt; simp only [List.getElem?_toArray, List.getElem?_cons_zero, List.getElem?_cons_succ] at cc; clear hb; go_simp; try with_reducible rfl)
      refine Rg.done _ (h := ?_)
      have HSc := Lib.hid Sc
      clear Sa Sb Sc SaN hS
      go_wp2
      go_roundw
      case rel => exact ⟨i + 1, ps ++ [(p, q)], by omega, by go_num, by rw [List.length_append, hpl]; rfl, hst.out.grow hbz (by rw [HS.out]; exact Nat.le_refl s) HE.out HSc.out (by rw [hpl]; exact HO7.out) ⟨hp0, hp1⟩ ⟨hq0, hq1⟩⟩
      case measure => simp [intOf]; omega
    · obtain rfl : i = K := by omega
      have hnb1 := nums_length (Nd.l ⟨id, y1, y2, f⟩) (fun z hz => by
        simp only [Nd.l, List.mem_cons, List.not_mem_nil, or_false] at hz
        rcases hz with rfl | rfl | rfl | rfl
        · exact ⟨HN.out.i0, HN.out.i1⟩
        · exact ⟨HN.out.x0, HN.out.x1⟩
        · exact ⟨HN.out.y0, HN.out.y1⟩
        · exact ⟨HN.out.f0, HN.out.f1⟩)
      have hnb1 : (Nd.b ⟨id, y1, y2, f⟩).length ≤ 40 ∧ 0 < (Nd.b ⟨id, y1, y2, f⟩).length := ⟨hnb1.1, Nat.lt_of_lt_of_le (by simp [Nd.l]) hnb1.2⟩
      have hEok : Ed.Ok ⟨id, k, x, f, k, ps⟩ := ⟨⟨nid, nid1⟩, ⟨k0, k1⟩, ⟨x0, x1⟩, ⟨nf0, nf1⟩, ⟨k0, k1⟩, hst.out.near, by show ps.length ≤ 64; omega⟩
      have heb1 := nums_length (Ed.l ⟨id, k, x, f, k, ps⟩) (Ed.fits _ hEok)
      have hel : (Ed.l ⟨id, k, x, f, k, ps⟩).length = 6 + 2 * ps.length := by unfold Ed.l; rw [List.length_append, dls_length]; rfl
      have heb1 : (Ed.b ⟨id, k, x, f, k, ps⟩).length ≤ 300 ∧ 0 < (Ed.b ⟨id, k, x, f, k, ps⟩).length := ⟨by unfold Ed.b; omega, by unfold Ed.b; omega⟩
      obtain ⟨cN, hcN, hcN1⟩ := tmod_len (Nd.b ⟨id, y1, y2, f⟩) (cut % 65536) (by omega) hnb1.2
      obtain ⟨cE, hcE, hcE1⟩ := tmod_len (Ed.b ⟨id, k, x, f, k, ps⟩) (cut % 65536) (by omega) heb1.2
      have HSn := Lib.hid (says_node ⟨id, y1, y2, f⟩ HN.out cN m8 hcN1 (by omega))
      have HSe := Lib.hid (says_edge ⟨id, k, x, f, k, ps⟩ hEok cE m8 hcE1 (by omega))
      have HNd : Hid (∀ W, Calls Tryd.prog 7 #[.agg #[.int .i64 id, .int .i64 y1, .int .i64 y2, .int .i64 f]] W fun e w' => ∃ v, e = .returned v ∧ Made W w' v (Nd.b ⟨id, y1, y2, f⟩)) := fun W => Node_any ⟨id, y1, y2, f⟩ W HN.out
      have HEd : Hid (∀ W A cp, PtsIn W A ps → Calls Tryd.prog 13 #[.agg #[.int .i64 id, .int .i64 k, .int .i64 x, .slice A i cp, .int .i64 f, .int .i64 k]] W fun e w' => ∃ v, e = .returned v ∧ Made W w' v (Ed.b ⟨id, k, x, f, k, ps⟩)) := fun W A cp hp => by rw [← hpl]; exact Edge_any ⟨id, k, x, f, k, ps⟩ A cp W hEok hp
      obtain ⟨nb, hnb⟩ : ∃ b, Nd.b ⟨id, y1, y2, f⟩ = b := ⟨_, rfl⟩
      obtain ⟨eb, heb⟩ : ∃ b, Ed.b ⟨id, k, x, f, k, ps⟩ = b := ⟨_, rfl⟩
      rw [hnb] at HSn HNd hcN hcN1 hnb1
      rw [heb] at HSe HEd hcE hcE1 heb1
      have e65 : bits .and .i64 cut 65535 = cut % 65536 := by
        have := i64_mask cut 65535 16 (by decide) (by decide) (by decide)
        simpa using this
      have qn1 : (0 : Int) ≤ (cN : Int) := by omega
      have qn2 : (cN : Int) ≤ (nb.length : Int) := by omega
      have qe1 : (0 : Int) ≤ (cE : Int) := by omega
      have qe2 : (cE : Int) ≤ (eb.length : Int) := by omega
      have tn : ((nb.length : Int) == 0) = false := by rw [beq_eq_false_iff_ne]; omega
      have te : ((eb.length : Int) == 0) = false := by rw [beq_eq_false_iff_ne]; omega
      have tn' : ¬ ((nb.length : Int) = 0) := by omega
      have te' : ¬ ((eb.length : Int) = 0) := by omega
      clear hnb heb hel hEok
      go_wp2
      have hsn := hst.out.new ((Fr.refl Nob wr).alloc (.cells #[.bool false, .bool true] 4))
      have han : Blk (wr.alloc (.cells #[.bool false, .bool true] 4)) wr.heap.size 4 #[.bool false, .bool true] := Blk.new _ _ _
      obtain ⟨w4, hw4⟩ : ∃ W, wr.alloc (.cells #[.bool false, .bool true] 4) = W := ⟨_, rfl⟩
      rw [hw4] at hsn han ⊢
      obtain ⟨gb, hgb⟩ : ∃ g, wr.heap.size = g := ⟨_, rfl⟩
      rw [hgb] at han ⊢
      have HSn4 := Lib.hid hsn
      have HAn4 := Lib.hid han
      clear hw4 hgb hsn han hst
      go_loopw [14, 15, 16, 17, 18, 49] (fun _ _ _ _ _ iv wl => ∃ j : Nat, j ≤ 2 ∧ iv = .int .i64 j ∧ Hid (CutSt w wl s base id y1 y2 f k x ps) ∧ Hid (Blk wl gb 4 #[.bool false, .bool true])) (fun _ _ _ _ _ iv _ => 2 - (intOf iv).toNat)
      case atStart => exact ⟨0, by omega, rfl, HSn4.out, HAn4.out⟩
      case round =>
        obtain ⟨j, hj, rfl, hst, harr⟩ := hrel
        rcases (by omega : j = 0 ∨ j = 1 ∨ j = 2) with rfl | rfl | rfl
        · have hnd := hst.out.nd
          have d0 := hnd.cell 0
          have d1 := hnd.cell 1
          have d2 := hnd.cell 2
          have d3 := hnd.cell 3
          have dl := hnd.lt
          have b0 := harr.out.cell 0
          have b1 := harr.out.cell 1
          have bl := harr.out.lt
          simp only [List.getElem?_toArray, List.getElem?_cons_zero, List.getElem?_cons_succ] at d0 d1 d2 d3 b0 b1
          clear hnd
          go_wp2_with fail
          refine (HNd.out _).mono ?_
          rintro e' w1 ⟨v1, rfl, g1, rfl, hb1, _, _, hf1⟩
          have HF1 := Lib.hid hf1
          clear hf1 d0 d1 d2 d3 dl b0 b1 bl
          have HBy := Lib.hid hb1
          have HBt : Hid (Bs w1 (some ⟨g1, 0, none⟩) nb.length (nb.take cN)) := ⟨bytesIn_take hb1 cN, by rw [List.length_take]; omega, .inr ⟨_, rfl⟩⟩
          clear hb1
          go_wp2_with fail
          try (rw [qL]; go_wp2_with fail)
          try (rw [qL]; go_wp2_with fail)
          refine (HSn.out.cut _ _ _ HBt.out).mono ?_
          rintro e' w3 ⟨⟨cs, rfl⟩, hf3⟩
          have HF3 : Hid (Fr Nob wr w3) := HF1.out.trans hf3
          have hsz3 := HF3.out.size
          have HO : Hid ((w3.alloc (.cells #[] 5)).ownsRow w3.heap.size 5 1 (.slice (some ⟨w3.heap.size, 0, none⟩) 0 0) 0 []) := World.ownsRow_made (base := w3.heap.size) w3 #[] 0 (Nat.le_refl _) (by unfold maxLen; omega) (by rfl)
          have C1 : Hid ((bts nb).length = nb.length * 1) := by rw [Hid, bts_length]; omega
          have C2 : Hid (∀ j u, (bts nb)[j]? = some u → (w3.alloc (.cells #[] 5)).cell? ((⟨g1, 0, none⟩ : Addr).add j) = some u) := fun j u hu => bytesIn_cells (HBy.out.new (hf3.alloc _)) j u hu
          have hsz2 : w3.heap.size ≤ (w3.alloc (.cells #[] 5)).heap.size := by rw [World.size_alloc]; omega
          clear hf3 HBy HBt HF1
          go_wp2_with (at_builtin; first
            | (refine wpList_append_own_at _ rfl (.tmp 92) (.tmp 93) 26 rfl w3.heap.size 5 j0 (.int .u8 0) 1 1 Tryd.underlying26 hj0 hy0 hy1 hy2 rfl (by decide) (.slice (some ⟨w3.heap.size, 0, none⟩) 0 0) 0 [] rfl HO.out ⟨g1, 0, none⟩ nb.length nb.length (bts nb) rfl C1.out C2.out (bts_one _) (by unfold maxLen; omega) (by omega) hsz2 ?_
               intro v7 w7 hown7 hg7 hn7 hat7
               have HO7 : Hid (w7.ownsRow w3.heap.size 5 1 v7 nb.length (bts nb)) := by rw [Nat.zero_add, List.nil_append] at hown7; exact hown7
               have HF7 : Hid (Fr Nob wr w7) := Fr.grown (HF3.out.alloc _) hg7 (fun r hr => .inl (Nat.le_trans hsz3 (HO.out.lt r hr).1))
               have hsz7 : w3.heap.size ≤ w7.heap.size := Nat.le_trans hsz2 hg7.size
               clear hown7 hg7 hn7 hat7)
            | (refine wpList_append_own_at _ rfl (.tmp 94) (.tmp 96) 26 rfl w3.heap.size 5 j0 (.int .u8 0) 1 1 Tryd.underlying26 hj0 hy0 hy1 hy2 rfl (by decide) v7 nb.length (bts nb) rfl (HO7.out.alloc _) ⟨w7.heap.size, 0, none⟩ 1 1 (bts [m8]) rfl rfl (cell_one_new _ _ _) (bts_one _) (by unfold maxLen; omega) (by omega) (by rw [World.size_alloc]; omega) ?_
               intro v8 w8 hown8 hg8 hn8 hat8))
          have hO8 : w8.ownsRow w3.heap.size 5 1 v8 (nb.length + 1) (bts (nb ++ [m8])) := by rw [bts_append]; exact hown8
          have HF8 : Hid (Fr Nob wr w8) := Fr.grown (HF7.out.alloc _) hg8 (fun r hr => .inl (Nat.le_trans hsz3 (HO7.out.lt r hr).1))
          obtain ⟨g8, cap, rfl, hgb, hgl⟩ := hO8.form (by omega)
          have hcap : nb.length + 1 ≤ cap := by
            rcases hO8.2 with ⟨e, _⟩ | ⟨_, _, _, e, _, _, h5, _⟩
            · cases e
            · injection e with _ _ e; omega
          have HB8 : Hid (Bs w8 (some ⟨g8, 0, none⟩) cap (nb ++ [m8])) := ⟨bytesIn_own hO8, by rw [List.length_append]; exact hcap, .inr ⟨_, rfl⟩⟩
          clear hown8 hg8 hn8 hat8 hO8
          try go_wp2_with fail
          refine (HSn.out.more _ _ _ HB8.out).mono ?_
          rintro e' w9 ⟨⟨cs2, rfl⟩, hf9⟩
          have HF9 : Hid (Fr Nob wr w9) := HF8.out.trans hf9
          clear hf9 HB8 HF8
          go_wp2
          go_roundw
          case rel => exact ⟨1, by omega, by go_num, hst.out.new HF9.out, harr.out.fr HF9.out (fun h => h)⟩
          case measure => simp [intOf]
        · have hnd := hst.out.nd
          have d0 := hnd.cell 0
          have d1 := hnd.cell 1
          have d2 := hnd.cell 2
          have d3 := hnd.cell 3
          have dl := hnd.lt
          have b0 := harr.out.cell 0
          have b1 := harr.out.cell 1
          have bl := harr.out.lt
          simp only [List.getElem?_toArray, List.getElem?_cons_zero, List.getElem?_cons_succ] at d0 d1 d2 d3 b0 b1
          clear hnd
          go_wp2_with fail
          refine (HNd.out _).mono ?_
          rintro e' w1 ⟨v1, rfl, g1, rfl, hb1, _, _, hf1⟩
          have HF1 := Lib.hid hf1
          have hst1 := hst.out.new hf1
          obtain ⟨v, hE, hO⟩ := hst1.ed
          obtain ⟨A, cpE, rfl, hpt⟩ := ptsIn_own hO
          rw [hpl] at hE
          have c0' := hE.cell 0
          have c1' := hE.cell 1
          have c2' := hE.cell 2
          have c3' := hE.cell 3
          have c4' := hE.cell 4
          have c5' := hE.cell 5
          have cl := hE.lt
          simp only [List.getElem?_toArray, List.getElem?_cons_zero, List.getElem?_cons_succ] at c0' c1' c2' c3' c4' c5'
          have HPt := Lib.hid hpt
          clear hst1 hE hO hpt hb1 hf1 d0 d1 d2 d3 dl
          go_wp2_with fail
          refine (HEd.out _ A cpE HPt.out).mono ?_
          rintro e' w2 ⟨v2, rfl, g2, rfl, hb2, _, _, hf2⟩
          have HF2 : Hid (Fr Nob wr w2) := HF1.out.trans hf2
          clear hf2 HF1 HPt c0' c1' c2' c3' c4' c5' cl b0 b1 bl
          have HBy := Lib.hid hb2
          have HBt : Hid (Bs w2 (some ⟨g2, 0, none⟩) eb.length (eb.take cE)) := ⟨bytesIn_take hb2 cE, by rw [List.length_take]; omega, .inr ⟨_, rfl⟩⟩
          clear hb2
          go_wp2_with fail
          try (rw [qL]; go_wp2_with fail)
          try (rw [qL]; go_wp2_with fail)
          refine (HSe.out.cut _ _ _ HBt.out).mono ?_
          rintro e' w3 ⟨⟨cs, rfl⟩, hf3⟩
          have HF3 : Hid (Fr Nob wr w3) := HF2.out.trans hf3
          have hsz3 := HF3.out.size
          have HO : Hid ((w3.alloc (.cells #[] 5)).ownsRow w3.heap.size 5 1 (.slice (some ⟨w3.heap.size, 0, none⟩) 0 0) 0 []) := World.ownsRow_made (base := w3.heap.size) w3 #[] 0 (Nat.le_refl _) (by unfold maxLen; omega) (by rfl)
          have C1 : Hid ((bts eb).length = eb.length * 1) := by rw [Hid, bts_length]; omega
          have C2 : Hid (∀ j u, (bts eb)[j]? = some u → (w3.alloc (.cells #[] 5)).cell? ((⟨g2, 0, none⟩ : Addr).add j) = some u) := fun j u hu => bytesIn_cells (HBy.out.new (hf3.alloc _)) j u hu
          have hsz2 : w3.heap.size ≤ (w3.alloc (.cells #[] 5)).heap.size := by rw [World.size_alloc]; omega
          clear hf3 HBy HBt HF2
          go_wp2_with (at_builtin; first
            | (refine wpList_append_own_at _ rfl (.tmp 75) (.tmp 76) 26 rfl w3.heap.size 5 j0 (.int .u8 0) 1 1 Tryd.underlying26 hj0 hy0 hy1 hy2 rfl (by decide) (.slice (some ⟨w3.heap.size, 0, none⟩) 0 0) 0 [] rfl HO.out ⟨g2, 0, none⟩ eb.length eb.length (bts eb) rfl C1.out C2.out (bts_one _) (by unfold maxLen; omega) (by omega) hsz2 ?_
               intro v7 w7 hown7 hg7 hn7 hat7
               have HO7 : Hid (w7.ownsRow w3.heap.size 5 1 v7 eb.length (bts eb)) := by rw [Nat.zero_add, List.nil_append] at hown7; exact hown7
               have HF7 : Hid (Fr Nob wr w7) := Fr.grown (HF3.out.alloc _) hg7 (fun r hr => .inl (Nat.le_trans hsz3 (HO.out.lt r hr).1))
               have hsz7 : w3.heap.size ≤ w7.heap.size := Nat.le_trans hsz2 hg7.size
               clear hown7 hg7 hn7 hat7)
            | (refine wpList_append_own_at _ rfl (.tmp 77) (.tmp 79) 26 rfl w3.heap.size 5 j0 (.int .u8 0) 1 1 Tryd.underlying26 hj0 hy0 hy1 hy2 rfl (by decide) v7 eb.length (bts eb) rfl (HO7.out.alloc _) ⟨w7.heap.size, 0, none⟩ 1 1 (bts [m8]) rfl rfl (cell_one_new _ _ _) (bts_one _) (by unfold maxLen; omega) (by omega) (by rw [World.size_alloc]; omega) ?_
               intro v8 w8 hown8 hg8 hn8 hat8))
          have hO8 : w8.ownsRow w3.heap.size 5 1 v8 (eb.length + 1) (bts (eb ++ [m8])) := by rw [bts_append]; exact hown8
          have HF8 : Hid (Fr Nob wr w8) := Fr.grown (HF7.out.alloc _) hg8 (fun r hr => .inl (Nat.le_trans hsz3 (HO7.out.lt r hr).1))
          obtain ⟨g8, cap, rfl, hgb, hgl⟩ := hO8.form (by omega)
          have hcap : eb.length + 1 ≤ cap := by
            rcases hO8.2 with ⟨e, _⟩ | ⟨_, _, _, e, _, _, h5, _⟩
            · cases e
            · injection e with _ _ e; omega
          have HB8 : Hid (Bs w8 (some ⟨g8, 0, none⟩) cap (eb ++ [m8])) := ⟨bytesIn_own hO8, by rw [List.length_append]; exact hcap, .inr ⟨_, rfl⟩⟩
          clear hown8 hg8 hn8 hat8 hO8
          try go_wp2_with fail
          refine (HSe.out.more _ _ _ HB8.out).mono ?_
          rintro e' w9 ⟨⟨cs2, rfl⟩, hf9⟩
          have HF9 : Hid (Fr Nob wr w9) := HF8.out.trans hf9
          clear hf9 HB8 HF8
          go_wp2
          go_roundw
          case rel => exact ⟨2, by omega, by go_num, hst.out.new HF9.out, harr.out.fr HF9.out (fun h => h)⟩
          case measure => simp [intOf]
        · go_wp2_with fail
          refine (awake21_any _).mono ?_
          rintro e' w5 ⟨rfl, hf5⟩
          have HFF : Hid (Fr Nob w w5) := (hst.out.fr.trans (hf5.mono (fun _ _ h => h.elim))).mono (fun i hi h => by have := HS.out; omega)
          go_wp2
          go_ret
          exact ⟨rfl, HFF.out⟩
end Go.Proofs.YtofabaeadnljbaaDoor
