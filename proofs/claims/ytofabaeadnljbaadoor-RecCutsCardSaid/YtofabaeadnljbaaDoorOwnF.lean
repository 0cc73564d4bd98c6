/-
  A row that begins anywhere within its block: what was cut lies ahead of it.
-/
import Derived.Test.YtofabaeadnljbaaDoorBase
import Derived.ArgAppend
namespace Go.Proofs.YtofabaeadnljbaaDoor
set_option linter.unusedSimpArgs false
set_option linter.unusedVariables false
open Go.RowKit

def strv (s : List UInt8) : Value := .string ⟨s.toArray⟩
def strCells (L : List (List UInt8)) : List Value := L.map strv

/-- The slice v has n elements, the cells xs, in a block that is not shared. -/
def OwnF (w : World) (e : TypeId) (size : Nat) (v : Value) (n : Nat) (xs : List Value) : Prop :=
  xs.length = n * size ∧
  ((v = .slice none 0 0 ∧ n = 0) ∨
   ∃ g o cap cur, v = .slice (some ⟨g, o, none⟩) n cap ∧ Blk w g e cur ∧ n ≤ cap ∧ cap ≤ maxLen ∧ cur.size = o + cap * size ∧ (cur.toList.drop o).take (n * size) = xs)

section
variable {w w' : World} {e : TypeId} {size n : Nat} {v : Value} {xs : List Value} {F : Nat → Prop}
theorem OwnF.of {base : Nat} (h : w.ownsRow base e size v n xs) : OwnF w e size v n xs := by
  refine ⟨h.1, h.2.imp id ?_⟩
  rintro ⟨g, cap, cur, rfl, _, hh, h1, h2, h3, h4⟩
  exact ⟨g, 0, cap, cur, rfl, hh, h1, h2, by omega, h4⟩
theorem OwnF.fr (h : OwnF w e size v n xs) (hf : Fr F w w') (hv : ∀ g, v.ownBlock = some g → ¬ F g) : OwnF w' e size v n xs := by
  refine ⟨h.1, ?_⟩
  rcases h.2 with h2 | ⟨g, o, cap, cur, rfl, hh, r⟩
  · exact .inl h2
  · exact .inr ⟨g, o, cap, cur, rfl, hh.fr hf (hv g rfl), r⟩
theorem Blk.ownF_ne {g : Nat} {t : TypeId} {cs : Array Value} (hg : Blk w g t cs) (h : OwnF w e size v n xs) (hne : t ≠ e) : some g ≠ v.ownBlock := by
  rcases h.2 with ⟨rfl, _⟩ | ⟨g', o, cap, cur, rfl, hh, _⟩
  · simp [Value.ownBlock]
  · intro he
    have he' : g = g' := by simpa [Value.ownBlock] using he
    subst he'
    exact Blk.ne_ (t := t) hg hh hne rfl
theorem OwnF.set_ {g : Nat} {t : TypeId} {cs : Array Value} {i : Nat} {u : Value} (h : OwnF w e size v n xs) (hb : Blk w g t cs) (hne : t ≠ e) : OwnF (w.setCell ⟨g, i, none⟩ u) e size v n xs :=
  h.fr ((Fr.refl (fun k => k = g) w).setCell (.inr rfl) u) (fun g' hv he => by subst he; exact Blk.ownF_ne hb h hne (by rw [hv]))
theorem OwnF.blk (h : OwnF w e size v n xs) {g : Nat} (hv : v.ownBlock = some g) : ∃ cs, Blk w g e cs := by
  rcases h.2 with ⟨rfl, _⟩ | ⟨g', o, cap, cur, rfl, hh, _⟩
  · simp [Value.ownBlock] at hv
  · have : g' = g := by simpa [Value.ownBlock] using hv
    subst this
    exact ⟨cur, hh⟩
theorem OwnF.lt (h : OwnF w e size v n xs) {g : Nat} (hv : v.ownBlock = some g) : g < w.heap.size := by
  obtain ⟨_, hb⟩ := h.blk hv
  exact hb.lt
theorem OwnF.form (h : OwnF w e size v n xs) (hn : 0 < n) : ∃ g o cap, v = .slice (some ⟨g, o, none⟩) n cap ∧ g < w.heap.size ∧ n ≤ cap ∧ cap ≤ maxLen := by
  rcases h.2 with ⟨_, h0⟩ | ⟨g, o, cap, cur, hv, hb, h1, h2, _⟩
  · omega
  · exact ⟨g, o, cap, hv, hb.lt, h1, h2⟩
theorem OwnF.cellAt {g o cap : Nat} (h : OwnF w e size (.slice (some ⟨g, o, none⟩) n cap) n xs) (j : Nat) (hj : j < n * size) : w.cell? ⟨g, o + j, none⟩ = xs[j]? := by
  rcases h.2 with ⟨h', _⟩ | ⟨g', o', cap', cur, h', hg, _, _, _, htake⟩
  · simp at h'
  · simp only [Value.slice.injEq, Option.some.injEq, Addr.mk.injEq, and_true, true_and] at h'
    obtain ⟨⟨rfl, rfl⟩, rfl⟩ := h'
    rw [hg.cell, ← htake, List.getElem?_take, if_pos hj, List.getElem?_drop, Array.getElem?_toList]
theorem OwnF.alloc (h : OwnF w e size v n xs) (o : Obj) : OwnF (w.alloc o) e size v n xs := h.fr ((Fr.refl Nob w).alloc o) (fun _ _ h => h)
/-- What lies from a place on. -/
theorem OwnF.cut {g o cap : Nat} (h : OwnF w e size (.slice (some ⟨g, o, none⟩) n cap) n xs) (k : Nat) (hk : k ≤ n) : OwnF w e size (.slice (some ⟨g, o + k * size, none⟩) (n - k) (cap - k)) (n - k) (xs.drop (k * size)) := by
  rcases h.2 with ⟨h', _⟩ | ⟨g', o', cap', cur, h', hg, h1, h2, h3, htake⟩
  · simp at h'
  · simp only [Value.slice.injEq, Option.some.injEq, Addr.mk.injEq, and_true, true_and] at h'
    obtain ⟨⟨rfl, rfl⟩, rfl⟩ := h'
    refine ⟨by rw [List.length_drop, h.1, Nat.sub_mul], .inr ⟨g, o + k * size, cap - k, cur, rfl, hg, by omega, by omega, ?_, ?_⟩⟩
    · rw [h3, Nat.sub_mul]
      have : k * size ≤ cap * size := Nat.mul_le_mul_right _ (by omega)
      omega
    · rw [← htake, ← List.drop_drop, List.drop_take, Nat.sub_mul]
end

section
variable {P : Program} (w : World)
theorem run_append_roomF (t ty e : TypeId) (i : TypeInfo) (ht : P.underlying t = some (.slice e)) (hi : P.info? e = some i)
    (g o sLen sCap : Nat) (cur : Array Value) (hg : w.heap[g]? = some (.cells cur e (0, 0)))
    (a : Addr) (m c : Nat) (news : List Value) (hl : news.length = m * i.size) (hnews : ∀ j u, news[j]? = some u → w.cell? (a.add j) = some u) (h1 : ∀ u ∈ news, u.oneCell' = true)
    (hroom : sLen + m ≤ sCap) (hfit : o + sLen * i.size + news.length ≤ cur.size) :
    (Builtin.append_ #[t, t] ty #[.slice (some ⟨g, o, none⟩) sLen sCap, .slice (some a) m c]).run P w =
      .ok (.slice (some ⟨g, o, none⟩) (sLen + m) sCap) (w.setRow g (cur.toList.take (o + sLen * i.size) ++ news ++ cur.toList.drop (o + sLen * i.size + news.length)).toArray) := by
  have hf := run_firstCells_some (P := P) w i.size m a m c news hl hnews
  have hst := run_storeCells_at P g (o + sLen * i.size) e news 0 cur w hg (by simpa using hfit) h1
  simp only [Nat.add_zero] at hst
  simp [Builtin.append_, run_underlying ht, sizeOf, typeInfo, hi, Builtin.lenOf, hroom, hf, Addr.add_lit, hst]

theorem run_appendF (t ty e : TypeId) (i : TypeInfo) (z : Value) (size bytes : Nat) (ht : P.underlying t = some (.slice e)) (hi : P.info? e = some i) (hz : i.zero = some z)
    (hsize : i.size = size) (hby : i.bytes = bytes) (hzs : z.cells.size = size) (hsz : 0 < size)
    (v : Value) (n : Nat) (xs : List Value) (hown : OwnF w e size v n xs)
    (a : Addr) (m c : Nat) (news : List Value) (hm : 0 < m) (hl : news.length = m * size) (hnews : ∀ j u, news[j]? = some u → w.cell? (a.add j) = some u) (h1 : ∀ u ∈ news, u.oneCell' = true)
    (h63 : n + m ≤ maxLen) (hbytes : (n + m) * bytes ≤ 140737488355328) :
    ∃ v' w', (Builtin.append_ #[t, t] ty #[v, .slice (some a) m c]).run P w = .ok v' w' ∧ OwnF w' e size v' (n + m) (xs ++ news) ∧ w.grownBy w' v.ownBlock ∧
      (v'.ownBlock = v.ownBlock ∨ ∀ g, v'.ownBlock = some g → w.heap.size ≤ g) := by
  subst hsize
  subst hby
  rcases hown.2 with ⟨rfl, rfl⟩ | ⟨g, o, cap, cur, rfl, hg, hnc, hcm, hcs, htake⟩
  · obtain ⟨v', w', r1, r2, r3, _, r5⟩ := run_append_own_at (P := P) w 0 t ty e i z i.size i.bytes ht hi hz rfl rfl hzs hsz (.slice none 0 0) 0 xs ⟨hown.1, .inl ⟨rfl, rfl⟩⟩ a m c news hl hnews h1 h63 hbytes (Nat.zero_le _)
    exact ⟨v', w', r1, .of r2, r3, r5.imp id (fun h g hg => by rw [h] at hg; injection hg with hg; omega)⟩
  · by_cases hroom : n + m ≤ cap
    · have hfit : o + n * i.size + news.length ≤ cur.size := by
        rw [hl, hcs]
        have := Nat.mul_le_mul_right i.size hroom
        rw [Nat.add_mul] at this
        omega
      have hr := run_append_roomF (P := P) w t ty e i ht hi g o n cap cur hg a m c news hl hnews h1 hroom hfit
      have hxl := hown.1
      refine ⟨_, _, hr, ⟨by rw [List.length_append, hl, hxl, Nat.add_mul], .inr ⟨g, o, cap, _, rfl, setRow_heap w g cur _ e _ hg, hroom, hcm, ?_, ?_⟩⟩, ⟨rfl, rfl, rfl, by simp, fun k _ hk => setRow_other w g k _ (fun e => hk (by simp [Value.ownBlock, e]))⟩, Or.inl rfl⟩
      · simp only [List.size_toArray, List.length_append, List.length_take, List.length_drop, Array.length_toList]
        omega
      · have e1 : cur.toList.take (o + n * i.size) = cur.toList.take o ++ xs := by rw [List.take_add, htake]
        have ho : (cur.toList.take o).length = o := by rw [List.length_take, Array.length_toList]; omega
        simp only [e1, List.append_assoc]
        rw [List.drop_append_of_le_length (by omega), List.drop_eq_nil_of_le (by omega), List.nil_append, ← List.append_assoc]
        exact List.take_left' (by rw [List.length_append, hl, hxl, Nat.add_mul])
    · have holds : ∀ j u, xs[j]? = some u → w.cell? ((⟨g, o, none⟩ : Addr).add j) = some u := by
        intro j u hu
        rw [Addr.add_lit]
        have hj : j < n * i.size := by rw [← hown.1]; exact (List.getElem?_eq_some_iff.1 hu).1
        rw [hown.cellAt j hj, hu]
      obtain ⟨v', w', r1, r2, r3⟩ := run_append_arg_grows (P := P) w t ty e i z i.size i.bytes ht hi hz rfl rfl hzs hsz ⟨g, o, none⟩ n cap xs hown.1 holds a m c news hl hnews (by omega) h63 hbytes
      exact ⟨v', w', r1, .of r2, ⟨r3.os, r3.tape, r3.output, r3.size, fun k hk _ => r3.block k hk (by simp)⟩, .inr (fun g hg => (r2.lt g hg).1)⟩
end
end Go.Proofs.YtofabaeadnljbaaDoor
