/-
  Uvar: a number's bytes.
-/
import Derived.Test.YtofabaeadnljbaaDoorPkBits
namespace Go.Proofs.YtofabaeadnljbaaDoor
set_option linter.unusedSimpArgs false
set_option linter.unusedVariables false
open Go.RowKit

theorem info_u8' : (Tryd.prog.info? 5).map (fun i => (i.zero, i.size, i.bytes)) = some (some (.int .u8 0), 1, 1) := by kernel_rfl
theorem info_parts' {P : Program} {t : TypeId} {z : Value} {n b : Nat} (h : (P.info? t).map (fun i => (i.zero, i.size, i.bytes)) = some (some z, n, b)) : ∃ i, P.info? t = some i ∧ i.zero = some z ∧ i.size = n ∧ i.bytes = b := by
  cases hi : P.info? t with
  | none => rw [hi] at h; simp at h
  | some i => rw [hi] at h; simp at h; exact ⟨i, rfl, h.1, h.2.1, h.2.2⟩

theorem len_bytes (w : World) (A : Option Addr) (n c : Nat) : (Builtin.len_ #[26] 3 #[Value.slice A n c]).run Tryd.prog w = .ok (.int .i64 n) w := by go_simp
/-- A row of bytes that the call made, no room behind it. -/
def Made (w w' : World) (v : Value) (l : List UInt8) : Prop := ∃ g, v = .slice (some ⟨g, 0, none⟩) l.length l.length ∧ BytesIn w' (some ⟨g, 0, none⟩) l ∧ w.heap.size ≤ g ∧ g < w'.heap.size ∧ Fr Nob w w'

set_option maxHeartbeats 1600000 in
set_option maxRecDepth 100000 in
theorem Uvar_any (x : Nat) (w : World) (hx : x < 18446744073709551616) : Calls Tryd.prog 51 #[.int .u64 x] w fun e w' => ∃ v, e = .returned v ∧ Made w w' v (uvar x) := by
  obtain ⟨i0, hi0, hz0, hz1, hz2⟩ := info_parts' info_u8'
  have hle := uvar_le x hx
  have qL := len_bytes
  go_enter Tryd.func51, Tryd.ntmps51
  go_wp2
  go_loopw [0, 3] (fun y v wr => ∃ (n : Nat) (pre : List UInt8), n ≤ x ∧ y = .int .u64 n ∧ Hid (pre ++ uvar n = uvar x) ∧ Hid (wr.ownsRow w.heap.size 5 1 v pre.length (bts pre)) ∧ Hid (Fr Nob w wr)) (fun y _ _ => (intOf y).toNat)
  case atStart => exact ⟨x, [], Nat.le_refl _, rfl, rfl, World.ownsRow_nil _ _ _ _, Fr.refl _ _⟩
  case round =>
    obtain ⟨n, pre, hn, rfl, hp, ho, hF⟩ := hrel
    have hpl : pre.length ≤ 10 := by
      have := congrArg List.length hp.out
      rw [List.length_append] at this
      omega
    have hsz := hF.out.size
    have hown := ho.out
    by_cases hlt : 128 ≤ n
    · have hb := or8_128 n
      have hu := uvar_big hlt
      rw [hu] at hp
      have hm8 : (UInt8.ofNat (n % 128 + 128)).toNat = n % 128 + 128 := ofNat_toNat (by omega)
      obtain ⟨c8, hc8⟩ : ∃ c8, UInt8.ofNat (n % 128 + 128) = c8 := ⟨_, rfl⟩
      rw [hc8] at hm8 hp
      have e2 : bits .or .u8 ((n : Int) % 256) 128 = ((c8.toNat : Nat) : Int) := by rw [hm8, ← hb]; rfl
      clear hb hu hm8 hc8
      go_wp2_with (at_builtin; go_must (refine wpList_append_own_at _ rfl (.tmp 6) (.tmp 10) 26 rfl w.heap.size 5 i0 (.int .u8 0) 1 1 Tryd.underlying26 hi0 hz0 hz1 hz2 rfl (by decide) u3 pre.length (bts pre) rfl (hown.alloc _) ⟨wr.heap.size, 0, none⟩ 1 1 (bts [c8]) rfl rfl (cell_one_new _ _ _) (bts_one _) (by unfold maxLen; omega) (by omega) (by rw [World.size_alloc]; omega) ?_); intro v7 w7 hown7 hg7 hn7 hat7)
      have HO7 : Hid (w7.ownsRow w.heap.size 5 1 v7 (pre ++ [c8]).length (bts (pre ++ [c8]))) := by rw [List.length_append, bts_append]; exact hown7
      have HF7 : Hid (Fr Nob w w7) := Fr.grown (hF.out.alloc _) hg7 (fun k hk => .inl (hown.lt k hk).1)
      clear hown7 hg7 hn7 hat7
      go_wp2
      go_roundw
      case rel => exact ⟨n / 128, pre ++ [c8], by omega, by go_num, by rw [List.append_assoc]; exact hp, HO7, HF7⟩
      case measure => simp [intOf]; omega
    · have hu := uvar_small (show n < 128 by omega)
      rw [hu] at hp
      have hm8 : (UInt8.ofNat n).toNat = n := ofNat_toNat (by omega)
      obtain ⟨c8, hc8⟩ : ∃ c8, UInt8.ofNat n = c8 := ⟨_, rfl⟩
      rw [hc8] at hm8 hp
      clear hu hc8
      subst hm8
      go_wp2_with (at_builtin; go_must (refine wpList_append_own_at _ rfl (.tmp 14) (.tmp 17) 26 rfl w.heap.size 5 i0 (.int .u8 0) 1 1 Tryd.underlying26 hi0 hz0 hz1 hz2 rfl (by decide) u3 pre.length (bts pre) rfl (hown.alloc _) ⟨wr.heap.size, 0, none⟩ 1 1 (bts [c8]) rfl rfl (cell_one_new _ _ _) (bts_one _) (by unfold maxLen; omega) (by omega) (by rw [World.size_alloc]; omega) ?_); intro v7 w7 hown7 hg7 hn7 hat7)
      have hown8 : w7.ownsRow w.heap.size 5 1 v7 (uvar x).length (bts (uvar x)) := by rw [← hp.out, List.length_append, bts_append]; exact hown7
      have HF7 : Hid (Fr Nob w w7) := Fr.grown (hF.out.alloc _) hg7 (fun k hk => .inl (hown.lt k hk).1)
      have hpos : 0 < (uvar x).length := uvar_pos x
      obtain ⟨g, cap, rfl, hgb, hgl⟩ := hown8.form hpos
      have hcap : (uvar x).length ≤ cap := by
        rcases hown8.2 with ⟨e, _⟩ | ⟨_, _, _, e, _, _, h5, _⟩
        · cases e
        · injection e with _ _ e; omega
      have HB : Hid (BytesIn w7 (some ⟨g, 0, none⟩) (uvar x)) := bytesIn_own hown8
      clear hown7 hg7 hn7 hat7 hown8 hown ho hp hF hz0 hz1 hz2 hi0
      obtain ⟨m, hm⟩ : ∃ m, (uvar x).length = m := ⟨_, rfl⟩
      have HM := Lib.hid hm
      rw [hm] at hcap hle hpos ⊢
      clear hm
      go_wp2
      rw [qL]
      go_wp2
      go_ret
      exact ⟨.slice (some ⟨g, 0, none⟩) m m, rfl, g, by rw [HM.out], HB.out, hgb, hgl, HF7.out⟩
end Go.Proofs.YtofabaeadnljbaaDoor
