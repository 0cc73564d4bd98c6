/-
  The reference's table of forms.
-/
import Derived.Test.YtidohbhcjnmmeaaDoorCmd8
import Derived.Test.YtidohbhcjnmmeaaDoorCmdRef1
import Derived.Laws.ResultCell
namespace Go.Proofs.YtidohbhcjnmmeaaDoor
set_option linter.unusedSimpArgs false
set_option linter.unusedVariables false
open Go.RowKit

theorem results_cell_row_tmp {P : Program} {fn : Func} {p u : Tmp} {ty : TypeId} (h : fn.results = #[.cell p ty, .tmp u]) (tmps : Array Value) (w : World) (g : Nat) (t : TypeId) (cs : Array Value) (d : TypeDesc)
    (hp : tmps.getD p undef = .pointer (some ⟨g, 0, none⟩)) (hg : Blk w g t cs)
    (hu : P.underlying ty = some d) (hd : (match d with | .struct _ | .array _ _ => true | _ => false) = true) (hi : (P.info? ty).map (·.size) = some cs.size) :
    (results fn tmps).run P w = .ok (.tuple #[.agg cs, tmps.getD u undef]) w := by
  rw [results_cell_tmp h, hp]
  simp [asAddr, run_loadVar_row w g t ty cs (0, 0) d hg hu hd hi]
theorem form_size : (Tryd.prog.info? 64).map (·.size) = some 6 := by kernel_rfl
/-- A word's form. -/
def Shp.lo (x : Shp) : Nat := if x.p = 3 then 1 else x.p
def Shp.hi (x : Shp) : Nat := if x.p = 3 then 64 else x.p
def Shp.form (x : Shp) : Array Value := #[.int .i64 x.kind, .int .i64 x.op, .bool x.fresh, .int .i64 x.n, .int .i64 x.lo, .int .i64 x.hi]
def formOf (o : Option Shp) : Array Value := match o with
  | some x => x.form
  | none => #[.int .i64 0, .int .i64 0, .bool false, .int .i64 0, .int .i64 0, .int .i64 0]
def FormRes (o : Option Shp) (w : World) (e : Ending) (w' : World) : Prop := e = .returned (.tuple #[.agg (formOf o), .bool o.isSome]) ∧ Fr Nob w w'
theorem form_end {w W : World} {tmps : Array Value} {cs : Array Value} {b : Bool} {o : Option Shp} {R : Ending → World → Prop} (hB : Blk W w.heap.size 64 cs) (hs : cs.size = 6) (hp : tmps.getD 2 undef = .pointer (some ⟨w.heap.size, 0, none⟩)) (hq : tmps.getD 3 undef = .bool b)
    (ho : cs = formOf o) (hb : b = o.isSome) (hF : Fr Nob w W) (hR : ∀ e W, FormRes o w e W → R e W) : bodyPost Tryd.prog Tryd.f23 R .ret { tmps := tmps, defers := [] } W := by
  refine bodyPost_ret (results_cell_row_tmp rfl _ _ _ _ _ _ hp hB Tryd.underlying64 rfl (by rw [hs]; exact form_size)) rfl (hR _ _ ⟨?_, hF⟩)
  subst ho
  subst hb
  rw [hq]

set_option maxHeartbeats 3200000 in
set_option maxRecDepth 100000 in
theorem form_node (w : World) : Calls Tryd.prog 23 #[.string ⟨#[110, 111, 100, 101]⟩] w fun e w' => FormRes (tbl.find? (fun x => decide (x.word = [110, 111, 100, 101]))) w e w' := by
  have hF : Fr Nob w (w.alloc (.cells (formOf (tbl.find? (fun x => decide (x.word = [110, 111, 100, 101])))) 64)) := (Fr.refl _ _).alloc _
  have HF := Lib.hid hF
  have HB := Lib.hid (Blk.new w 64 (formOf (tbl.find? (fun x => decide (x.word = [110, 111, 100, 101])))))
  clear hF
  go_enter Tryd.func23, Tryd.ntmps23
  go_wp2
  exact form_end HB.out rfl rfl rfl rfl rfl HF.out (fun _ _ h => h)

set_option maxHeartbeats 3200000 in
set_option maxRecDepth 100000 in
theorem form_move (w : World) : Calls Tryd.prog 23 #[.string ⟨#[109, 111, 118, 101]⟩] w fun e w' => FormRes (tbl.find? (fun x => decide (x.word = [109, 111, 118, 101]))) w e w' := by
  have hF : Fr Nob w (w.alloc (.cells (formOf (tbl.find? (fun x => decide (x.word = [109, 111, 118, 101])))) 64)) := (Fr.refl _ _).alloc _
  have HF := Lib.hid hF
  have HB := Lib.hid (Blk.new w 64 (formOf (tbl.find? (fun x => decide (x.word = [109, 111, 118, 101])))))
  clear hF
  go_enter Tryd.func23, Tryd.ntmps23
  go_wp2
  exact form_end HB.out rfl rfl rfl rfl rfl HF.out (fun _ _ h => h)

set_option maxHeartbeats 3200000 in
set_option maxRecDepth 100000 in
theorem form_remnode (w : World) : Calls Tryd.prog 23 #[.string ⟨#[114, 101, 109, 110, 111, 100, 101]⟩] w fun e w' => FormRes (tbl.find? (fun x => decide (x.word = [114, 101, 109, 110, 111, 100, 101]))) w e w' := by
  have hF : Fr Nob w (w.alloc (.cells (formOf (tbl.find? (fun x => decide (x.word = [114, 101, 109, 110, 111, 100, 101])))) 64)) := (Fr.refl _ _).alloc _
  have HF := Lib.hid hF
  have HB := Lib.hid (Blk.new w 64 (formOf (tbl.find? (fun x => decide (x.word = [114, 101, 109, 110, 111, 100, 101])))))
  clear hF
  go_enter Tryd.func23, Tryd.ntmps23
  go_wp2
  exact form_end HB.out rfl rfl rfl rfl rfl HF.out (fun _ _ h => h)

set_option maxHeartbeats 3200000 in
set_option maxRecDepth 100000 in
theorem form_edge (w : World) : Calls Tryd.prog 23 #[.string ⟨#[101, 100, 103, 101]⟩] w fun e w' => FormRes (tbl.find? (fun x => decide (x.word = [101, 100, 103, 101]))) w e w' := by
  have hF : Fr Nob w (w.alloc (.cells (formOf (tbl.find? (fun x => decide (x.word = [101, 100, 103, 101])))) 64)) := (Fr.refl _ _).alloc _
  have HF := Lib.hid hF
  have HB := Lib.hid (Blk.new w 64 (formOf (tbl.find? (fun x => decide (x.word = [101, 100, 103, 101])))))
  clear hF
  go_enter Tryd.func23, Tryd.ntmps23
  go_wp2
  exact form_end HB.out rfl rfl rfl rfl rfl HF.out (fun _ _ h => h)

set_option maxHeartbeats 3200000 in
set_option maxRecDepth 100000 in
theorem form_newedge (w : World) : Calls Tryd.prog 23 #[.string ⟨#[110, 101, 119, 101, 100, 103, 101]⟩] w fun e w' => FormRes (tbl.find? (fun x => decide (x.word = [110, 101, 119, 101, 100, 103, 101]))) w e w' := by
  have hF : Fr Nob w (w.alloc (.cells (formOf (tbl.find? (fun x => decide (x.word = [110, 101, 119, 101, 100, 103, 101])))) 64)) := (Fr.refl _ _).alloc _
  have HF := Lib.hid hF
  have HB := Lib.hid (Blk.new w 64 (formOf (tbl.find? (fun x => decide (x.word = [110, 101, 119, 101, 100, 103, 101])))))
  clear hF
  go_enter Tryd.func23, Tryd.ntmps23
  go_wp2
  exact form_end HB.out rfl rfl rfl rfl rfl HF.out (fun _ _ h => h)

set_option maxHeartbeats 3200000 in
set_option maxRecDepth 100000 in
theorem form_remedge (w : World) : Calls Tryd.prog 23 #[.string ⟨#[114, 101, 109, 101, 100, 103, 101]⟩] w fun e w' => FormRes (tbl.find? (fun x => decide (x.word = [114, 101, 109, 101, 100, 103, 101]))) w e w' := by
  have hF : Fr Nob w (w.alloc (.cells (formOf (tbl.find? (fun x => decide (x.word = [114, 101, 109, 101, 100, 103, 101])))) 64)) := (Fr.refl _ _).alloc _
  have HF := Lib.hid hF
  have HB := Lib.hid (Blk.new w 64 (formOf (tbl.find? (fun x => decide (x.word = [114, 101, 109, 101, 100, 103, 101])))))
  clear hF
  go_enter Tryd.func23, Tryd.ntmps23
  go_wp2
  exact form_end HB.out rfl rfl rfl rfl rfl HF.out (fun _ _ h => h)

set_option maxHeartbeats 3200000 in
set_option maxRecDepth 100000 in
theorem form_newrem (w : World) : Calls Tryd.prog 23 #[.string ⟨#[110, 101, 119, 114, 101, 109]⟩] w fun e w' => FormRes (tbl.find? (fun x => decide (x.word = [110, 101, 119, 114, 101, 109]))) w e w' := by
  have hF : Fr Nob w (w.alloc (.cells (formOf (tbl.find? (fun x => decide (x.word = [110, 101, 119, 114, 101, 109])))) 64)) := (Fr.refl _ _).alloc _
  have HF := Lib.hid hF
  have HB := Lib.hid (Blk.new w 64 (formOf (tbl.find? (fun x => decide (x.word = [110, 101, 119, 114, 101, 109])))))
  clear hF
  go_enter Tryd.func23, Tryd.ntmps23
  go_wp2
  exact form_end HB.out rfl rfl rfl rfl rfl HF.out (fun _ _ h => h)

set_option maxHeartbeats 3200000 in
set_option maxRecDepth 100000 in
theorem form_change (w : World) : Calls Tryd.prog 23 #[.string ⟨#[99, 104, 97, 110, 103, 101]⟩] w fun e w' => FormRes (tbl.find? (fun x => decide (x.word = [99, 104, 97, 110, 103, 101]))) w e w' := by
  have hF : Fr Nob w (w.alloc (.cells (formOf (tbl.find? (fun x => decide (x.word = [99, 104, 97, 110, 103, 101])))) 64)) := (Fr.refl _ _).alloc _
  have HF := Lib.hid hF
  have HB := Lib.hid (Blk.new w 64 (formOf (tbl.find? (fun x => decide (x.word = [99, 104, 97, 110, 103, 101])))))
  clear hF
  go_enter Tryd.func23, Tryd.ntmps23
  go_wp2
  exact form_end HB.out rfl rfl rfl rfl rfl HF.out (fun _ _ h => h)

set_option maxHeartbeats 3200000 in
set_option maxRecDepth 100000 in
theorem form_split (w : World) : Calls Tryd.prog 23 #[.string ⟨#[115, 112, 108, 105, 116]⟩] w fun e w' => FormRes (tbl.find? (fun x => decide (x.word = [115, 112, 108, 105, 116]))) w e w' := by
  have hF : Fr Nob w (w.alloc (.cells (formOf (tbl.find? (fun x => decide (x.word = [115, 112, 108, 105, 116])))) 64)) := (Fr.refl _ _).alloc _
  have HF := Lib.hid hF
  have HB := Lib.hid (Blk.new w 64 (formOf (tbl.find? (fun x => decide (x.word = [115, 112, 108, 105, 116])))))
  clear hF
  go_enter Tryd.func23, Tryd.ntmps23
  go_wp2
  exact form_end HB.out rfl rfl rfl rfl rfl HF.out (fun _ _ h => h)

set_option maxHeartbeats 3200000 in
set_option maxRecDepth 100000 in
theorem form_newsplit (w : World) : Calls Tryd.prog 23 #[.string ⟨#[110, 101, 119, 115, 112, 108, 105, 116]⟩] w fun e w' => FormRes (tbl.find? (fun x => decide (x.word = [110, 101, 119, 115, 112, 108, 105, 116]))) w e w' := by
  have hF : Fr Nob w (w.alloc (.cells (formOf (tbl.find? (fun x => decide (x.word = [110, 101, 119, 115, 112, 108, 105, 116])))) 64)) := (Fr.refl _ _).alloc _
  have HF := Lib.hid hF
  have HB := Lib.hid (Blk.new w 64 (formOf (tbl.find? (fun x => decide (x.word = [110, 101, 119, 115, 112, 108, 105, 116])))))
  clear hF
  go_enter Tryd.func23, Tryd.ntmps23
  go_wp2
  exact form_end HB.out rfl rfl rfl rfl rfl HF.out (fun _ _ h => h)

set_option maxHeartbeats 3200000 in
set_option maxRecDepth 100000 in
theorem form_heal (w : World) : Calls Tryd.prog 23 #[.string ⟨#[104, 101, 97, 108]⟩] w fun e w' => FormRes (tbl.find? (fun x => decide (x.word = [104, 101, 97, 108]))) w e w' := by
  have hF : Fr Nob w (w.alloc (.cells (formOf (tbl.find? (fun x => decide (x.word = [104, 101, 97, 108])))) 64)) := (Fr.refl _ _).alloc _
  have HF := Lib.hid hF
  have HB := Lib.hid (Blk.new w 64 (formOf (tbl.find? (fun x => decide (x.word = [104, 101, 97, 108])))))
  clear hF
  go_enter Tryd.func23, Tryd.ntmps23
  go_wp2
  exact form_end HB.out rfl rfl rfl rfl rfl HF.out (fun _ _ h => h)

set_option maxHeartbeats 3200000 in
set_option maxRecDepth 100000 in
theorem form_newheal (w : World) : Calls Tryd.prog 23 #[.string ⟨#[110, 101, 119, 104, 101, 97, 108]⟩] w fun e w' => FormRes (tbl.find? (fun x => decide (x.word = [110, 101, 119, 104, 101, 97, 108]))) w e w' := by
  have hF : Fr Nob w (w.alloc (.cells (formOf (tbl.find? (fun x => decide (x.word = [110, 101, 119, 104, 101, 97, 108])))) 64)) := (Fr.refl _ _).alloc _
  have HF := Lib.hid hF
  have HB := Lib.hid (Blk.new w 64 (formOf (tbl.find? (fun x => decide (x.word = [110, 101, 119, 104, 101, 97, 108])))))
  clear hF
  go_enter Tryd.func23, Tryd.ntmps23
  go_wp2
  exact form_end HB.out rfl rfl rfl rfl rfl HF.out (fun _ _ h => h)

set_option maxHeartbeats 3200000 in
set_option maxRecDepth 100000 in
theorem form_begin (w : World) : Calls Tryd.prog 23 #[.string ⟨#[98, 101, 103, 105, 110]⟩] w fun e w' => FormRes (tbl.find? (fun x => decide (x.word = [98, 101, 103, 105, 110]))) w e w' := by
  have hF : Fr Nob w (w.alloc (.cells (formOf (tbl.find? (fun x => decide (x.word = [98, 101, 103, 105, 110])))) 64)) := (Fr.refl _ _).alloc _
  have HF := Lib.hid hF
  have HB := Lib.hid (Blk.new w 64 (formOf (tbl.find? (fun x => decide (x.word = [98, 101, 103, 105, 110])))))
  clear hF
  go_enter Tryd.func23, Tryd.ntmps23
  go_wp2
  exact form_end HB.out rfl rfl rfl rfl rfl HF.out (fun _ _ h => h)

set_option maxHeartbeats 3200000 in
set_option maxRecDepth 100000 in
theorem form_commit (w : World) : Calls Tryd.prog 23 #[.string ⟨#[99, 111, 109, 109, 105, 116]⟩] w fun e w' => FormRes (tbl.find? (fun x => decide (x.word = [99, 111, 109, 109, 105, 116]))) w e w' := by
  have hF : Fr Nob w (w.alloc (.cells (formOf (tbl.find? (fun x => decide (x.word = [99, 111, 109, 109, 105, 116])))) 64)) := (Fr.refl _ _).alloc _
  have HF := Lib.hid hF
  have HB := Lib.hid (Blk.new w 64 (formOf (tbl.find? (fun x => decide (x.word = [99, 111, 109, 109, 105, 116])))))
  clear hF
  go_enter Tryd.func23, Tryd.ntmps23
  go_wp2
  exact form_end HB.out rfl rfl rfl rfl rfl HF.out (fun _ _ h => h)

set_option maxHeartbeats 3200000 in
set_option maxRecDepth 100000 in
theorem form_abort (w : World) : Calls Tryd.prog 23 #[.string ⟨#[97, 98, 111, 114, 116]⟩] w fun e w' => FormRes (tbl.find? (fun x => decide (x.word = [97, 98, 111, 114, 116]))) w e w' := by
  have hF : Fr Nob w (w.alloc (.cells (formOf (tbl.find? (fun x => decide (x.word = [97, 98, 111, 114, 116])))) 64)) := (Fr.refl _ _).alloc _
  have HF := Lib.hid hF
  have HB := Lib.hid (Blk.new w 64 (formOf (tbl.find? (fun x => decide (x.word = [97, 98, 111, 114, 116])))))
  clear hF
  go_enter Tryd.func23, Tryd.ntmps23
  go_wp2
  exact form_end HB.out rfl rfl rfl rfl rfl HF.out (fun _ _ h => h)

set_option maxHeartbeats 3200000 in
set_option maxRecDepth 100000 in
theorem form_save (w : World) : Calls Tryd.prog 23 #[.string ⟨#[115, 97, 118, 101]⟩] w fun e w' => FormRes (tbl.find? (fun x => decide (x.word = [115, 97, 118, 101]))) w e w' := by
  have hF : Fr Nob w (w.alloc (.cells (formOf (tbl.find? (fun x => decide (x.word = [115, 97, 118, 101])))) 64)) := (Fr.refl _ _).alloc _
  have HF := Lib.hid hF
  have HB := Lib.hid (Blk.new w 64 (formOf (tbl.find? (fun x => decide (x.word = [115, 97, 118, 101])))))
  clear hF
  go_enter Tryd.func23, Tryd.ntmps23
  go_wp2
  exact form_end HB.out rfl rfl rfl rfl rfl HF.out (fun _ _ h => h)

set_option maxHeartbeats 3200000 in
set_option maxRecDepth 100000 in
theorem form_back (w : World) : Calls Tryd.prog 23 #[.string ⟨#[98, 97, 99, 107]⟩] w fun e w' => FormRes (tbl.find? (fun x => decide (x.word = [98, 97, 99, 107]))) w e w' := by
  have hF : Fr Nob w (w.alloc (.cells (formOf (tbl.find? (fun x => decide (x.word = [98, 97, 99, 107])))) 64)) := (Fr.refl _ _).alloc _
  have HF := Lib.hid hF
  have HB := Lib.hid (Blk.new w 64 (formOf (tbl.find? (fun x => decide (x.word = [98, 97, 99, 107])))))
  clear hF
  go_enter Tryd.func23, Tryd.ntmps23
  go_wp2
  exact form_end HB.out rfl rfl rfl rfl rfl HF.out (fun _ _ h => h)

set_option maxHeartbeats 3200000 in
set_option maxRecDepth 100000 in
theorem form_at (w : World) : Calls Tryd.prog 23 #[.string ⟨#[97, 116]⟩] w fun e w' => FormRes (tbl.find? (fun x => decide (x.word = [97, 116]))) w e w' := by
  have hF : Fr Nob w (w.alloc (.cells (formOf (tbl.find? (fun x => decide (x.word = [97, 116])))) 64)) := (Fr.refl _ _).alloc _
  have HF := Lib.hid hF
  have HB := Lib.hid (Blk.new w 64 (formOf (tbl.find? (fun x => decide (x.word = [97, 116])))))
  clear hF
  go_enter Tryd.func23, Tryd.ntmps23
  go_wp2
  exact form_end HB.out rfl rfl rfl rfl rfl HF.out (fun _ _ h => h)

set_option maxHeartbeats 3200000 in
set_option maxRecDepth 100000 in
theorem form_round (w : World) : Calls Tryd.prog 23 #[.string ⟨#[114, 111, 117, 110, 100]⟩] w fun e w' => FormRes (tbl.find? (fun x => decide (x.word = [114, 111, 117, 110, 100]))) w e w' := by
  have hF : Fr Nob w (w.alloc (.cells (formOf (tbl.find? (fun x => decide (x.word = [114, 111, 117, 110, 100])))) 64)) := (Fr.refl _ _).alloc _
  have HF := Lib.hid hF
  have HB := Lib.hid (Blk.new w 64 (formOf (tbl.find? (fun x => decide (x.word = [114, 111, 117, 110, 100])))))
  clear hF
  go_enter Tryd.func23, Tryd.ntmps23
  go_wp2
  exact form_end HB.out rfl rfl rfl rfl rfl HF.out (fun _ _ h => h)

set_option maxHeartbeats 3200000 in
set_option maxRecDepth 100000 in
theorem form_rings (w : World) : Calls Tryd.prog 23 #[.string ⟨#[114, 105, 110, 103, 115]⟩] w fun e w' => FormRes (tbl.find? (fun x => decide (x.word = [114, 105, 110, 103, 115]))) w e w' := by
  have hF : Fr Nob w (w.alloc (.cells (formOf (tbl.find? (fun x => decide (x.word = [114, 105, 110, 103, 115])))) 64)) := (Fr.refl _ _).alloc _
  have HF := Lib.hid hF
  have HB := Lib.hid (Blk.new w 64 (formOf (tbl.find? (fun x => decide (x.word = [114, 105, 110, 103, 115])))))
  clear hF
  go_enter Tryd.func23, Tryd.ntmps23
  go_wp2
  exact form_end HB.out rfl rfl rfl rfl rfl HF.out (fun _ _ h => h)

set_option maxHeartbeats 3200000 in
set_option maxRecDepth 100000 in
theorem form_window (w : World) : Calls Tryd.prog 23 #[.string ⟨#[119, 105, 110, 100, 111, 119]⟩] w fun e w' => FormRes (tbl.find? (fun x => decide (x.word = [119, 105, 110, 100, 111, 119]))) w e w' := by
  have hF : Fr Nob w (w.alloc (.cells (formOf (tbl.find? (fun x => decide (x.word = [119, 105, 110, 100, 111, 119])))) 64)) := (Fr.refl _ _).alloc _
  have HF := Lib.hid hF
  have HB := Lib.hid (Blk.new w 64 (formOf (tbl.find? (fun x => decide (x.word = [119, 105, 110, 100, 111, 119])))))
  clear hF
  go_enter Tryd.func23, Tryd.ntmps23
  go_wp2
  exact form_end HB.out rfl rfl rfl rfl rfl HF.out (fun _ _ h => h)

set_option maxHeartbeats 3200000 in
set_option maxRecDepth 100000 in
theorem form_plan (w : World) : Calls Tryd.prog 23 #[.string ⟨#[112, 108, 97, 110]⟩] w fun e w' => FormRes (tbl.find? (fun x => decide (x.word = [112, 108, 97, 110]))) w e w' := by
  have hF : Fr Nob w (w.alloc (.cells (formOf (tbl.find? (fun x => decide (x.word = [112, 108, 97, 110])))) 64)) := (Fr.refl _ _).alloc _
  have HF := Lib.hid hF
  have HB := Lib.hid (Blk.new w 64 (formOf (tbl.find? (fun x => decide (x.word = [112, 108, 97, 110])))))
  clear hF
  go_enter Tryd.func23, Tryd.ntmps23
  go_wp2
  exact form_end HB.out rfl rfl rfl rfl rfl HF.out (fun _ _ h => h)

set_option maxHeartbeats 3200000 in
set_option maxRecDepth 100000 in
theorem form_check (w : World) : Calls Tryd.prog 23 #[.string ⟨#[99, 104, 101, 99, 107]⟩] w fun e w' => FormRes (tbl.find? (fun x => decide (x.word = [99, 104, 101, 99, 107]))) w e w' := by
  have hF : Fr Nob w (w.alloc (.cells (formOf (tbl.find? (fun x => decide (x.word = [99, 104, 101, 99, 107])))) 64)) := (Fr.refl _ _).alloc _
  have HF := Lib.hid hF
  have HB := Lib.hid (Blk.new w 64 (formOf (tbl.find? (fun x => decide (x.word = [99, 104, 101, 99, 107])))))
  clear hF
  go_enter Tryd.func23, Tryd.ntmps23
  go_wp2
  exact form_end HB.out rfl rfl rfl rfl rfl HF.out (fun _ _ h => h)

set_option maxHeartbeats 3200000 in
set_option maxRecDepth 100000 in
theorem form_count (w : World) : Calls Tryd.prog 23 #[.string ⟨#[99, 111, 117, 110, 116]⟩] w fun e w' => FormRes (tbl.find? (fun x => decide (x.word = [99, 111, 117, 110, 116]))) w e w' := by
  have hF : Fr Nob w (w.alloc (.cells (formOf (tbl.find? (fun x => decide (x.word = [99, 111, 117, 110, 116])))) 64)) := (Fr.refl _ _).alloc _
  have HF := Lib.hid hF
  have HB := Lib.hid (Blk.new w 64 (formOf (tbl.find? (fun x => decide (x.word = [99, 111, 117, 110, 116])))))
  clear hF
  go_enter Tryd.func23, Tryd.ntmps23
  go_wp2
  exact form_end HB.out rfl rfl rfl rfl rfl HF.out (fun _ _ h => h)

set_option maxHeartbeats 3200000 in
set_option maxRecDepth 100000 in
theorem form_none (l : List UInt8) (w : World) (h : ∀ x ∈ tbl, x.word ≠ l) : Calls Tryd.prog 23 #[.string (tx l)] w fun e w' => FormRes none w e w' := by
  have h0 : ((tx l).toList == [110, 111, 100, 101]) = false := by rw [beq_lit]; exact decide_eq_false (fun e => h tbl[0] (List.getElem_mem (by decide)) e.symm)
  have h1 : ((tx l).toList == [109, 111, 118, 101]) = false := by rw [beq_lit]; exact decide_eq_false (fun e => h tbl[1] (List.getElem_mem (by decide)) e.symm)
  have h2 : ((tx l).toList == [114, 101, 109, 110, 111, 100, 101]) = false := by rw [beq_lit]; exact decide_eq_false (fun e => h tbl[2] (List.getElem_mem (by decide)) e.symm)
  have h3 : ((tx l).toList == [101, 100, 103, 101]) = false := by rw [beq_lit]; exact decide_eq_false (fun e => h tbl[3] (List.getElem_mem (by decide)) e.symm)
  have h4 : ((tx l).toList == [110, 101, 119, 101, 100, 103, 101]) = false := by rw [beq_lit]; exact decide_eq_false (fun e => h tbl[4] (List.getElem_mem (by decide)) e.symm)
  have h5 : ((tx l).toList == [114, 101, 109, 101, 100, 103, 101]) = false := by rw [beq_lit]; exact decide_eq_false (fun e => h tbl[5] (List.getElem_mem (by decide)) e.symm)
  have h6 : ((tx l).toList == [110, 101, 119, 114, 101, 109]) = false := by rw [beq_lit]; exact decide_eq_false (fun e => h tbl[6] (List.getElem_mem (by decide)) e.symm)
  have h7 : ((tx l).toList == [99, 104, 97, 110, 103, 101]) = false := by rw [beq_lit]; exact decide_eq_false (fun e => h tbl[7] (List.getElem_mem (by decide)) e.symm)
  have h8 : ((tx l).toList == [115, 112, 108, 105, 116]) = false := by rw [beq_lit]; exact decide_eq_false (fun e => h tbl[8] (List.getElem_mem (by decide)) e.symm)
  have h9 : ((tx l).toList == [110, 101, 119, 115, 112, 108, 105, 116]) = false := by rw [beq_lit]; exact decide_eq_false (fun e => h tbl[9] (List.getElem_mem (by decide)) e.symm)
  have h10 : ((tx l).toList == [104, 101, 97, 108]) = false := by rw [beq_lit]; exact decide_eq_false (fun e => h tbl[10] (List.getElem_mem (by decide)) e.symm)
  have h11 : ((tx l).toList == [110, 101, 119, 104, 101, 97, 108]) = false := by rw [beq_lit]; exact decide_eq_false (fun e => h tbl[11] (List.getElem_mem (by decide)) e.symm)
  have h12 : ((tx l).toList == [98, 101, 103, 105, 110]) = false := by rw [beq_lit]; exact decide_eq_false (fun e => h tbl[12] (List.getElem_mem (by decide)) e.symm)
  have h13 : ((tx l).toList == [99, 111, 109, 109, 105, 116]) = false := by rw [beq_lit]; exact decide_eq_false (fun e => h tbl[13] (List.getElem_mem (by decide)) e.symm)
  have h14 : ((tx l).toList == [97, 98, 111, 114, 116]) = false := by rw [beq_lit]; exact decide_eq_false (fun e => h tbl[14] (List.getElem_mem (by decide)) e.symm)
  have h15 : ((tx l).toList == [115, 97, 118, 101]) = false := by rw [beq_lit]; exact decide_eq_false (fun e => h tbl[15] (List.getElem_mem (by decide)) e.symm)
  have h16 : ((tx l).toList == [98, 97, 99, 107]) = false := by rw [beq_lit]; exact decide_eq_false (fun e => h tbl[16] (List.getElem_mem (by decide)) e.symm)
  have h17 : ((tx l).toList == [97, 116]) = false := by rw [beq_lit]; exact decide_eq_false (fun e => h tbl[17] (List.getElem_mem (by decide)) e.symm)
  have h18 : ((tx l).toList == [114, 111, 117, 110, 100]) = false := by rw [beq_lit]; exact decide_eq_false (fun e => h tbl[18] (List.getElem_mem (by decide)) e.symm)
  have h19 : ((tx l).toList == [114, 105, 110, 103, 115]) = false := by rw [beq_lit]; exact decide_eq_false (fun e => h tbl[19] (List.getElem_mem (by decide)) e.symm)
  have h20 : ((tx l).toList == [119, 105, 110, 100, 111, 119]) = false := by rw [beq_lit]; exact decide_eq_false (fun e => h tbl[20] (List.getElem_mem (by decide)) e.symm)
  have h21 : ((tx l).toList == [112, 108, 97, 110]) = false := by rw [beq_lit]; exact decide_eq_false (fun e => h tbl[21] (List.getElem_mem (by decide)) e.symm)
  have h22 : ((tx l).toList == [99, 104, 101, 99, 107]) = false := by rw [beq_lit]; exact decide_eq_false (fun e => h tbl[22] (List.getElem_mem (by decide)) e.symm)
  have h23 : ((tx l).toList == [99, 111, 117, 110, 116]) = false := by rw [beq_lit]; exact decide_eq_false (fun e => h tbl[23] (List.getElem_mem (by decide)) e.symm)
  have hF : Fr Nob w (w.alloc (.cells (formOf none) 64)) := (Fr.refl _ _).alloc _
  have HF := Lib.hid hF
  have HB := Lib.hid (Blk.new w 64 (formOf none))
  clear hF h
  go_enter Tryd.func23, Tryd.ntmps23
  go_wp2
  exact form_end HB.out rfl rfl rfl rfl rfl HF.out (fun _ _ h => h)

theorem forms_any (l : List UInt8) (w : World) : Calls Tryd.prog 23 #[.string (tx l)] w fun e w' => FormRes (tbl.find? (fun x => decide (x.word = l))) w e w' := by
  cases hf : tbl.find? (fun x => decide (x.word = l)) with
  | none => exact form_none l w (fun x hx e => by have := List.find?_eq_none.1 hf x hx; exact this (decide_eq_true e))
  | some x =>
    have hm := List.mem_of_find?_eq_some hf
    have hp := List.find?_some hf
    have e : x.word = l := of_decide_eq_true hp
    subst e
    rw [← hf]
    clear hf hp
    simp only [tbl, List.mem_cons, List.not_mem_nil, or_false] at hm
    rcases hm with rfl | rfl | rfl | rfl | rfl | rfl | rfl | rfl | rfl | rfl | rfl | rfl | rfl | rfl | rfl | rfl | rfl | rfl | rfl | rfl | rfl | rfl | rfl | rfl
    · exact form_node w
    · exact form_move w
    · exact form_remnode w
    · exact form_edge w
    · exact form_newedge w
    · exact form_remedge w
    · exact form_newrem w
    · exact form_change w
    · exact form_split w
    · exact form_newsplit w
    · exact form_heal w
    · exact form_newheal w
    · exact form_begin w
    · exact form_commit w
    · exact form_abort w
    · exact form_save w
    · exact form_back w
    · exact form_at w
    · exact form_round w
    · exact form_rings w
    · exact form_window w
    · exact form_plan w
    · exact form_check w
    · exact form_count w
end Go.Proofs.YtidohbhcjnmmeaaDoor
