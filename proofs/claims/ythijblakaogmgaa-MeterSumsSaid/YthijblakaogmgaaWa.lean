/- Walks over package meter. -/
import Derived.Test.YthijblakaogmgaaChecked
import Derived.WalkKit
import Derived.WalkSpells
import Derived.WalkLawsBesides
import Derived.Conc.LoneCalls
import Derived.Conc.LoneSelect
import Derived.KernelRfl
import Derived.Outline
import Derived.Lib.Hide
namespace Go.Proofs.Ythijblakaogmgaa
open Go.Conc Go.RowKit

theorem info37 : ∃ i, Try.prog.info? 37 = some i ∧ i.bytes = 0 := by
  have h : (Try.prog.info? 37).map (·.bytes) = some 0 := by kernel_rfl
  obtain ⟨i, hi, hb⟩ := Option.map_eq_some_iff.1 h
  exact ⟨i, hi, hb⟩
theorem mk0 (w : World) : (Instr.makeChan 34 (.int .i64 0)).run Try.prog w = .ok (.chan (some w.heap.size)) (w.alloc (.chan 0 #[] false 0 0 false)) := by
  obtain ⟨i, hi, hb⟩ := info37
  simpa using run_makeChan (P := Try.prog) (w := w) Try.underlying34 hi .i64 0 (by omega) (by rw [hb]; omega)

/-- The world behind 'New'. -/
def made (w : World) (b : Int) : World := (w.alloc (.chan 0 #[] false 0 0 false)).alloc (.cells #[.int .i64 b, .int .i64 0, .chan (some w.heap.size)] 36 (0,0))

set_option maxHeartbeats 400000 in
theorem new_any (b : Int) (w : World) : Calls Try.prog 9 #[.int .i64 b] w fun e w' => e = .returned (.pointer (some ⟨w.heap.size + 1, 0, none⟩)) ∧ w' = made w b := by
  have hmc := mk0
  go_enter Try.func9, Try.ntmps9
  go_wp2
  go_ret
  exact ⟨rfl, rfl⟩

/-- A meter: its struct in block b, its channel in block c. -/
structure MeterAt (w : World) (b c : Nat) (bud sp : Int) (ov : Bool) : Prop where
  row : w.heap[b]? = some (.cells #[.int .i64 bud, .int .i64 sp, .chan (some c)] 36 (0,0))
  chan : w.heap[c]? = some (.chan 0 #[] ov 0 0 false)

theorem MeterAt.c0 {w : World} {b c : Nat} {bud sp : Int} {ov : Bool} (h : MeterAt w b c bud sp ov) : w.cell? ⟨b, 0, none⟩ = some (.int .i64 bud) := by simp [World.cell?, h.row]
theorem MeterAt.c1 {w : World} {b c : Nat} {bud sp : Int} {ov : Bool} (h : MeterAt w b c bud sp ov) : w.cell? ⟨b, 1, none⟩ = some (.int .i64 sp) := by simp [World.cell?, h.row]
theorem MeterAt.c2 {w : World} {b c : Nat} {bud sp : Int} {ov : Bool} (h : MeterAt w b c bud sp ov) : w.cell? ⟨b, 2, none⟩ = some (.chan (some c)) := by simp [World.cell?, h.row]
theorem MeterAt.f1 {w : World} {b c : Nat} {bud sp : Int} {ov : Bool} (h : MeterAt w b c bud sp ov) : w.frozen? ⟨b, 1, none⟩ = false := by simp [World.frozen?, h.row]

theorem spent_any (w : World) {b c : Nat} {bud sp : Int} {ov : Bool} (h : MeterAt w b c bud sp ov) : Calls Try.prog 13 #[.pointer (some ⟨b, 0, none⟩)] w fun e w' => e = .returned (.int .i64 sp) ∧ w = w' := by
  have c1 := h.c1
  clear h
  go_enter Try.func13, Try.ntmps13
  go_wp2
  go_ret
  exact ⟨rfl, rfl⟩
theorem spent_nil (w : World) : Calls Try.prog 13 #[.pointer none] w fun e w' => e = .returned (.int .i64 0) ∧ w = w' := by
  go_enter Try.func13, Try.ntmps13
  go_wp2
  go_ret
  exact ⟨rfl, rfl⟩
theorem over_nil (w : World) : Calls Try.prog 12 #[.pointer none] w fun e w' => e = .returned (.bool false) ∧ w = w' := by
  go_enter Try.func12, Try.ntmps12
  go_wp2
  go_ret
  exact ⟨rfl, rfl⟩

set_option maxRecDepth 100000 in
theorem over_open (w : World) {b c : Nat} {bud sp : Int} (h : MeterAt w b c bud sp false) : Calls Try.prog 12 #[.pointer (some ⟨b, 0, none⟩)] w fun e w' => e = .returned (.bool false) ∧ w = w' := by
  have c2 := h.c2
  have H := Lib.hid h.chan
  clear h
  refine calls_of_loneTo fun cs => ?_
  have e : Frame.enter Try.prog 12 #[.pointer (some ⟨b, 0, none⟩)] .normal = (base 12).at ⟨#[.pointer (some ⟨b, 0, none⟩), undef, undef, undef, undef, undef, undef, undef, undef, undef, undef, undef], []⟩ [.code (Try.f12.body.getD .skip)] := by
    simp [Frame.enter, Frame.at, Try.func12, base, Try.f12]
  rw [e]
  refine LoneTo.goes (n := 40) ?_
  simp only [Try.f12, Option.getD_some]
  s_c stepG_seq
  s_reg
  s_op
  s_c stepG_region_end
  s_c stepG_seq
  s_c stepG_seq
  s_reg
  s_op
  s_op
  s_c stepG_region_end
  s_cond false
  s_c stepG_skip
  s_c stepG_seq
  s_reg
  s_op
  s_op
  s_op
  s_op
  s_c stepG_region_end
  s_c stepG_seq
  s_reg
  s_stop
  refine LoneTo.step (step_lone_select_default (c := c) (cap := 0) (s := 0) (r := 0) (tm := false) (z := .agg #[])
    (stepG_comm (cases := #[rcase c (.agg #[])]) (blocking := false) (shape := .select) (w' := w) rfl rfl (by decide) (by simp [go_sem, execOp, rcase, Act.eval]))
    H.out) ?_
  rw [Frame.finish_at]
  walk_nrm
  refine LoneTo.goes (n := 19) ?_
  s_op
  s_op
  s_c stepG_region_end
  s_c stepG_block
  s_cond false
  s_c stepG_seq
  s_reg
  s_op
  s_c stepG_region_end
  s_c stepG_ret'
  s_stop
  refine LoneTo.done ⟨.returned (.bool false), _, rfl, ⟨rfl, rfl⟩, rfl, rfl, rfl, rfl, _, Try.func12, by simp [results, Try.f12, Frame.at]⟩

set_option maxRecDepth 100000 in
theorem over_shut (w : World) {b c : Nat} {bud sp : Int} (h : MeterAt w b c bud sp true) : Calls Try.prog 12 #[.pointer (some ⟨b, 0, none⟩)] w fun e w' => e = .returned (.bool true) ∧ w = w' := by
  have c2 := h.c2
  have H := Lib.hid h.chan
  clear h
  refine calls_of_loneTo fun cs => ?_
  have e : Frame.enter Try.prog 12 #[.pointer (some ⟨b, 0, none⟩)] .normal = (base 12).at ⟨#[.pointer (some ⟨b, 0, none⟩), undef, undef, undef, undef, undef, undef, undef, undef, undef, undef, undef], []⟩ [.code (Try.f12.body.getD .skip)] := by
    simp [Frame.enter, Frame.at, Try.func12, base, Try.f12]
  rw [e]
  refine LoneTo.goes (n := 40) ?_
  simp only [Try.f12, Option.getD_some]
  s_c stepG_seq
  s_reg
  s_op
  s_c stepG_region_end
  s_c stepG_seq
  s_c stepG_seq
  s_reg
  s_op
  s_op
  s_c stepG_region_end
  s_cond false
  s_c stepG_skip
  s_c stepG_seq
  s_reg
  s_op
  s_op
  s_op
  s_op
  s_c stepG_region_end
  s_c stepG_seq
  s_reg
  s_stop
  refine LoneTo.step (step_lone_select_recv_shut (c := c) (cap := 0) (s := 0) (r := 0) (tm := false) (z := .agg #[])
    (stepG_comm (cases := #[rcase c (.agg #[])]) (blocking := false) (shape := .select) (w' := w) rfl rfl (by decide) (by simp [go_sem, execOp, rcase, Act.eval]))
    H.out) ?_
  rw [Frame.finish_at]
  walk_nrm
  refine LoneTo.goes (n := 19) ?_
  s_op
  s_op
  s_c stepG_region_end
  s_c stepG_block
  s_cond true
  s_c stepG_seq
  s_reg
  s_op
  s_c stepG_region_end
  s_c stepG_ret'
  s_stop
  refine LoneTo.done ⟨.returned (.bool true), _, rfl, ⟨rfl, rfl⟩, rfl, rfl, rfl, rfl, _, Try.func12, by simp [results, Try.f12, Frame.at]⟩
end Go.Proofs.Ythijblakaogmgaa
