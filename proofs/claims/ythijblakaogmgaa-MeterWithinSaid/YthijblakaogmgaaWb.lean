/- Walks over package meter: Spend. -/
import Derived.Test.YthijblakaogmgaaWa
import Derived.RegionTactic
import Derived.ChangeAlike
import Derived.Deep.QuietTactic
import Derived.BigQuiet
import Derived.BigRegion
import Derived.Conc.EventLaws
namespace Go.Proofs.Ythijblakaogmgaa
open Go.Conc Go.RowKit

theorem spend_nil (n : Int) (w : World) : Calls Try.prog 10 #[.pointer none, .int .i64 n] w fun e w' => e = .returned (.bool true) ∧ w = w' := by
  by_cases hn : 0 ≤ n
  all_goals
    go_enter Try.func10, Try.ntmps10
    go_wp2
    go_ret
    exact ⟨rfl, rfl⟩

theorem spend_shut (n : Int) (w : World) {b c : Nat} {bud sp : Int} (h : MeterAt w b c bud sp true) :
    Calls Try.prog 10 #[.pointer (some ⟨b, 0, none⟩), .int .i64 n] w fun e w' => e = .returned (.bool false) ∧ w = w' := by
  have H := Lib.hid h
  clear h
  by_cases hn : 0 ≤ n
  all_goals
    go_enter Try.func10, Try.ntmps10
    go_wp2_with (go_at_call 12; refine (over_shut _ H.out).mono ?_; rintro e w' ⟨rfl, rfl⟩)
    go_ret
    exact ⟨rfl, rfl⟩

/-- What is asked for: nothing, if it is below 0. -/
def mN (n : Int) : Int := if n < 0 then 0 else n
/-- Behind an operation that writes what was spent. -/
def wrote (w : World) (b : Nat) (v : Int) : World := (w.setCell ⟨b, 1, none⟩ (.int .i64 v)).drew

set_option maxHeartbeats 400000 in
theorem spend_free (n : Int) (w : World) {b c : Nat} {bud sp : Int} (h : MeterAt w b c bud sp false) (hb : bud < 1) (h0 : 0 ≤ sp) (h1 : sp ≤ 4611686018427387904) :
    Calls Try.prog 10 #[.pointer (some ⟨b, 0, none⟩), .int .i64 n] w fun e w' => e = .returned (.bool true) ∧ w' = wrote w b (sp + min (mN n) (4611686018427387904 - sp)) := by
  have c0 := h.c0
  have c1 := h.c1
  have f1 := h.f1
  have H := Lib.hid h
  clear h
  by_cases hn : 0 ≤ n
  · by_cases hm : n ≤ 4611686018427387904 - sp
    · have K := Lib.hid (show sp + min (mN n) (4611686018427387904 - sp) = sp + n by unfold mN; rw [if_neg (by omega)]; omega)
      go_enter Try.func10, Try.ntmps10
      go_wp2_with (go_at_call 12; refine (over_open _ H.out).mono ?_; rintro e w' ⟨rfl, rfl⟩)
      go_region
      go_wp2
      go_ret
      exact ⟨rfl, by rw [K.out]; rfl⟩
    · have K := Lib.hid (show sp + min (mN n) (4611686018427387904 - sp) = sp + (4611686018427387904 - sp) by unfold mN; rw [if_neg (by omega)]; omega)
      go_enter Try.func10, Try.ntmps10
      go_wp2_with (go_at_call 12; refine (over_open _ H.out).mono ?_; rintro e w' ⟨rfl, rfl⟩)
      go_region
      go_wp2
      go_ret
      exact ⟨rfl, by rw [K.out]; rfl⟩
  · have K := Lib.hid (show sp + min (mN n) (4611686018427387904 - sp) = sp by unfold mN; rw [if_pos (by omega)]; omega)
    go_enter Try.func10, Try.ntmps10
    go_wp2_with (go_at_call 12; refine (over_open _ H.out).mono ?_; rintro e w' ⟨rfl, rfl⟩)
    go_region
    go_wp2
    go_ret
    exact ⟨rfl, by rw [K.out]; rfl⟩
set_option maxHeartbeats 400000 in
theorem spend_fits (n : Int) (w : World) {b c : Nat} {bud sp : Int} (h : MeterAt w b c bud sp false) (hb : 1 ≤ bud) (hu : bud ≤ 9223372036854775807) (hf : mN n ≤ bud - sp) (h0 : 0 ≤ sp) (h1 : sp ≤ 4611686018427387904) :
    Calls Try.prog 10 #[.pointer (some ⟨b, 0, none⟩), .int .i64 n] w fun e w' => e = .returned (.bool true) ∧ w' = (wrote w b (sp + min (mN n) (4611686018427387904 - sp))).drew := by
  have c0 := h.c0
  have c1 := h.c1
  have f1 := h.f1
  have H := Lib.hid h
  clear h
  by_cases hn : 0 ≤ n
  · by_cases hm : n ≤ 4611686018427387904 - sp
    · have K := Lib.hid (show sp + min (mN n) (4611686018427387904 - sp) = sp + n by unfold mN; rw [if_neg (by omega)]; omega)
      have hf2 : n ≤ bud - sp := by unfold mN at hf; split at hf <;> omega
      clear hf
      go_enter Try.func10, Try.ntmps10
      go_wp2_with (go_at_call 12; refine (over_open _ H.out).mono ?_; rintro e w' ⟨rfl, rfl⟩)
      go_region
      go_wp2
      go_region
      go_wp2
      go_ret
      exact ⟨rfl, by rw [K.out]; rfl⟩
    · have K := Lib.hid (show sp + min (mN n) (4611686018427387904 - sp) = sp + (4611686018427387904 - sp) by unfold mN; rw [if_neg (by omega)]; omega)
      have hf2 : n ≤ bud - sp := by unfold mN at hf; split at hf <;> omega
      clear hf
      go_enter Try.func10, Try.ntmps10
      go_wp2_with (go_at_call 12; refine (over_open _ H.out).mono ?_; rintro e w' ⟨rfl, rfl⟩)
      go_region
      go_wp2
      go_region
      go_wp2
      go_ret
      exact ⟨rfl, by rw [K.out]; rfl⟩
  · have K := Lib.hid (show sp + min (mN n) (4611686018427387904 - sp) = sp by unfold mN; rw [if_pos (by omega)]; omega)
    have hf2 : 0 ≤ bud - sp := by unfold mN at hf; split at hf <;> omega
    clear hf
    go_enter Try.func10, Try.ntmps10
    go_wp2_with (go_at_call 12; refine (over_open _ H.out).mono ?_; rintro e w' ⟨rfl, rfl⟩)
    go_region
    go_wp2
    go_region
    go_wp2
    go_ret
    exact ⟨rfl, by rw [K.out]; rfl⟩

/-- Behind the operation that closes the channel. -/
def shut (w : World) (c : Nat) : World := { w.drew with heap := w.heap.setIfInBounds c (.chan 0 #[] true 0 0 false) }

set_option maxHeartbeats 400000 in
theorem spend_over (n : Int) (w : World) {b c : Nat} {bud sp : Int} (h : MeterAt w b c bud sp false) (hb : 1 ≤ bud) (hu : bud ≤ 9223372036854775807) (hf : bud - sp < mN n) (h0 : 0 ≤ sp) (h1 : sp ≤ 4611686018427387904) :
    Calls Try.prog 10 #[.pointer (some ⟨b, 0, none⟩), .int .i64 n] w fun e w' => e = .returned (.bool false) ∧ w' = shut w c := by
  have c0 := h.c0
  have c1 := h.c1
  have c2 := h.c2
  have H := Lib.hid h
  have hcl := fun ats ty => run_close_open (P := Try.prog) (w := w.drew) ats ty h.chan
  clear h
  by_cases hn : 0 ≤ n
  · have hf2 : bud - sp < n := by unfold mN at hf; split at hf <;> omega
    clear hf
    go_enter Try.func10, Try.ntmps10
    go_wp2_with (go_at_call 12; refine (over_open _ H.out).mono ?_; rintro e w' ⟨rfl, rfl⟩)
    go_region
    go_wp2
    go_ret
    exact ⟨rfl, rfl⟩
  · have hf2 : bud - sp < 0 := by unfold mN at hf; split at hf <;> omega
    clear hf
    go_enter Try.func10, Try.ntmps10
    go_wp2_with (go_at_call 12; refine (over_open _ H.out).mono ?_; rintro e w' ⟨rfl, rfl⟩)
    go_region
    go_wp2
    go_ret
    exact ⟨rfl, rfl⟩

/-- All blocks but two are as they were. -/
structure Kept (b c : Nat) (w w' : World) : Prop where
  os : w'.os = w.os
  tape : w'.tape = w.tape
  output : w'.output = w.output
  size : w'.heap.size = w.heap.size
  block : ∀ k, k ≠ b → k ≠ c → w'.heap[k]? = w.heap[k]?

theorem Kept.refl (b c : Nat) (w : World) : Kept b c w w := ⟨rfl, rfl, rfl, rfl, fun _ _ _ => rfl⟩
theorem Kept.trans {b c : Nat} {x y z : World} (h : Kept b c x y) (k : Kept b c y z) : Kept b c x z := ⟨k.os.trans h.os, k.tape.trans h.tape, k.output.trans h.output, k.size.trans h.size, fun i h1 h2 => (k.block i h1 h2).trans (h.block i h1 h2)⟩
theorem Kept.below {b c B : Nat} {x y : World} (h : Kept b c x y) (hb : B ≤ b) (hc : B ≤ c) : Below B x y := ⟨h.os, h.tape, h.output, by rw [h.size]; omega, fun k hk => h.block k (by omega) (by omega)⟩
theorem Kept.meter {b c b' c' : Nat} {x y : World} {bud sp : Int} {ov : Bool} (h : Kept b c x y) (m : MeterAt x b' c' bud sp ov) (h1 : b' ≠ b) (h2 : b' ≠ c) (h3 : c' ≠ b) (h4 : c' ≠ c) : MeterAt y b' c' bud sp ov :=
  ⟨(h.block _ h1 h2).trans m.row, (h.block _ h3 h4).trans m.chan⟩
theorem Below.meter {B b c : Nat} {x y : World} {bud sp : Int} {ov : Bool} (h : Below B x y) (m : MeterAt x b c bud sp ov) (hb : b < B) (hc : c < B) : MeterAt y b c bud sp ov :=
  ⟨(h.block _ hb).trans m.row, (h.block _ hc).trans m.chan⟩

theorem MeterAt.ne {w : World} {b c : Nat} {bud sp : Int} {ov : Bool} (h : MeterAt w b c bud sp ov) : b ≠ c := by
  rintro rfl
  have := h.row.symm.trans h.chan
  simp at this
theorem MeterAt.ltb {w : World} {b c : Nat} {bud sp : Int} {ov : Bool} (h : MeterAt w b c bud sp ov) : b < w.heap.size := (Array.getElem?_eq_some_iff.1 h.row).1
theorem MeterAt.ltc {w : World} {b c : Nat} {bud sp : Int} {ov : Bool} (h : MeterAt w b c bud sp ov) : c < w.heap.size := (Array.getElem?_eq_some_iff.1 h.chan).1

theorem wrote_meter {w : World} {b c : Nat} {bud sp : Int} {ov : Bool} (h : MeterAt w b c bud sp ov) (v : Int) : MeterAt (wrote w b v) b c bud v ov := by
  constructor
  · simp [wrote, World.setCell, World.drew, Array.getElem?_modify, h.row]
  · simp only [wrote, World.setCell, World.drew, Array.getElem?_modify, if_neg h.ne, h.chan]
theorem wrote_kept {w : World} {b : Nat} (c : Nat) (v : Int) : Kept b c w (wrote w b v) := by
  refine ⟨rfl, rfl, rfl, by simp [wrote, World.setCell, World.drew], fun k h1 _ => ?_⟩
  simp only [wrote, World.setCell, World.drew, Array.getElem?_modify]
  rw [if_neg (fun e => h1 e.symm)]
theorem drew_meter {w : World} {b c : Nat} {bud sp : Int} {ov : Bool} (h : MeterAt w b c bud sp ov) : MeterAt w.drew b c bud sp ov := ⟨h.row, h.chan⟩
theorem Kept.drew {b c : Nat} {x y : World} (h : Kept b c x y) : Kept b c x y.drew := ⟨h.os, h.tape, h.output, h.size, h.block⟩
theorem shut_meter {w : World} {b c : Nat} {bud sp : Int} {ov : Bool} (h : MeterAt w b c bud sp ov) : MeterAt (shut w c) b c bud sp true := by
  constructor
  · simp only [shut, Array.getElem?_setIfInBounds, if_neg h.ne.symm, h.row]
  · simp [shut, h.ltc]
theorem shut_kept {w : World} (b : Nat) {c : Nat} : Kept b c w (shut w c) := by
  refine ⟨rfl, rfl, rfl, by simp [shut], fun k _ h2 => ?_⟩
  simp only [shut, Array.getElem?_setIfInBounds]
  rw [if_neg (fun e => h2 e.symm)]

/-- What is answered. -/
def mAns (bud sp : Int) (ov : Bool) (n : Int) : Bool := if ov then false else if bud < 1 then true else decide (mN n ≤ bud - sp)
/-- What was spent, then. -/
def mSp (bud sp : Int) (ov : Bool) (n : Int) : Int := if mAns bud sp ov n then sp + min (mN n) (4611686018427387904 - sp) else sp
/-- Is it over, then? -/
def mOv (bud sp : Int) (ov : Bool) (n : Int) : Bool := !mAns bud sp ov n

theorem spend_any (n : Int) (w : World) {b c : Nat} {bud sp : Int} {ov : Bool} (h : MeterAt w b c bud sp ov) (hu : bud ≤ 9223372036854775807) (h0 : 0 ≤ sp) (h1 : sp ≤ 4611686018427387904) :
    Calls Try.prog 10 #[.pointer (some ⟨b, 0, none⟩), .int .i64 n] w fun e w' => e = .returned (.bool (mAns bud sp ov n)) ∧ MeterAt w' b c bud (mSp bud sp ov n) (mOv bud sp ov n) ∧ Kept b c w w' := by
  cases ov with
  | true =>
    refine (spend_shut n w h).mono ?_
    rintro e w' ⟨rfl, rfl⟩
    exact ⟨by simp [mAns], by simpa [mSp, mOv, mAns] using h, Kept.refl _ _ _⟩
  | false =>
    by_cases hb : bud < 1
    · refine (spend_free n w h hb h0 h1).mono ?_
      rintro e w' ⟨rfl, rfl⟩
      have ea : mAns bud sp false n = true := by simp [mAns, hb]
      exact ⟨by rw [ea], by simpa only [mSp, mOv, ea, if_true, Bool.not_true] using wrote_meter h _, wrote_kept _ _⟩
    · by_cases hf : mN n ≤ bud - sp
      · refine (spend_fits n w h (by omega) hu hf h0 h1).mono ?_
        rintro e w' ⟨rfl, rfl⟩
        have ea : mAns bud sp false n = true := by simp [mAns, hb, hf]
        exact ⟨by rw [ea], by simpa only [mSp, mOv, ea, if_true, Bool.not_true] using drew_meter (wrote_meter h _), (wrote_kept _ _).drew⟩
      · refine (spend_over n w h (by omega) hu (by omega) h0 h1).mono ?_
        rintro e w' ⟨rfl, rfl⟩
        have ea : mAns bud sp false n = false := by simp [mAns, hb, hf]
        exact ⟨by rw [ea], by simpa only [mSp, mOv, ea, Bool.false_eq_true, if_false, Bool.not_false] using shut_meter h, shut_kept _⟩

theorem made_meter (w : World) (bud : Int) : MeterAt (made w bud) (w.heap.size + 1) w.heap.size bud 0 false := by
  constructor
  · unfold made
    have := heap_alloc_new (w.alloc (.chan 0 #[] false 0 0 false)) (.cells #[.int .i64 bud, .int .i64 0, .chan (some w.heap.size)] 36 (0,0))
    simpa only [World.size_alloc] using this
  · unfold made
    rw [Below.heap_alloc _ _ _ (by simp)]
    exact heap_alloc_new w _
theorem made_below (w : World) (bud : Int) : Below w.heap.size w (made w bud) := ((Below.refl _ _).alloc (Nat.le_refl _) _).alloc (by simp) _
theorem over_any (w : World) {b c : Nat} {bud sp : Int} {ov : Bool} (h : MeterAt w b c bud sp ov) : Calls Try.prog 12 #[.pointer (some ⟨b, 0, none⟩)] w fun e w' => e = .returned (.bool ov) ∧ w = w' := by
  cases ov with
  | true => exact over_shut w h
  | false => exact over_open w h
end Go.Proofs.Ythijblakaogmgaa
