/- The walk of RunsFirst. -/
import Derived.Test.YtdjapppfjpgidaaPc
import Derived.Test.YtdjapppfjpgidaaLa
namespace Go.Proofs.Ytdjapppfjpgidaa
open Go.RowKit
set_option linter.unusedVariables false

set_option maxHeartbeats 4000000 in
theorem first_w_neg {w : World} {P Q : Nat → Prop} {aa ab : Option Addr} {ca cb : Nat} {a b : List Run} (ha : Rr w P (.slice aa a.length ca) a) (hb : Rr w Q (.slice ab b.length cb) b) (i : Int) (hi9 : -9223372036854775808 ≤ i ∧ i ≤ 9223372036854775807) (la : a.length ≤ 300) (lb : b.length ≤ 300) (ma : May a) (mb : May b) (h0 : indexR a b i < 0) (h1 : i < 0) :
    Calls Try.prog 4 #[.slice aa a.length ca, .slice ab b.length cb, .int .i64 i] w fun e w' => e = .returned (.bool true) ∧ Below w.heap.size w w' := by
  have HA := Lib.hid ha
  have HB := Lib.hid hb
  have HB0 : Hid (Below w.heap.size w w) := Below.refl _ _
  have MA : Hid (∀ w1, Below w.heap.size w w1 → Calls Try.prog 16 #[.slice aa a.length ca] w1 fun e w' => e = .returned (.bool true) ∧ Below w1.heap.size w1 w') := fun w1 h => by
    have := may_any (HA.out.below h); rwa [may_iff.2 ma] at this
  have MB : Hid (∀ w1, Below w.heap.size w w1 → Calls Try.prog 16 #[.slice ab b.length cb] w1 fun e w' => e = .returned (.bool true) ∧ Below w1.heap.size w1 w') := fun w1 h => by
    have := may_any (HB.out.below h); rwa [may_iff.2 mb] at this
  have LA : Hid (∀ w1, Below w.heap.size w w1 → Calls Try.prog 18 #[.slice aa a.length ca] w1 fun e w' => e = .returned (.int .i64 (sz a)) ∧ Below w1.heap.size w1 w') := fun w1 h => by
    have := len_any (HA.out.below h); rwa [len_may ma] at this
  have LB : Hid (∀ w1, Below w.heap.size w w1 → Calls Try.prog 18 #[.slice ab b.length cb] w1 fun e w' => e = .returned (.int .i64 (sz b)) ∧ Below w1.heap.size w1 w') := fun w1 h => by
    have := len_any (HB.out.below h); rwa [len_may mb] at this
  have da : decide ((300 : Int) < (a.length : Int)) = false := by simp; omega
  have db : decide ((300 : Int) < (b.length : Int)) = false := by simp; omega
  have IX := Lib.hid fun (w1 : World) (h : Below w.heap.size w w1) => index_call (HA.out.below h) (HB.out.below h) i
  have za := ma.size
  have IX : Hid (∀ w1, Below w.heap.size w w1 → Calls Try.prog 20 #[.slice aa a.length ca, .slice ab b.length cb, .int .i64 i] w1 fun e w' => e = .returned (.int .i64 (-1)) ∧ Below w1.heap.size w1 w') := fun w1 h => by
    have := IX.out w1 h; rwa [first_any ma mb h0] at this
  obtain ⟨i1, w1⟩ : ∃ i1, IntKind.i64.wrap (i + 1) = i1 := ⟨_, rfl⟩
  have I2 := Lib.hid fun (w1 : World) (h : Below w.heap.size w w1) => index_call (HA.out.below h) (HB.out.below h) i1
  generalize indexR a b i1 = L at *
  clear ha hb ma mb h0
  generalize sz a = A at *
  generalize sz b = B at *
  have e1 : decide (i < 0) = true := by simpa using h1
  clear la lb za h1 hi9
  go_enter Try.func4, Try.ntmps4
  go_wp2_with fail
  refine (awake_any _).mono ?_
  rintro e w1 ⟨rfl, hb⟩
  have HB1 := Lib.hid (HB0.out.trans (hb.mono HB0.out.size))
  clear hb HB0
  go_wp2_with fail
  refine (MA.out _ HB1.out).mono ?_
  rintro e w2 ⟨rfl, hb⟩
  have HB2 := Lib.hid (HB1.out.trans (hb.mono HB1.out.size))
  clear hb HB1
  go_wp2_with fail
  refine (MB.out _ HB2.out).mono ?_
  rintro e w3 ⟨rfl, hb⟩
  have HB3 := Lib.hid (HB2.out.trans (hb.mono HB2.out.size))
  clear hb HB2
  go_wp2_with fail
  refine (LB.out _ HB3.out).mono ?_
  rintro e w4 ⟨rfl, hb⟩
  have HB4 := Lib.hid (HB3.out.trans (hb.mono HB3.out.size))
  clear hb HB3
  go_wp2_with fail
  refine (IX.out _ HB4.out).mono ?_
  rintro e w5 ⟨rfl, hb⟩
  have HB5 := Lib.hid (HB4.out.trans (hb.mono HB4.out.size))
  clear hb HB4
  go_wp2_with fail
  refine (I2.out _ HB5.out).mono ?_
  rintro e w6 ⟨rfl, hb⟩
  have HB6 := Lib.hid (HB5.out.trans (hb.mono HB5.out.size))
  clear hb HB5
  go_wp2_with fail
  go_ret
  exact ⟨rfl, HB6.out⟩

set_option maxHeartbeats 4000000 in
theorem first_w_far {w : World} {P Q : Nat → Prop} {aa ab : Option Addr} {ca cb : Nat} {a b : List Run} (ha : Rr w P (.slice aa a.length ca) a) (hb : Rr w Q (.slice ab b.length cb) b) (i : Int) (hi9 : -9223372036854775808 ≤ i ∧ i ≤ 9223372036854775807) (la : a.length ≤ 300) (lb : b.length ≤ 300) (ma : May a) (mb : May b) (h0 : indexR a b i < 0) (h1 : 0 ≤ i) (h2 : sz a ≤ i) :
    Calls Try.prog 4 #[.slice aa a.length ca, .slice ab b.length cb, .int .i64 i] w fun e w' => e = .returned (.bool true) ∧ Below w.heap.size w w' := by
  have HA := Lib.hid ha
  have HB := Lib.hid hb
  have HB0 : Hid (Below w.heap.size w w) := Below.refl _ _
  have MA : Hid (∀ w1, Below w.heap.size w w1 → Calls Try.prog 16 #[.slice aa a.length ca] w1 fun e w' => e = .returned (.bool true) ∧ Below w1.heap.size w1 w') := fun w1 h => by
    have := may_any (HA.out.below h); rwa [may_iff.2 ma] at this
  have MB : Hid (∀ w1, Below w.heap.size w w1 → Calls Try.prog 16 #[.slice ab b.length cb] w1 fun e w' => e = .returned (.bool true) ∧ Below w1.heap.size w1 w') := fun w1 h => by
    have := may_any (HB.out.below h); rwa [may_iff.2 mb] at this
  have LA : Hid (∀ w1, Below w.heap.size w w1 → Calls Try.prog 18 #[.slice aa a.length ca] w1 fun e w' => e = .returned (.int .i64 (sz a)) ∧ Below w1.heap.size w1 w') := fun w1 h => by
    have := len_any (HA.out.below h); rwa [len_may ma] at this
  have LB : Hid (∀ w1, Below w.heap.size w w1 → Calls Try.prog 18 #[.slice ab b.length cb] w1 fun e w' => e = .returned (.int .i64 (sz b)) ∧ Below w1.heap.size w1 w') := fun w1 h => by
    have := len_any (HB.out.below h); rwa [len_may mb] at this
  have da : decide ((300 : Int) < (a.length : Int)) = false := by simp; omega
  have db : decide ((300 : Int) < (b.length : Int)) = false := by simp; omega
  have IX := Lib.hid fun (w1 : World) (h : Below w.heap.size w w1) => index_call (HA.out.below h) (HB.out.below h) i
  have za := ma.size
  have IX : Hid (∀ w1, Below w.heap.size w w1 → Calls Try.prog 20 #[.slice aa a.length ca, .slice ab b.length cb, .int .i64 i] w1 fun e w' => e = .returned (.int .i64 (-1)) ∧ Below w1.heap.size w1 w') := fun w1 h => by
    have := IX.out w1 h; rwa [first_any ma mb h0] at this
  obtain ⟨i1, w1⟩ : ∃ i1, IntKind.i64.wrap (i + 1) = i1 := ⟨_, rfl⟩
  have I2 := Lib.hid fun (w1 : World) (h : Below w.heap.size w w1) => index_call (HA.out.below h) (HB.out.below h) i1
  generalize indexR a b i1 = L at *
  clear ha hb ma mb h0
  generalize sz a = A at *
  generalize sz b = B at *
  have e1 : decide (i < 0) = false := by simpa using h1
  have e2 : decide (A ≤ i) = true := by simpa using h2
  clear la lb za h1 hi9 h2
  go_enter Try.func4, Try.ntmps4
  go_wp2_with fail
  refine (awake_any _).mono ?_
  rintro e w1 ⟨rfl, hb⟩
  have HB1 := Lib.hid (HB0.out.trans (hb.mono HB0.out.size))
  clear hb HB0
  go_wp2_with fail
  refine (MA.out _ HB1.out).mono ?_
  rintro e w2 ⟨rfl, hb⟩
  have HB2 := Lib.hid (HB1.out.trans (hb.mono HB1.out.size))
  clear hb HB1
  go_wp2_with fail
  refine (MB.out _ HB2.out).mono ?_
  rintro e w3 ⟨rfl, hb⟩
  have HB3 := Lib.hid (HB2.out.trans (hb.mono HB2.out.size))
  clear hb HB2
  go_wp2_with fail
  refine (LB.out _ HB3.out).mono ?_
  rintro e w4 ⟨rfl, hb⟩
  have HB4 := Lib.hid (HB3.out.trans (hb.mono HB3.out.size))
  clear hb HB3
  go_wp2_with fail
  refine (IX.out _ HB4.out).mono ?_
  rintro e w5 ⟨rfl, hb⟩
  have HB5 := Lib.hid (HB4.out.trans (hb.mono HB4.out.size))
  clear hb HB4
  go_wp2_with fail
  refine (I2.out _ HB5.out).mono ?_
  rintro e w6 ⟨rfl, hb⟩
  have HB6 := Lib.hid (HB5.out.trans (hb.mono HB5.out.size))
  clear hb HB5
  go_wp2_with fail
  refine (LA.out _ HB6.out).mono ?_
  rintro e w7 ⟨rfl, hb⟩
  have HB7 := Lib.hid (HB6.out.trans (hb.mono HB6.out.size))
  clear hb HB6
  go_wp2_with fail
  go_ret
  exact ⟨rfl, HB7.out⟩

set_option maxHeartbeats 4000000 in
theorem first_w_late {w : World} {P Q : Nat → Prop} {aa ab : Option Addr} {ca cb : Nat} {a b : List Run} (ha : Rr w P (.slice aa a.length ca) a) (hb : Rr w Q (.slice ab b.length cb) b) (i : Int) (hi9 : -9223372036854775808 ≤ i ∧ i ≤ 9223372036854775807) (la : a.length ≤ 300) (lb : b.length ≤ 300) (ma : May a) (mb : May b) (h0 : indexR a b i < 0) (h1 : 0 ≤ i) (h2 : i < sz a) :
    Calls Try.prog 4 #[.slice aa a.length ca, .slice ab b.length cb, .int .i64 i] w fun e w' => e = .returned (.bool true) ∧ Below w.heap.size w w' := by
  have HA := Lib.hid ha
  have HB := Lib.hid hb
  have HB0 : Hid (Below w.heap.size w w) := Below.refl _ _
  have MA : Hid (∀ w1, Below w.heap.size w w1 → Calls Try.prog 16 #[.slice aa a.length ca] w1 fun e w' => e = .returned (.bool true) ∧ Below w1.heap.size w1 w') := fun w1 h => by
    have := may_any (HA.out.below h); rwa [may_iff.2 ma] at this
  have MB : Hid (∀ w1, Below w.heap.size w w1 → Calls Try.prog 16 #[.slice ab b.length cb] w1 fun e w' => e = .returned (.bool true) ∧ Below w1.heap.size w1 w') := fun w1 h => by
    have := may_any (HB.out.below h); rwa [may_iff.2 mb] at this
  have LA : Hid (∀ w1, Below w.heap.size w w1 → Calls Try.prog 18 #[.slice aa a.length ca] w1 fun e w' => e = .returned (.int .i64 (sz a)) ∧ Below w1.heap.size w1 w') := fun w1 h => by
    have := len_any (HA.out.below h); rwa [len_may ma] at this
  have LB : Hid (∀ w1, Below w.heap.size w w1 → Calls Try.prog 18 #[.slice ab b.length cb] w1 fun e w' => e = .returned (.int .i64 (sz b)) ∧ Below w1.heap.size w1 w') := fun w1 h => by
    have := len_any (HB.out.below h); rwa [len_may mb] at this
  have da : decide ((300 : Int) < (a.length : Int)) = false := by simp; omega
  have db : decide ((300 : Int) < (b.length : Int)) = false := by simp; omega
  have IX := Lib.hid fun (w1 : World) (h : Below w.heap.size w w1) => index_call (HA.out.below h) (HB.out.below h) i
  have za := ma.size
  have IX : Hid (∀ w1, Below w.heap.size w w1 → Calls Try.prog 20 #[.slice aa a.length ca, .slice ab b.length cb, .int .i64 i] w1 fun e w' => e = .returned (.int .i64 (-1)) ∧ Below w1.heap.size w1 w') := fun w1 h => by
    have := IX.out w1 h; rwa [first_any ma mb h0] at this
  have w1 : IntKind.i64.wrap (i + 1) = i + 1 := IntWalk.i64_in _ (by omega)
  have I2 : Hid (∀ w1, Below w.heap.size w w1 → Calls Try.prog 20 #[.slice aa a.length ca, .slice ab b.length cb, .int .i64 (i + 1)] w1 fun e w' => e = .returned (.int .i64 (-1)) ∧ Below w1.heap.size w1 w') := fun w1 h => by
    have := index_call (HA.out.below h) (HB.out.below h) (i + 1); rwa [(first_late ma mb h1 h0).2] at this
  clear ha hb ma mb h0
  generalize sz a = A at *
  generalize sz b = B at *
  have e1 : decide (i < 0) = false := by simpa using h1
  have e2 : decide (A ≤ i) = false := by simpa using h2
  clear la lb za h1 hi9 h2
  go_enter Try.func4, Try.ntmps4
  go_wp2_with fail
  refine (awake_any _).mono ?_
  rintro e w1 ⟨rfl, hb⟩
  have HB1 := Lib.hid (HB0.out.trans (hb.mono HB0.out.size))
  clear hb HB0
  go_wp2_with fail
  refine (MA.out _ HB1.out).mono ?_
  rintro e w2 ⟨rfl, hb⟩
  have HB2 := Lib.hid (HB1.out.trans (hb.mono HB1.out.size))
  clear hb HB1
  go_wp2_with fail
  refine (MB.out _ HB2.out).mono ?_
  rintro e w3 ⟨rfl, hb⟩
  have HB3 := Lib.hid (HB2.out.trans (hb.mono HB2.out.size))
  clear hb HB2
  go_wp2_with fail
  refine (LB.out _ HB3.out).mono ?_
  rintro e w4 ⟨rfl, hb⟩
  have HB4 := Lib.hid (HB3.out.trans (hb.mono HB3.out.size))
  clear hb HB3
  go_wp2_with fail
  refine (IX.out _ HB4.out).mono ?_
  rintro e w5 ⟨rfl, hb⟩
  have HB5 := Lib.hid (HB4.out.trans (hb.mono HB4.out.size))
  clear hb HB4
  go_wp2_with fail
  refine (I2.out _ HB5.out).mono ?_
  rintro e w6 ⟨rfl, hb⟩
  have HB6 := Lib.hid (HB5.out.trans (hb.mono HB5.out.size))
  clear hb HB5
  go_wp2_with fail
  refine (LA.out _ HB6.out).mono ?_
  rintro e w7 ⟨rfl, hb⟩
  have HB7 := Lib.hid (HB6.out.trans (hb.mono HB6.out.size))
  clear hb HB6
  go_wp2_with fail
  go_ret
  exact ⟨rfl, HB7.out⟩

set_option maxHeartbeats 4000000 in
theorem first_w_none {w : World} {P Q : Nat → Prop} {aa ab : Option Addr} {ca cb : Nat} {a b : List Run} (ha : Rr w P (.slice aa a.length ca) a) (hb : Rr w Q (.slice ab b.length cb) b) (i : Int) (hi9 : -9223372036854775808 ≤ i ∧ i ≤ 9223372036854775807) (la : a.length ≤ 300) (lb : b.length ≤ 300) (ma : May a) (mb : May b) (h0 : 0 ≤ indexR a b i) (h1 : sz b = 0) :
    Calls Try.prog 4 #[.slice aa a.length ca, .slice ab b.length cb, .int .i64 i] w fun e w' => e = .returned (.bool true) ∧ Below w.heap.size w w' := by
  have HA := Lib.hid ha
  have HB := Lib.hid hb
  have HB0 : Hid (Below w.heap.size w w) := Below.refl _ _
  have MA : Hid (∀ w1, Below w.heap.size w w1 → Calls Try.prog 16 #[.slice aa a.length ca] w1 fun e w' => e = .returned (.bool true) ∧ Below w1.heap.size w1 w') := fun w1 h => by
    have := may_any (HA.out.below h); rwa [may_iff.2 ma] at this
  have MB : Hid (∀ w1, Below w.heap.size w w1 → Calls Try.prog 16 #[.slice ab b.length cb] w1 fun e w' => e = .returned (.bool true) ∧ Below w1.heap.size w1 w') := fun w1 h => by
    have := may_any (HB.out.below h); rwa [may_iff.2 mb] at this
  have LA : Hid (∀ w1, Below w.heap.size w w1 → Calls Try.prog 18 #[.slice aa a.length ca] w1 fun e w' => e = .returned (.int .i64 (sz a)) ∧ Below w1.heap.size w1 w') := fun w1 h => by
    have := len_any (HA.out.below h); rwa [len_may ma] at this
  have LB : Hid (∀ w1, Below w.heap.size w w1 → Calls Try.prog 18 #[.slice ab b.length cb] w1 fun e w' => e = .returned (.int .i64 (sz b)) ∧ Below w1.heap.size w1 w') := fun w1 h => by
    have := len_any (HB.out.below h); rwa [len_may mb] at this
  have da : decide ((300 : Int) < (a.length : Int)) = false := by simp; omega
  have db : decide ((300 : Int) < (b.length : Int)) = false := by simp; omega
  have IX := Lib.hid fun (w1 : World) (h : Below w.heap.size w w1) => index_call (HA.out.below h) (HB.out.below h) i
  have za := ma.size
  obtain ⟨f1, f2, f3, f4, f5, f6, f7⟩ := first_here ma mb h0
  have SU : Hid (∀ w1, Below w.heap.size w w1 → Calls Try.prog 13 #[.slice aa a.length ca, .int .i64 (indexR a b i), .int .i64 (sz b)] w1 (NewR w1 b)) := fun w1 h => by
    have := substr_any (HA.out.below h) (indexR a b i) (sz b) (by have := mb.size; omega); rwa [f4] at this
  have SM : Hid (∀ {w1 : World} {P1 P2 : Nat → Prop} {v1 v2 : Value}, Rr w1 P1 v1 b → Rr w1 P2 v2 b → Calls Try.prog 21 #[v1, v2] w1 fun e w' => e = .returned (.bool true) ∧ Below w1.heap.size w1 w') := fun h1 h2 => by
    have := same_any h1 h2; simpa [may_iff.2 mb] using this
  have S2 := Lib.hid fun (w1 : World) (h : Below w.heap.size w w1) => substr_any (HA.out.below h) 0 (indexR a b i + sz b - 1) (by omega)
  have CO : Hid (∀ w1, Below w.heap.size w w1 → Calls Try.prog 22 #[.slice aa a.length ca, .slice ab b.length cb] w1 fun e w' => e = .returned (.bool true) ∧ Below w1.heap.size w1 w') := fun w1 h => by
    have := contains_any (HA.out.below h) (HB.out.below h); rwa [f5] at this
  have f8 := f6 h1
  clear f6 f7
  have zb := mb.size
  clear ha hb ma mb f4 f5
  generalize substr a 0 (indexR a b i + sz b - 1) = r at *
  generalize indexR a b i = k at *
  generalize sz a = A at *
  generalize sz b = B at *
  have w1 : IntKind.i64.wrap (k + B) = k + B := IntWalk.i64_in _ (by omega)
  have w2 : IntKind.i64.wrap (k + B - 1) = k + B - 1 := IntWalk.i64_in _ (by omega)
  have e1 : decide (k < 0) = false := by simpa using h0
  have e2 : (B == 0) = true := by rw [beq_iff_eq]; exact h1
  have e3 : (k == i) = true := by rw [beq_iff_eq]; exact f8
  clear f8
  clear la lb za zb h0 h1 hi9 f1 f2 f3
  go_enter Try.func4, Try.ntmps4
  go_wp2_with fail
  refine (awake_any _).mono ?_
  rintro e w1 ⟨rfl, hb⟩
  have HB1 := Lib.hid (HB0.out.trans (hb.mono HB0.out.size))
  clear hb HB0
  go_wp2_with fail
  refine (MA.out _ HB1.out).mono ?_
  rintro e w2 ⟨rfl, hb⟩
  have HB2 := Lib.hid (HB1.out.trans (hb.mono HB1.out.size))
  clear hb HB1
  go_wp2_with fail
  refine (MB.out _ HB2.out).mono ?_
  rintro e w3 ⟨rfl, hb⟩
  have HB3 := Lib.hid (HB2.out.trans (hb.mono HB2.out.size))
  clear hb HB2
  go_wp2_with fail
  refine (LB.out _ HB3.out).mono ?_
  rintro e w4 ⟨rfl, hb⟩
  have HB4 := Lib.hid (HB3.out.trans (hb.mono HB3.out.size))
  clear hb HB3
  go_wp2_with fail
  refine (IX.out _ HB4.out).mono ?_
  rintro e w5 ⟨rfl, hb⟩
  have HB5 := Lib.hid (HB4.out.trans (hb.mono HB4.out.size))
  clear hb HB4
  go_wp2_with fail
  refine (SU.out _ HB5.out).mono ?_
  rintro e w6 ⟨ra6, rc6, rfl, hr, hb⟩
  have HB6 := Lib.hid (HB5.out.trans (hb.mono HB5.out.size))
  have X6 := Lib.hid hr
  clear hb hr HB5
  go_wp2_with fail
  refine (SM.out X6.out (HB.out.below HB6.out)).mono ?_
  rintro e w7 ⟨rfl, hb⟩
  have HB7 := Lib.hid (HB6.out.trans (hb.mono HB6.out.size))
  have X7 := Lib.hid (X6.out.below hb)
  clear hb HB6 X6
  go_wp2_with fail
  refine (S2.out _ HB7.out).mono ?_
  rintro e w8 ⟨ra8, rc8, rfl, hr, hb⟩
  have HB8 := Lib.hid (HB7.out.trans (hb.mono HB7.out.size))
  have X8 := Lib.hid (X7.out.below hb)
  have Y8 := Lib.hid hr
  clear hb hr HB7 X7
  go_wp2_with fail
  go_ret
  exact ⟨rfl, HB8.out⟩

set_option maxHeartbeats 4000000 in
theorem first_w_some {w : World} {P Q : Nat → Prop} {aa ab : Option Addr} {ca cb : Nat} {a b : List Run} (ha : Rr w P (.slice aa a.length ca) a) (hb : Rr w Q (.slice ab b.length cb) b) (i : Int) (hi9 : -9223372036854775808 ≤ i ∧ i ≤ 9223372036854775807) (la : a.length ≤ 300) (lb : b.length ≤ 300) (ma : May a) (mb : May b) (h0 : 0 ≤ indexR a b i) (h1 : 1 ≤ sz b) :
    Calls Try.prog 4 #[.slice aa a.length ca, .slice ab b.length cb, .int .i64 i] w fun e w' => e = .returned (.bool true) ∧ Below w.heap.size w w' := by
  have HA := Lib.hid ha
  have HB := Lib.hid hb
  have HB0 : Hid (Below w.heap.size w w) := Below.refl _ _
  have MA : Hid (∀ w1, Below w.heap.size w w1 → Calls Try.prog 16 #[.slice aa a.length ca] w1 fun e w' => e = .returned (.bool true) ∧ Below w1.heap.size w1 w') := fun w1 h => by
    have := may_any (HA.out.below h); rwa [may_iff.2 ma] at this
  have MB : Hid (∀ w1, Below w.heap.size w w1 → Calls Try.prog 16 #[.slice ab b.length cb] w1 fun e w' => e = .returned (.bool true) ∧ Below w1.heap.size w1 w') := fun w1 h => by
    have := may_any (HB.out.below h); rwa [may_iff.2 mb] at this
  have LA : Hid (∀ w1, Below w.heap.size w w1 → Calls Try.prog 18 #[.slice aa a.length ca] w1 fun e w' => e = .returned (.int .i64 (sz a)) ∧ Below w1.heap.size w1 w') := fun w1 h => by
    have := len_any (HA.out.below h); rwa [len_may ma] at this
  have LB : Hid (∀ w1, Below w.heap.size w w1 → Calls Try.prog 18 #[.slice ab b.length cb] w1 fun e w' => e = .returned (.int .i64 (sz b)) ∧ Below w1.heap.size w1 w') := fun w1 h => by
    have := len_any (HB.out.below h); rwa [len_may mb] at this
  have da : decide ((300 : Int) < (a.length : Int)) = false := by simp; omega
  have db : decide ((300 : Int) < (b.length : Int)) = false := by simp; omega
  have IX := Lib.hid fun (w1 : World) (h : Below w.heap.size w w1) => index_call (HA.out.below h) (HB.out.below h) i
  have za := ma.size
  obtain ⟨f1, f2, f3, f4, f5, f6, f7⟩ := first_here ma mb h0
  have SU : Hid (∀ w1, Below w.heap.size w w1 → Calls Try.prog 13 #[.slice aa a.length ca, .int .i64 (indexR a b i), .int .i64 (sz b)] w1 (NewR w1 b)) := fun w1 h => by
    have := substr_any (HA.out.below h) (indexR a b i) (sz b) (by have := mb.size; omega); rwa [f4] at this
  have SM : Hid (∀ {w1 : World} {P1 P2 : Nat → Prop} {v1 v2 : Value}, Rr w1 P1 v1 b → Rr w1 P2 v2 b → Calls Try.prog 21 #[v1, v2] w1 fun e w' => e = .returned (.bool true) ∧ Below w1.heap.size w1 w') := fun h1 h2 => by
    have := same_any h1 h2; simpa [may_iff.2 mb] using this
  have S2 := Lib.hid fun (w1 : World) (h : Below w.heap.size w w1) => substr_any (HA.out.below h) 0 (indexR a b i + sz b - 1) (by omega)
  have CO : Hid (∀ w1, Below w.heap.size w w1 → Calls Try.prog 22 #[.slice aa a.length ca, .slice ab b.length cb] w1 fun e w' => e = .returned (.bool true) ∧ Below w1.heap.size w1 w') := fun w1 h => by
    have := contains_any (HA.out.below h) (HB.out.below h); rwa [f5] at this
  have IA : Hid (∀ {w1 : World} {P1 P2 : Nat → Prop} {v1 v2 : Value}, Rr w1 P1 v1 (substr a 0 (indexR a b i + sz b - 1)) → Rr w1 P2 v2 b → Calls Try.prog 20 #[v1, v2, .int .i64 i] w1 fun e w' => e = .returned (.int .i64 (-1)) ∧ Below w1.heap.size w1 w') := fun h3 h4 => by
    have := index_call h3 h4 i; rwa [f7 h1] at this
  clear f6 f7
  have zb := mb.size
  clear ha hb ma mb f4 f5
  generalize substr a 0 (indexR a b i + sz b - 1) = r at *
  generalize indexR a b i = k at *
  generalize sz a = A at *
  generalize sz b = B at *
  have w1 : IntKind.i64.wrap (k + B) = k + B := IntWalk.i64_in _ (by omega)
  have w2 : IntKind.i64.wrap (k + B - 1) = k + B - 1 := IntWalk.i64_in _ (by omega)
  have e1 : decide (k < 0) = false := by simpa using h0
  have e2 : (B == 0) = false := by rw [beq_eq_false_iff_ne]; omega
  have e3 : decide (i ≤ k) = true := by simpa using f2
  clear la lb za zb h0 h1 hi9 f1 f2 f3
  go_enter Try.func4, Try.ntmps4
  go_wp2_with fail
  refine (awake_any _).mono ?_
  rintro e w1 ⟨rfl, hb⟩
  have HB1 := Lib.hid (HB0.out.trans (hb.mono HB0.out.size))
  clear hb HB0
  go_wp2_with fail
  refine (MA.out _ HB1.out).mono ?_
  rintro e w2 ⟨rfl, hb⟩
  have HB2 := Lib.hid (HB1.out.trans (hb.mono HB1.out.size))
  clear hb HB1
  go_wp2_with fail
  refine (MB.out _ HB2.out).mono ?_
  rintro e w3 ⟨rfl, hb⟩
  have HB3 := Lib.hid (HB2.out.trans (hb.mono HB2.out.size))
  clear hb HB2
  go_wp2_with fail
  refine (LB.out _ HB3.out).mono ?_
  rintro e w4 ⟨rfl, hb⟩
  have HB4 := Lib.hid (HB3.out.trans (hb.mono HB3.out.size))
  clear hb HB3
  go_wp2_with fail
  refine (IX.out _ HB4.out).mono ?_
  rintro e w5 ⟨rfl, hb⟩
  have HB5 := Lib.hid (HB4.out.trans (hb.mono HB4.out.size))
  clear hb HB4
  go_wp2_with fail
  refine (SU.out _ HB5.out).mono ?_
  rintro e w6 ⟨ra6, rc6, rfl, hr, hb⟩
  have HB6 := Lib.hid (HB5.out.trans (hb.mono HB5.out.size))
  have X6 := Lib.hid hr
  clear hb hr HB5
  go_wp2_with fail
  refine (SM.out X6.out (HB.out.below HB6.out)).mono ?_
  rintro e w7 ⟨rfl, hb⟩
  have HB7 := Lib.hid (HB6.out.trans (hb.mono HB6.out.size))
  have X7 := Lib.hid (X6.out.below hb)
  clear hb HB6 X6
  go_wp2_with fail
  refine (S2.out _ HB7.out).mono ?_
  rintro e w8 ⟨ra8, rc8, rfl, hr, hb⟩
  have HB8 := Lib.hid (HB7.out.trans (hb.mono HB7.out.size))
  have X8 := Lib.hid (X7.out.below hb)
  have Y8 := Lib.hid hr
  clear hb hr HB7 X7
  go_wp2_with fail
  refine (IA.out Y8.out (HB.out.below HB8.out)).mono ?_
  rintro e w9 ⟨rfl, hb⟩
  have HB9 := Lib.hid (HB8.out.trans (hb.mono HB8.out.size))
  have X9 := Lib.hid (X8.out.below hb)
  have Y9 := Lib.hid (Y8.out.below hb)
  clear hb HB8 X8 Y8
  go_wp2_with fail
  refine (CO.out _ HB9.out).mono ?_
  rintro e w10 ⟨rfl, hb⟩
  have HB10 := Lib.hid (HB9.out.trans (hb.mono HB9.out.size))
  have X10 := Lib.hid (X9.out.below hb)
  have Y10 := Lib.hid (Y9.out.below hb)
  clear hb HB9 X9 Y9
  go_wp2_with fail
  go_ret
  exact ⟨rfl, HB10.out⟩

set_option maxHeartbeats 4000000 in
theorem first_all {w : World} {P Q : Nat → Prop} {aa ab : Option Addr} {ca cb : Nat} {a b : List Run} (ha : Rr w P (.slice aa a.length ca) a) (hb : Rr w Q (.slice ab b.length cb) b) (i : Int) (hi9 : -9223372036854775808 ≤ i ∧ i ≤ 9223372036854775807) :
    Calls Try.prog 4 #[.slice aa a.length ca, .slice ab b.length cb, .int .i64 i] w fun e w' => e = .returned (.bool true) ∧ Below w.heap.size w w' := by
  have HA := Lib.hid ha
  have HB := Lib.hid hb
  have HB0 : Hid (Below w.heap.size w w) := Below.refl _ _
  by_cases la : (300 : Int) < (a.length : Int)
  · have da : decide ((300 : Int) < (a.length : Int)) = true := by simpa using la
    clear ha hb hi9 la
    go_enter Try.func4, Try.ntmps4
    go_wp2_with fail
    refine (awake_any _).mono ?_
    rintro e w1 ⟨rfl, hb⟩
    have HB1 := Lib.hid (HB0.out.trans (hb.mono HB0.out.size))
    clear hb HB0
    go_wp2_with fail
    go_ret
    exact ⟨rfl, HB1.out⟩
  by_cases lb : (300 : Int) < (b.length : Int)
  · have db : decide ((300 : Int) < (b.length : Int)) = true := by simpa using lb
    have da : decide ((300 : Int) < (a.length : Int)) = false := by simpa using la
    clear ha hb hi9 la lb
    go_enter Try.func4, Try.ntmps4
    go_wp2_with fail
    refine (awake_any _).mono ?_
    rintro e w1 ⟨rfl, hb⟩
    have HB1 := Lib.hid (HB0.out.trans (hb.mono HB0.out.size))
    clear hb HB0
    go_wp2_with fail
    go_ret
    exact ⟨rfl, HB1.out⟩
  cases ma : may a with
  | false =>
    have da : decide ((300 : Int) < (a.length : Int)) = false := by simpa using la
    have db : decide ((300 : Int) < (b.length : Int)) = false := by simpa using lb
    have MA : Hid (∀ w1, Below w.heap.size w w1 → Calls Try.prog 16 #[.slice aa a.length ca] w1 fun e w' => e = .returned (.bool false) ∧ Below w1.heap.size w1 w') := fun w1 h => by
      have := may_any (HA.out.below h); rwa [ma] at this
    clear ha hb hi9 ma la lb
    go_enter Try.func4, Try.ntmps4
    go_wp2_with fail
    refine (awake_any _).mono ?_
    rintro e w1 ⟨rfl, hb⟩
    have HB1 := Lib.hid (HB0.out.trans (hb.mono HB0.out.size))
    clear hb HB0
    go_wp2_with fail
    refine (MA.out _ HB1.out).mono ?_
    rintro e w2 ⟨rfl, hb⟩
    have HB2 := Lib.hid (HB1.out.trans (hb.mono HB1.out.size))
    clear hb HB1
    go_wp2_with fail
    go_ret
    exact ⟨rfl, HB2.out⟩
  | true =>
    cases mb : may b with
    | false =>
      have da : decide ((300 : Int) < (a.length : Int)) = false := by simpa using la
      have db : decide ((300 : Int) < (b.length : Int)) = false := by simpa using lb
      have MA : Hid (∀ w1, Below w.heap.size w w1 → Calls Try.prog 16 #[.slice aa a.length ca] w1 fun e w' => e = .returned (.bool true) ∧ Below w1.heap.size w1 w') := fun w1 h => by
        have := may_any (HA.out.below h); rwa [ma] at this
      have MB : Hid (∀ w1, Below w.heap.size w w1 → Calls Try.prog 16 #[.slice ab b.length cb] w1 fun e w' => e = .returned (.bool false) ∧ Below w1.heap.size w1 w') := fun w1 h => by
        have := may_any (HB.out.below h); rwa [mb] at this
      clear ha hb hi9 ma mb la lb
      go_enter Try.func4, Try.ntmps4
      go_wp2_with fail
      refine (awake_any _).mono ?_
      rintro e w1 ⟨rfl, hb⟩
      have HB1 := Lib.hid (HB0.out.trans (hb.mono HB0.out.size))
      clear hb HB0
      go_wp2_with fail
      refine (MA.out _ HB1.out).mono ?_
      rintro e w2 ⟨rfl, hb⟩
      have HB2 := Lib.hid (HB1.out.trans (hb.mono HB1.out.size))
      clear hb HB1
      go_wp2_with fail
      refine (MB.out _ HB2.out).mono ?_
      rintro e w3 ⟨rfl, hb⟩
      have HB3 := Lib.hid (HB2.out.trans (hb.mono HB2.out.size))
      clear hb HB2
      go_wp2_with fail
      go_ret
      exact ⟨rfl, HB3.out⟩
    | true =>
      by_cases h0 : indexR a b i < 0
      · by_cases h1 : i < 0
        · exact first_w_neg ha hb i hi9 (by omega) (by omega) (may_iff.1 ma) (may_iff.1 mb) h0 h1
        · by_cases h2 : sz a ≤ i
          · exact first_w_far ha hb i hi9 (by omega) (by omega) (may_iff.1 ma) (may_iff.1 mb) h0 (by omega) h2
          · exact first_w_late ha hb i hi9 (by omega) (by omega) (may_iff.1 ma) (may_iff.1 mb) h0 (by omega) (by omega)
      · by_cases h1 : sz b = 0
        · exact first_w_none ha hb i hi9 (by omega) (by omega) (may_iff.1 ma) (may_iff.1 mb) (by omega) h1
        · exact first_w_some ha hb i hi9 (by omega) (by omega) (may_iff.1 ma) (may_iff.1 mb) (by omega) (by have := (may_iff.1 mb).size; omega)

end Go.Proofs.Ytdjapppfjpgidaa
