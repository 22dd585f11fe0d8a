/- The walk of RunsJoins. -/
import Derived.Test.YtdjapppfjpgidaaPc
import Derived.Test.YtdjapppfjpgidaaLa
namespace Go.Proofs.Ytdjapppfjpgidaa
open Go.RowKit

set_option maxHeartbeats 4000000 in
theorem joins_11 {w : World} {P Q R : Nat → Prop} {aa ab ac : Option Addr} {ca cb cc : Nat} {a b c : List Run} (ha : Rr w P (.slice aa a.length ca) a) (hb : Rr w Q (.slice ab b.length cb) b) (hc : Rr w R (.slice ac c.length cc) c) (la : a.length ≤ 300) (lb : b.length ≤ 300) (lc : c.length ≤ 300) (ma : May a) (mb : May b) (mc : May c) (c1 : 1099511627776 < sz a + sz b) (c2 : 1099511627776 < sz b + sz c) :
    Calls Try.prog 9 #[.slice aa a.length ca, .slice ab b.length cb, .slice ac c.length cc] w fun e w' => e = .returned (.bool true) ∧ Below w.heap.size w w' := by
  have HA := Lib.hid ha
  have HB := Lib.hid hb
  have HC := Lib.hid hc
  have HB0 : Hid (Below w.heap.size w w) := Below.refl _ _
  have MA : Hid (∀ w1, Below w.heap.size w w1 → Calls Try.prog 16 #[.slice aa a.length ca] w1 fun e w' => e = .returned (.bool true) ∧ Below w1.heap.size w1 w') := fun w1 h => by
    have := may_any (HA.out.below h); rwa [may_iff.2 ma] at this
  have MB : Hid (∀ w1, Below w.heap.size w w1 → Calls Try.prog 16 #[.slice ab b.length cb] w1 fun e w' => e = .returned (.bool true) ∧ Below w1.heap.size w1 w') := fun w1 h => by
    have := may_any (HB.out.below h); rwa [may_iff.2 mb] at this
  have MC : Hid (∀ w1, Below w.heap.size w w1 → Calls Try.prog 16 #[.slice ac c.length cc] w1 fun e w' => e = .returned (.bool true) ∧ Below w1.heap.size w1 w') := fun w1 h => by
    have := may_any (HC.out.below h); rwa [may_iff.2 mc] at this
  have LA : Hid (∀ w1, Below w.heap.size w w1 → Calls Try.prog 18 #[.slice aa a.length ca] w1 fun e w' => e = .returned (.int .i64 (sz a)) ∧ Below w1.heap.size w1 w') := fun w1 h => by
    have := len_any (HA.out.below h); rwa [len_may ma] at this
  have LB : Hid (∀ w1, Below w.heap.size w w1 → Calls Try.prog 18 #[.slice ab b.length cb] w1 fun e w' => e = .returned (.int .i64 (sz b)) ∧ Below w1.heap.size w1 w') := fun w1 h => by
    have := len_any (HB.out.below h); rwa [len_may mb] at this
  have LC : Hid (∀ w1, Below w.heap.size w w1 → Calls Try.prog 18 #[.slice ac c.length cc] w1 fun e w' => e = .returned (.int .i64 (sz c)) ∧ Below w1.heap.size w1 w') := fun w1 h => by
    have := len_any (HC.out.below h); rwa [len_may mc] at this
  have da : decide ((300 : Int) < (a.length : Int)) = false := by simp; omega
  have db : decide ((300 : Int) < (b.length : Int)) = false := by simp; omega
  have dc : decide ((300 : Int) < (c.length : Int)) = false := by simp; omega
  have za := ma.size
  have zb := mb.size
  have zc := mc.size
  have C1 : Hid (∀ w1, Below w.heap.size w w1 → Calls Try.prog 23 #[.slice aa a.length ca, .slice ab b.length cb] w1 (NewRE w1 ([], 2))) := fun w1 h => by
    have := concat_call (HA.out.below h) (HB.out.below h); rwa [concat_long ma mb c1] at this
  have C2 : Hid (∀ w1, Below w.heap.size w w1 → Calls Try.prog 23 #[.slice ab b.length cb, .slice ac c.length cc] w1 (NewRE w1 ([], 2))) := fun w1 h => by
    have := concat_call (HB.out.below h) (HC.out.below h); rwa [concat_long mb mc c2] at this
  clear ha hb hc ma mb mc
  generalize sz a = A at *
  generalize sz b = B at *
  generalize sz c = C at *
  have w1 : IntKind.i64.wrap (A + B) = A + B := IntWalk.i64_in _ (by omega)
  have w2 : IntKind.i64.wrap (B + C) = B + C := IntWalk.i64_in _ (by omega)
  have e1 : decide (1099511627776 < A + B) = true := by simp; omega
  have e2 : decide (1099511627776 < B + C) = true := by simp; omega
  clear la lb lc za zb zc c1 c2
  go_enter Try.func9, Try.ntmps9
  go_wp2_with fail
  refine (awake_any _).mono ?_
  rintro e w1 ⟨rfl, hb⟩
  have HB1 := Lib.hid (HB0.out.trans (hb.mono HB0.out.size))
  clear hb HB0
  go_wp2_with fail
  refine (MA.out _ HB1.out).mono ?_
  rintro e w2 ⟨rfl, hb⟩
  have HB2 := Lib.hid (HB1.out.trans (hb.mono HB1.out.size))
  clear hb HB1
  go_wp2_with fail
  refine (MB.out _ HB2.out).mono ?_
  rintro e w3 ⟨rfl, hb⟩
  have HB3 := Lib.hid (HB2.out.trans (hb.mono HB2.out.size))
  clear hb HB2
  go_wp2_with fail
  refine (MC.out _ HB3.out).mono ?_
  rintro e w4 ⟨rfl, hb⟩
  have HB4 := Lib.hid (HB3.out.trans (hb.mono HB3.out.size))
  clear hb HB3
  go_wp2_with fail
  refine (C1.out _ HB4.out).mono ?_
  rintro e w5 ⟨ra5, rc5, rfl, hr, hb⟩
  have HB5 := Lib.hid (HB4.out.trans (hb.mono HB4.out.size))
  clear hb hr HB4
  go_wp2_with fail
  refine (C2.out _ HB5.out).mono ?_
  rintro e w6 ⟨ra6, rc6, rfl, hr, hb⟩
  have HB6 := Lib.hid (HB5.out.trans (hb.mono HB5.out.size))
  clear hb hr HB5
  go_wp2_with fail
  refine (LA.out _ HB6.out).mono ?_
  rintro e w7 ⟨rfl, hb⟩
  have HB7 := Lib.hid (HB6.out.trans (hb.mono HB6.out.size))
  clear hb HB6
  go_wp2_with fail
  refine (LB.out _ HB7.out).mono ?_
  rintro e w8 ⟨rfl, hb⟩
  have HB8 := Lib.hid (HB7.out.trans (hb.mono HB7.out.size))
  clear hb HB7
  go_wp2_with fail
  refine (LB.out _ HB8.out).mono ?_
  rintro e w9 ⟨rfl, hb⟩
  have HB9 := Lib.hid (HB8.out.trans (hb.mono HB8.out.size))
  clear hb HB8
  go_wp2_with fail
  refine (LC.out _ HB9.out).mono ?_
  rintro e w10 ⟨rfl, hb⟩
  have HB10 := Lib.hid (HB9.out.trans (hb.mono HB9.out.size))
  clear hb HB9
  go_wp2_with fail
  go_ret
  exact ⟨rfl, HB10.out⟩

set_option maxHeartbeats 4000000 in
theorem joins_10 {w : World} {P Q R : Nat → Prop} {aa ab ac : Option Addr} {ca cb cc : Nat} {a b c : List Run} (ha : Rr w P (.slice aa a.length ca) a) (hb : Rr w Q (.slice ab b.length cb) b) (hc : Rr w R (.slice ac c.length cc) c) (la : a.length ≤ 300) (lb : b.length ≤ 300) (lc : c.length ≤ 300) (ma : May a) (mb : May b) (mc : May c) (c1 : 1099511627776 < sz a + sz b) (c2 : ¬ 1099511627776 < sz b + sz c) :
    Calls Try.prog 9 #[.slice aa a.length ca, .slice ab b.length cb, .slice ac c.length cc] w fun e w' => e = .returned (.bool true) ∧ Below w.heap.size w w' := by
  have HA := Lib.hid ha
  have HB := Lib.hid hb
  have HC := Lib.hid hc
  have HB0 : Hid (Below w.heap.size w w) := Below.refl _ _
  have MA : Hid (∀ w1, Below w.heap.size w w1 → Calls Try.prog 16 #[.slice aa a.length ca] w1 fun e w' => e = .returned (.bool true) ∧ Below w1.heap.size w1 w') := fun w1 h => by
    have := may_any (HA.out.below h); rwa [may_iff.2 ma] at this
  have MB : Hid (∀ w1, Below w.heap.size w w1 → Calls Try.prog 16 #[.slice ab b.length cb] w1 fun e w' => e = .returned (.bool true) ∧ Below w1.heap.size w1 w') := fun w1 h => by
    have := may_any (HB.out.below h); rwa [may_iff.2 mb] at this
  have MC : Hid (∀ w1, Below w.heap.size w w1 → Calls Try.prog 16 #[.slice ac c.length cc] w1 fun e w' => e = .returned (.bool true) ∧ Below w1.heap.size w1 w') := fun w1 h => by
    have := may_any (HC.out.below h); rwa [may_iff.2 mc] at this
  have LA : Hid (∀ w1, Below w.heap.size w w1 → Calls Try.prog 18 #[.slice aa a.length ca] w1 fun e w' => e = .returned (.int .i64 (sz a)) ∧ Below w1.heap.size w1 w') := fun w1 h => by
    have := len_any (HA.out.below h); rwa [len_may ma] at this
  have LB : Hid (∀ w1, Below w.heap.size w w1 → Calls Try.prog 18 #[.slice ab b.length cb] w1 fun e w' => e = .returned (.int .i64 (sz b)) ∧ Below w1.heap.size w1 w') := fun w1 h => by
    have := len_any (HB.out.below h); rwa [len_may mb] at this
  have LC : Hid (∀ w1, Below w.heap.size w w1 → Calls Try.prog 18 #[.slice ac c.length cc] w1 fun e w' => e = .returned (.int .i64 (sz c)) ∧ Below w1.heap.size w1 w') := fun w1 h => by
    have := len_any (HC.out.below h); rwa [len_may mc] at this
  have da : decide ((300 : Int) < (a.length : Int)) = false := by simp; omega
  have db : decide ((300 : Int) < (b.length : Int)) = false := by simp; omega
  have dc : decide ((300 : Int) < (c.length : Int)) = false := by simp; omega
  have za := ma.size
  have zb := mb.size
  have zc := mc.size
  have C1 : Hid (∀ w1, Below w.heap.size w w1 → Calls Try.prog 23 #[.slice aa a.length ca, .slice ab b.length cb] w1 (NewRE w1 ([], 2))) := fun w1 h => by
    have := concat_call (HA.out.below h) (HB.out.below h); rwa [concat_long ma mb c1] at this
  have C2 : Hid (∀ w1, Below w.heap.size w w1 → Calls Try.prog 23 #[.slice ab b.length cb, .slice ac c.length cc] w1 (NewRE w1 (join b c, 0))) := fun w1 h => by
    have := concat_call (HB.out.below h) (HC.out.below h); rwa [concat_ok mb mc c2 (by omega)] at this
  clear ha hb hc ma mb mc
  generalize join b c = y at *
  generalize sz a = A at *
  generalize sz b = B at *
  generalize sz c = C at *
  have w1 : IntKind.i64.wrap (A + B) = A + B := IntWalk.i64_in _ (by omega)
  have w2 : IntKind.i64.wrap (B + C) = B + C := IntWalk.i64_in _ (by omega)
  have e1 : decide (1099511627776 < A + B) = true := by simp; omega
  have e2 : decide (1099511627776 < B + C) = false := by simp; omega
  clear la lb lc za zb zc c1 c2
  go_enter Try.func9, Try.ntmps9
  go_wp2_with fail
  refine (awake_any _).mono ?_
  rintro e w1 ⟨rfl, hb⟩
  have HB1 := Lib.hid (HB0.out.trans (hb.mono HB0.out.size))
  clear hb HB0
  go_wp2_with fail
  refine (MA.out _ HB1.out).mono ?_
  rintro e w2 ⟨rfl, hb⟩
  have HB2 := Lib.hid (HB1.out.trans (hb.mono HB1.out.size))
  clear hb HB1
  go_wp2_with fail
  refine (MB.out _ HB2.out).mono ?_
  rintro e w3 ⟨rfl, hb⟩
  have HB3 := Lib.hid (HB2.out.trans (hb.mono HB2.out.size))
  clear hb HB2
  go_wp2_with fail
  refine (MC.out _ HB3.out).mono ?_
  rintro e w4 ⟨rfl, hb⟩
  have HB4 := Lib.hid (HB3.out.trans (hb.mono HB3.out.size))
  clear hb HB3
  go_wp2_with fail
  refine (C1.out _ HB4.out).mono ?_
  rintro e w5 ⟨ra5, rc5, rfl, hr, hb⟩
  have HB5 := Lib.hid (HB4.out.trans (hb.mono HB4.out.size))
  clear hb hr HB4
  go_wp2_with fail
  refine (C2.out _ HB5.out).mono ?_
  rintro e w6 ⟨ra6, rc6, rfl, hr, hb⟩
  have HB6 := Lib.hid (HB5.out.trans (hb.mono HB5.out.size))
  clear hb hr HB5
  go_wp2_with fail
  refine (LA.out _ HB6.out).mono ?_
  rintro e w7 ⟨rfl, hb⟩
  have HB7 := Lib.hid (HB6.out.trans (hb.mono HB6.out.size))
  clear hb HB6
  go_wp2_with fail
  refine (LB.out _ HB7.out).mono ?_
  rintro e w8 ⟨rfl, hb⟩
  have HB8 := Lib.hid (HB7.out.trans (hb.mono HB7.out.size))
  clear hb HB7
  go_wp2_with fail
  go_ret
  exact ⟨rfl, HB8.out⟩

set_option maxHeartbeats 4000000 in
theorem joins_01 {w : World} {P Q R : Nat → Prop} {aa ab ac : Option Addr} {ca cb cc : Nat} {a b c : List Run} (ha : Rr w P (.slice aa a.length ca) a) (hb : Rr w Q (.slice ab b.length cb) b) (hc : Rr w R (.slice ac c.length cc) c) (la : a.length ≤ 300) (lb : b.length ≤ 300) (lc : c.length ≤ 300) (ma : May a) (mb : May b) (mc : May c) (c1 : ¬ 1099511627776 < sz a + sz b) (c2 : 1099511627776 < sz b + sz c) :
    Calls Try.prog 9 #[.slice aa a.length ca, .slice ab b.length cb, .slice ac c.length cc] w fun e w' => e = .returned (.bool true) ∧ Below w.heap.size w w' := by
  have HA := Lib.hid ha
  have HB := Lib.hid hb
  have HC := Lib.hid hc
  have HB0 : Hid (Below w.heap.size w w) := Below.refl _ _
  have MA : Hid (∀ w1, Below w.heap.size w w1 → Calls Try.prog 16 #[.slice aa a.length ca] w1 fun e w' => e = .returned (.bool true) ∧ Below w1.heap.size w1 w') := fun w1 h => by
    have := may_any (HA.out.below h); rwa [may_iff.2 ma] at this
  have MB : Hid (∀ w1, Below w.heap.size w w1 → Calls Try.prog 16 #[.slice ab b.length cb] w1 fun e w' => e = .returned (.bool true) ∧ Below w1.heap.size w1 w') := fun w1 h => by
    have := may_any (HB.out.below h); rwa [may_iff.2 mb] at this
  have MC : Hid (∀ w1, Below w.heap.size w w1 → Calls Try.prog 16 #[.slice ac c.length cc] w1 fun e w' => e = .returned (.bool true) ∧ Below w1.heap.size w1 w') := fun w1 h => by
    have := may_any (HC.out.below h); rwa [may_iff.2 mc] at this
  have LA : Hid (∀ w1, Below w.heap.size w w1 → Calls Try.prog 18 #[.slice aa a.length ca] w1 fun e w' => e = .returned (.int .i64 (sz a)) ∧ Below w1.heap.size w1 w') := fun w1 h => by
    have := len_any (HA.out.below h); rwa [len_may ma] at this
  have LB : Hid (∀ w1, Below w.heap.size w w1 → Calls Try.prog 18 #[.slice ab b.length cb] w1 fun e w' => e = .returned (.int .i64 (sz b)) ∧ Below w1.heap.size w1 w') := fun w1 h => by
    have := len_any (HB.out.below h); rwa [len_may mb] at this
  have LC : Hid (∀ w1, Below w.heap.size w w1 → Calls Try.prog 18 #[.slice ac c.length cc] w1 fun e w' => e = .returned (.int .i64 (sz c)) ∧ Below w1.heap.size w1 w') := fun w1 h => by
    have := len_any (HC.out.below h); rwa [len_may mc] at this
  have da : decide ((300 : Int) < (a.length : Int)) = false := by simp; omega
  have db : decide ((300 : Int) < (b.length : Int)) = false := by simp; omega
  have dc : decide ((300 : Int) < (c.length : Int)) = false := by simp; omega
  have za := ma.size
  have zb := mb.size
  have zc := mc.size
  have C1 : Hid (∀ w1, Below w.heap.size w w1 → Calls Try.prog 23 #[.slice aa a.length ca, .slice ab b.length cb] w1 (NewRE w1 (join a b, 0))) := fun w1 h => by
    have := concat_call (HA.out.below h) (HB.out.below h); rwa [concat_ok ma mb c1 (by omega)] at this
  have C2 : Hid (∀ w1, Below w.heap.size w w1 → Calls Try.prog 23 #[.slice ab b.length cb, .slice ac c.length cc] w1 (NewRE w1 ([], 2))) := fun w1 h => by
    have := concat_call (HB.out.below h) (HC.out.below h); rwa [concat_long mb mc c2] at this
  clear ha hb hc ma mb mc
  generalize join a b = x at *
  generalize sz a = A at *
  generalize sz b = B at *
  generalize sz c = C at *
  have w1 : IntKind.i64.wrap (A + B) = A + B := IntWalk.i64_in _ (by omega)
  have w2 : IntKind.i64.wrap (B + C) = B + C := IntWalk.i64_in _ (by omega)
  have e1 : decide (1099511627776 < A + B) = false := by simp; omega
  have e2 : decide (1099511627776 < B + C) = true := by simp; omega
  clear la lb lc za zb zc c1 c2
  go_enter Try.func9, Try.ntmps9
  go_wp2_with fail
  refine (awake_any _).mono ?_
  rintro e w1 ⟨rfl, hb⟩
  have HB1 := Lib.hid (HB0.out.trans (hb.mono HB0.out.size))
  clear hb HB0
  go_wp2_with fail
  refine (MA.out _ HB1.out).mono ?_
  rintro e w2 ⟨rfl, hb⟩
  have HB2 := Lib.hid (HB1.out.trans (hb.mono HB1.out.size))
  clear hb HB1
  go_wp2_with fail
  refine (MB.out _ HB2.out).mono ?_
  rintro e w3 ⟨rfl, hb⟩
  have HB3 := Lib.hid (HB2.out.trans (hb.mono HB2.out.size))
  clear hb HB2
  go_wp2_with fail
  refine (MC.out _ HB3.out).mono ?_
  rintro e w4 ⟨rfl, hb⟩
  have HB4 := Lib.hid (HB3.out.trans (hb.mono HB3.out.size))
  clear hb HB3
  go_wp2_with fail
  refine (C1.out _ HB4.out).mono ?_
  rintro e w5 ⟨ra5, rc5, rfl, hr, hb⟩
  have HB5 := Lib.hid (HB4.out.trans (hb.mono HB4.out.size))
  clear hb hr HB4
  go_wp2_with fail
  refine (C2.out _ HB5.out).mono ?_
  rintro e w6 ⟨ra6, rc6, rfl, hr, hb⟩
  have HB6 := Lib.hid (HB5.out.trans (hb.mono HB5.out.size))
  clear hb hr HB5
  go_wp2_with fail
  refine (LB.out _ HB6.out).mono ?_
  rintro e w7 ⟨rfl, hb⟩
  have HB7 := Lib.hid (HB6.out.trans (hb.mono HB6.out.size))
  clear hb HB6
  go_wp2_with fail
  refine (LC.out _ HB7.out).mono ?_
  rintro e w8 ⟨rfl, hb⟩
  have HB8 := Lib.hid (HB7.out.trans (hb.mono HB7.out.size))
  clear hb HB7
  go_wp2_with fail
  go_ret
  exact ⟨rfl, HB8.out⟩

set_option maxHeartbeats 4000000 in
theorem joins_00 {w : World} {P Q R : Nat → Prop} {aa ab ac : Option Addr} {ca cb cc : Nat} {a b c : List Run} (ha : Rr w P (.slice aa a.length ca) a) (hb : Rr w Q (.slice ab b.length cb) b) (hc : Rr w R (.slice ac c.length cc) c) (la : a.length ≤ 300) (lb : b.length ≤ 300) (lc : c.length ≤ 300) (ma : May a) (mb : May b) (mc : May c) (c1 : ¬ 1099511627776 < sz a + sz b) (c2 : ¬ 1099511627776 < sz b + sz c) :
    Calls Try.prog 9 #[.slice aa a.length ca, .slice ab b.length cb, .slice ac c.length cc] w fun e w' => e = .returned (.bool true) ∧ Below w.heap.size w w' := by
  have HA := Lib.hid ha
  have HB := Lib.hid hb
  have HC := Lib.hid hc
  have HB0 : Hid (Below w.heap.size w w) := Below.refl _ _
  have MA : Hid (∀ w1, Below w.heap.size w w1 → Calls Try.prog 16 #[.slice aa a.length ca] w1 fun e w' => e = .returned (.bool true) ∧ Below w1.heap.size w1 w') := fun w1 h => by
    have := may_any (HA.out.below h); rwa [may_iff.2 ma] at this
  have MB : Hid (∀ w1, Below w.heap.size w w1 → Calls Try.prog 16 #[.slice ab b.length cb] w1 fun e w' => e = .returned (.bool true) ∧ Below w1.heap.size w1 w') := fun w1 h => by
    have := may_any (HB.out.below h); rwa [may_iff.2 mb] at this
  have MC : Hid (∀ w1, Below w.heap.size w w1 → Calls Try.prog 16 #[.slice ac c.length cc] w1 fun e w' => e = .returned (.bool true) ∧ Below w1.heap.size w1 w') := fun w1 h => by
    have := may_any (HC.out.below h); rwa [may_iff.2 mc] at this
  have LA : Hid (∀ w1, Below w.heap.size w w1 → Calls Try.prog 18 #[.slice aa a.length ca] w1 fun e w' => e = .returned (.int .i64 (sz a)) ∧ Below w1.heap.size w1 w') := fun w1 h => by
    have := len_any (HA.out.below h); rwa [len_may ma] at this
  have LB : Hid (∀ w1, Below w.heap.size w w1 → Calls Try.prog 18 #[.slice ab b.length cb] w1 fun e w' => e = .returned (.int .i64 (sz b)) ∧ Below w1.heap.size w1 w') := fun w1 h => by
    have := len_any (HB.out.below h); rwa [len_may mb] at this
  have LC : Hid (∀ w1, Below w.heap.size w w1 → Calls Try.prog 18 #[.slice ac c.length cc] w1 fun e w' => e = .returned (.int .i64 (sz c)) ∧ Below w1.heap.size w1 w') := fun w1 h => by
    have := len_any (HC.out.below h); rwa [len_may mc] at this
  have da : decide ((300 : Int) < (a.length : Int)) = false := by simp; omega
  have db : decide ((300 : Int) < (b.length : Int)) = false := by simp; omega
  have dc : decide ((300 : Int) < (c.length : Int)) = false := by simp; omega
  have za := ma.size
  have zb := mb.size
  have zc := mc.size
  have mx := joins_may ma mb c1 la lb
  have C1 : Hid (∀ w1, Below w.heap.size w w1 → Calls Try.prog 23 #[.slice aa a.length ca, .slice ab b.length cb] w1 (NewRE w1 (join a b, 0))) := fun w1 h => by
    have := concat_call (HA.out.below h) (HB.out.below h); rwa [concat_ok ma mb c1 (by omega)] at this
  have C2 : Hid (∀ w1, Below w.heap.size w w1 → Calls Try.prog 23 #[.slice ab b.length cb, .slice ac c.length cc] w1 (NewRE w1 (join b c, 0))) := fun w1 h => by
    have := concat_call (HB.out.below h) (HC.out.below h); rwa [concat_ok mb mc c2 (by omega)] at this
  have C3 : Hid (∀ {w1 : World} {P1 P2 : Nat → Prop} {v1 v2 : Value}, Rr w1 P1 v1 (join a b) → Rr w1 P2 v2 c → Calls Try.prog 23 #[v1, v2] w1 (NewRE w1 (concatR (join a b) c))) := fun h1 h2 => concat_call h1 h2
  have C4 : Hid (∀ {w1 : World} {P1 P2 : Nat → Prop} {v1 v2 : Value}, Rr w1 P1 v1 a → Rr w1 P2 v2 (join b c) → Calls Try.prog 23 #[v1, v2] w1 (NewRE w1 (concatR (join a b) c))) := fun h1 h2 => by
    have := concat_call h1 h2; rwa [← joins_same ma mb mc c1 c2 la lb lc] at this
  have MX : Hid (∀ {w1 : World} {P1 : Nat → Prop} {v1 : Value}, Rr w1 P1 v1 (join a b) → Calls Try.prog 16 #[v1] w1 fun e w' => e = .returned (.bool true) ∧ Below w1.heap.size w1 w') := fun h1 => by
    have := may_any h1; rwa [may_iff.2 mx] at this
  have PX : Hid (∀ {w1 : World} {P1 P2 : Nat → Prop} {v1 v2 : Value}, Rr w1 P1 v1 a → Rr w1 P2 v2 (join a b) → Calls Try.prog 27 #[v1, v2] w1 fun e w' => e = .returned (.bool true) ∧ Below w1.heap.size w1 w') := fun h1 h2 => by
    have := prefix_any h1 h2; rwa [joins_prefix ma mb mx] at this
  have SX : Hid (∀ {w1 : World} {P1 P2 : Nat → Prop} {v1 v2 : Value}, Rr w1 P1 v1 b → Rr w1 P2 v2 (join a b) → Calls Try.prog 29 #[v1, v2] w1 fun e w' => e = .returned (.bool true) ∧ Below w1.heap.size w1 w') := fun h1 h2 => by
    have := suffix_any h1 h2; rwa [joins_suffix ma mb mx] at this
  have CX : Hid (∀ {w1 : World} {P1 P2 : Nat → Prop} {v1 v2 : Value}, Rr w1 P1 v1 (join a b) → Rr w1 P2 v2 a → Calls Try.prog 22 #[v1, v2] w1 fun e w' => e = .returned (.bool true) ∧ Below w1.heap.size w1 w') := fun h1 h2 => by
    have := contains_any h1 h2; rwa [joins_contains ma mb mx] at this
  have LX : Hid (∀ {w1 : World} {P1 : Nat → Prop} {v1 : Value}, Rr w1 P1 v1 (join a b) → Calls Try.prog 18 #[v1] w1 fun e w' => e = .returned (.int .i64 (sz a + sz b)) ∧ Below w1.heap.size w1 w') := fun h1 => by
    have := len_any h1; rwa [len_may mx, sz_join ma.canon mb.canon] at this
  have q4 : Hid ((concatR (join a b) c).1.length ≤ 1000000000000) := by
    show _ ≤ _
    unfold concatR fewR
    split <;> (try split) <;> (try split) <;> simp <;> omega
  clear ha hb hc ma mb mc mx
  generalize concatR (join a b) c = r at *
  generalize join a b = x at *
  generalize join b c = y at *
  generalize sz a = A at *
  generalize sz b = B at *
  generalize sz c = C at *
  have w1 : IntKind.i64.wrap (A + B) = A + B := IntWalk.i64_in _ (by omega)
  clear la lb lc za zb zc c1 c2
  go_enter Try.func9, Try.ntmps9
  go_wp2_with fail
  refine (awake_any _).mono ?_
  rintro e w1 ⟨rfl, hb⟩
  have HB1 := Lib.hid (HB0.out.trans (hb.mono HB0.out.size))
  clear hb HB0
  go_wp2_with fail
  refine (MA.out _ HB1.out).mono ?_
  rintro e w2 ⟨rfl, hb⟩
  have HB2 := Lib.hid (HB1.out.trans (hb.mono HB1.out.size))
  clear hb HB1
  go_wp2_with fail
  refine (MB.out _ HB2.out).mono ?_
  rintro e w3 ⟨rfl, hb⟩
  have HB3 := Lib.hid (HB2.out.trans (hb.mono HB2.out.size))
  clear hb HB2
  go_wp2_with fail
  refine (MC.out _ HB3.out).mono ?_
  rintro e w4 ⟨rfl, hb⟩
  have HB4 := Lib.hid (HB3.out.trans (hb.mono HB3.out.size))
  clear hb HB3
  go_wp2_with fail
  refine (C1.out _ HB4.out).mono ?_
  rintro e w5 ⟨ra5, rc5, rfl, hr, hb⟩
  have HB5 := Lib.hid (HB4.out.trans (hb.mono HB4.out.size))
  have X5 := Lib.hid hr
  clear hb hr HB4
  go_wp2_with fail
  refine (C2.out _ HB5.out).mono ?_
  rintro e w6 ⟨ra6, rc6, rfl, hr, hb⟩
  have HB6 := Lib.hid (HB5.out.trans (hb.mono HB5.out.size))
  have X6 := Lib.hid (X5.out.below hb)
  have Y6 := Lib.hid hr
  clear hb hr HB5 X5
  go_wp2_with fail
  refine (C3.out X6.out (HC.out.below HB6.out)).mono ?_
  rintro e w7 ⟨ra7, rc7, rfl, hr, hb⟩
  have HB7 := Lib.hid (HB6.out.trans (hb.mono HB6.out.size))
  have X7 := Lib.hid (X6.out.below hb)
  have Y7 := Lib.hid (Y6.out.below hb)
  have S7 := Lib.hid hr
  clear hb hr HB6 X6 Y6
  go_wp2_with fail
  refine (C4.out (HA.out.below HB7.out) Y7.out).mono ?_
  rintro e w8 ⟨ra8, rc8, rfl, hr, hb⟩
  have HB8 := Lib.hid (HB7.out.trans (hb.mono HB7.out.size))
  have X8 := Lib.hid (X7.out.below hb)
  have Y8 := Lib.hid (Y7.out.below hb)
  have S8 := Lib.hid (S7.out.below hb)
  have T8 := Lib.hid hr
  clear hb hr HB7 X7 Y7 S7
  go_wp2_with fail
  refine (texts_same S8.out T8.out q4.out).mono ?_
  rintro e w9 ⟨rfl, hb⟩
  have HB9 := Lib.hid (HB8.out.trans (hb.mono HB8.out.size))
  have X9 := Lib.hid (X8.out.below hb)
  have Y9 := Lib.hid (Y8.out.below hb)
  have S9 := Lib.hid (S8.out.below hb)
  have T9 := Lib.hid (T8.out.below hb)
  clear hb HB8 X8 Y8 S8 T8
  go_wp2_with fail
  refine (MX.out X9.out).mono ?_
  rintro e w10 ⟨rfl, hb⟩
  have HB10 := Lib.hid (HB9.out.trans (hb.mono HB9.out.size))
  have X10 := Lib.hid (X9.out.below hb)
  have Y10 := Lib.hid (Y9.out.below hb)
  have S10 := Lib.hid (S9.out.below hb)
  have T10 := Lib.hid (T9.out.below hb)
  clear hb HB9 X9 Y9 S9 T9
  go_wp2_with fail
  refine (PX.out (HA.out.below HB10.out) X10.out).mono ?_
  rintro e w11 ⟨rfl, hb⟩
  have HB11 := Lib.hid (HB10.out.trans (hb.mono HB10.out.size))
  have X11 := Lib.hid (X10.out.below hb)
  have Y11 := Lib.hid (Y10.out.below hb)
  have S11 := Lib.hid (S10.out.below hb)
  have T11 := Lib.hid (T10.out.below hb)
  clear hb HB10 X10 Y10 S10 T10
  go_wp2_with fail
  refine (SX.out (HB.out.below HB11.out) X11.out).mono ?_
  rintro e w12 ⟨rfl, hb⟩
  have HB12 := Lib.hid (HB11.out.trans (hb.mono HB11.out.size))
  have X12 := Lib.hid (X11.out.below hb)
  have Y12 := Lib.hid (Y11.out.below hb)
  have S12 := Lib.hid (S11.out.below hb)
  have T12 := Lib.hid (T11.out.below hb)
  clear hb HB11 X11 Y11 S11 T11
  go_wp2_with fail
  refine (CX.out X12.out (HA.out.below HB12.out)).mono ?_
  rintro e w13 ⟨rfl, hb⟩
  have HB13 := Lib.hid (HB12.out.trans (hb.mono HB12.out.size))
  have X13 := Lib.hid (X12.out.below hb)
  have Y13 := Lib.hid (Y12.out.below hb)
  have S13 := Lib.hid (S12.out.below hb)
  have T13 := Lib.hid (T12.out.below hb)
  clear hb HB12 X12 Y12 S12 T12
  go_wp2_with fail
  refine (LX.out X13.out).mono ?_
  rintro e w14 ⟨rfl, hb⟩
  have HB14 := Lib.hid (HB13.out.trans (hb.mono HB13.out.size))
  have X14 := Lib.hid (X13.out.below hb)
  have Y14 := Lib.hid (Y13.out.below hb)
  have S14 := Lib.hid (S13.out.below hb)
  have T14 := Lib.hid (T13.out.below hb)
  clear hb HB13 X13 Y13 S13 T13
  go_wp2_with fail
  refine (LA.out _ HB14.out).mono ?_
  rintro e w15 ⟨rfl, hb⟩
  have HB15 := Lib.hid (HB14.out.trans (hb.mono HB14.out.size))
  have X15 := Lib.hid (X14.out.below hb)
  have Y15 := Lib.hid (Y14.out.below hb)
  have S15 := Lib.hid (S14.out.below hb)
  have T15 := Lib.hid (T14.out.below hb)
  clear hb HB14 X14 Y14 S14 T14
  go_wp2_with fail
  refine (LB.out _ HB15.out).mono ?_
  rintro e w16 ⟨rfl, hb⟩
  have HB16 := Lib.hid (HB15.out.trans (hb.mono HB15.out.size))
  have X16 := Lib.hid (X15.out.below hb)
  have Y16 := Lib.hid (Y15.out.below hb)
  have S16 := Lib.hid (S15.out.below hb)
  have T16 := Lib.hid (T15.out.below hb)
  clear hb HB15 X15 Y15 S15 T15
  go_wp2_with fail
  go_ret
  exact ⟨rfl, HB16.out⟩

set_option maxHeartbeats 4000000 in
theorem joins_all {w : World} {P Q R : Nat → Prop} {aa ab ac : Option Addr} {ca cb cc : Nat} {a b c : List Run} (ha : Rr w P (.slice aa a.length ca) a) (hb : Rr w Q (.slice ab b.length cb) b) (hc : Rr w R (.slice ac c.length cc) c) :
    Calls Try.prog 9 #[.slice aa a.length ca, .slice ab b.length cb, .slice ac c.length cc] w fun e w' => e = .returned (.bool true) ∧ Below w.heap.size w w' := by
  have HA := Lib.hid ha
  have HB := Lib.hid hb
  have HC := Lib.hid hc
  have HB0 : Hid (Below w.heap.size w w) := Below.refl _ _
  by_cases la : (300 : Int) < (a.length : Int)
  · have da : decide ((300 : Int) < (a.length : Int)) = true := by simpa using la
    clear ha hb hc la
    go_enter Try.func9, Try.ntmps9
    go_wp2_with fail
    refine (awake_any _).mono ?_
    rintro e w1 ⟨rfl, hb⟩
    have HB1 := Lib.hid (HB0.out.trans (hb.mono HB0.out.size))
    clear hb HB0
    go_wp2_with fail
    go_ret
    exact ⟨rfl, HB1.out⟩
  by_cases lb : (300 : Int) < (b.length : Int)
  · have db : decide ((300 : Int) < (b.length : Int)) = true := by simpa using lb
    have da : decide ((300 : Int) < (a.length : Int)) = false := by simpa using la
    clear ha hb hc la lb
    go_enter Try.func9, Try.ntmps9
    go_wp2_with fail
    refine (awake_any _).mono ?_
    rintro e w1 ⟨rfl, hb⟩
    have HB1 := Lib.hid (HB0.out.trans (hb.mono HB0.out.size))
    clear hb HB0
    go_wp2_with fail
    go_ret
    exact ⟨rfl, HB1.out⟩
  by_cases lc : (300 : Int) < (c.length : Int)
  · have dc : decide ((300 : Int) < (c.length : Int)) = true := by simpa using lc
    have da : decide ((300 : Int) < (a.length : Int)) = false := by simpa using la
    have db : decide ((300 : Int) < (b.length : Int)) = false := by simpa using lb
    clear ha hb hc la lb lc
    go_enter Try.func9, Try.ntmps9
    go_wp2_with fail
    refine (awake_any _).mono ?_
    rintro e w1 ⟨rfl, hb⟩
    have HB1 := Lib.hid (HB0.out.trans (hb.mono HB0.out.size))
    clear hb HB0
    go_wp2_with fail
    go_ret
    exact ⟨rfl, HB1.out⟩
  cases ma : may a with
  | false =>
    have da : decide ((300 : Int) < (a.length : Int)) = false := by simpa using la
    have db : decide ((300 : Int) < (b.length : Int)) = false := by simpa using lb
    have dc : decide ((300 : Int) < (c.length : Int)) = false := by simpa using lc
    have MA : Hid (∀ w1, Below w.heap.size w w1 → Calls Try.prog 16 #[.slice aa a.length ca] w1 fun e w' => e = .returned (.bool false) ∧ Below w1.heap.size w1 w') := fun w1 h => by
      have := may_any (HA.out.below h); rwa [ma] at this
    clear ha hb hc ma la lb lc
    go_enter Try.func9, Try.ntmps9
    go_wp2_with fail
    refine (awake_any _).mono ?_
    rintro e w1 ⟨rfl, hb⟩
    have HB1 := Lib.hid (HB0.out.trans (hb.mono HB0.out.size))
    clear hb HB0
    go_wp2_with fail
    refine (MA.out _ HB1.out).mono ?_
    rintro e w2 ⟨rfl, hb⟩
    have HB2 := Lib.hid (HB1.out.trans (hb.mono HB1.out.size))
    clear hb HB1
    go_wp2_with fail
    go_ret
    exact ⟨rfl, HB2.out⟩
  | true =>
    cases mb : may b with
    | false =>
      have da : decide ((300 : Int) < (a.length : Int)) = false := by simpa using la
      have db : decide ((300 : Int) < (b.length : Int)) = false := by simpa using lb
      have dc : decide ((300 : Int) < (c.length : Int)) = false := by simpa using lc
      have MA : Hid (∀ w1, Below w.heap.size w w1 → Calls Try.prog 16 #[.slice aa a.length ca] w1 fun e w' => e = .returned (.bool true) ∧ Below w1.heap.size w1 w') := fun w1 h => by
        have := may_any (HA.out.below h); rwa [ma] at this
      have MB : Hid (∀ w1, Below w.heap.size w w1 → Calls Try.prog 16 #[.slice ab b.length cb] w1 fun e w' => e = .returned (.bool false) ∧ Below w1.heap.size w1 w') := fun w1 h => by
        have := may_any (HB.out.below h); rwa [mb] at this
      clear ha hb hc ma mb la lb lc
      go_enter Try.func9, Try.ntmps9
      go_wp2_with fail
      refine (awake_any _).mono ?_
      rintro e w1 ⟨rfl, hb⟩
      have HB1 := Lib.hid (HB0.out.trans (hb.mono HB0.out.size))
      clear hb HB0
      go_wp2_with fail
      refine (MA.out _ HB1.out).mono ?_
      rintro e w2 ⟨rfl, hb⟩
      have HB2 := Lib.hid (HB1.out.trans (hb.mono HB1.out.size))
      clear hb HB1
      go_wp2_with fail
      refine (MB.out _ HB2.out).mono ?_
      rintro e w3 ⟨rfl, hb⟩
      have HB3 := Lib.hid (HB2.out.trans (hb.mono HB2.out.size))
      clear hb HB2
      go_wp2_with fail
      go_ret
      exact ⟨rfl, HB3.out⟩
    | true =>
      cases mc : may c with
      | false =>
        have da : decide ((300 : Int) < (a.length : Int)) = false := by simpa using la
        have db : decide ((300 : Int) < (b.length : Int)) = false := by simpa using lb
        have dc : decide ((300 : Int) < (c.length : Int)) = false := by simpa using lc
        have MA : Hid (∀ w1, Below w.heap.size w w1 → Calls Try.prog 16 #[.slice aa a.length ca] w1 fun e w' => e = .returned (.bool true) ∧ Below w1.heap.size w1 w') := fun w1 h => by
          have := may_any (HA.out.below h); rwa [ma] at this
        have MB : Hid (∀ w1, Below w.heap.size w w1 → Calls Try.prog 16 #[.slice ab b.length cb] w1 fun e w' => e = .returned (.bool true) ∧ Below w1.heap.size w1 w') := fun w1 h => by
          have := may_any (HB.out.below h); rwa [mb] at this
        have MC : Hid (∀ w1, Below w.heap.size w w1 → Calls Try.prog 16 #[.slice ac c.length cc] w1 fun e w' => e = .returned (.bool false) ∧ Below w1.heap.size w1 w') := fun w1 h => by
          have := may_any (HC.out.below h); rwa [mc] at this
        clear ha hb hc ma mb mc la lb lc
        go_enter Try.func9, Try.ntmps9
        go_wp2_with fail
        refine (awake_any _).mono ?_
        rintro e w1 ⟨rfl, hb⟩
        have HB1 := Lib.hid (HB0.out.trans (hb.mono HB0.out.size))
        clear hb HB0
        go_wp2_with fail
        refine (MA.out _ HB1.out).mono ?_
        rintro e w2 ⟨rfl, hb⟩
        have HB2 := Lib.hid (HB1.out.trans (hb.mono HB1.out.size))
        clear hb HB1
        go_wp2_with fail
        refine (MB.out _ HB2.out).mono ?_
        rintro e w3 ⟨rfl, hb⟩
        have HB3 := Lib.hid (HB2.out.trans (hb.mono HB2.out.size))
        clear hb HB2
        go_wp2_with fail
        refine (MC.out _ HB3.out).mono ?_
        rintro e w4 ⟨rfl, hb⟩
        have HB4 := Lib.hid (HB3.out.trans (hb.mono HB3.out.size))
        clear hb HB3
        go_wp2_with fail
        go_ret
        exact ⟨rfl, HB4.out⟩
      | true =>
        by_cases c1 : 1099511627776 < sz a + sz b
        · by_cases c2 : 1099511627776 < sz b + sz c
          · exact joins_11 ha hb hc (by omega) (by omega) (by omega) (may_iff.1 ma) (may_iff.1 mb) (may_iff.1 mc) c1 c2
          · exact joins_10 ha hb hc (by omega) (by omega) (by omega) (may_iff.1 ma) (may_iff.1 mb) (may_iff.1 mc) c1 c2
        · by_cases c2 : 1099511627776 < sz b + sz c
          · exact joins_01 ha hb hc (by omega) (by omega) (by omega) (may_iff.1 ma) (may_iff.1 mb) (may_iff.1 mc) c1 c2
          · exact joins_00 ha hb hc (by omega) (by omega) (by omega) (may_iff.1 ma) (may_iff.1 mb) (may_iff.1 mc) c1 c2
end Go.Proofs.Ytdjapppfjpgidaa
