/- The walk of RunsReplaced. -/
import Derived.Test.YtdjapppfjpgidaaPc
import Derived.Test.YtdjapppfjpgidaaLa
namespace Go.Proofs.Ytdjapppfjpgidaa
open Go.RowKit

set_option maxHeartbeats 4000000 in
theorem repl_w_none {w : World} {P Q R : Nat → Prop} {aa ab ac : Option Addr} {ca cb cc : Nat} {a b c : List Run} (ha : Rr w P (.slice aa a.length ca) a) (hb : Rr w Q (.slice ab b.length cb) b) (hc : Rr w R (.slice ac c.length cc) c) (la : a.length ≤ 300) (lb : b.length ≤ 300) (lc : c.length ≤ 300) (ma : May a) (mb : May b) (mc : May c) (h0 : indexR a b 0 < 0) :
    Calls Try.prog 7 #[.slice aa a.length ca, .slice ab b.length cb, .slice ac c.length cc] w fun e w' => e = .returned (.bool true) ∧ Below w.heap.size w w' := by
  have HA := Lib.hid ha
  have HB := Lib.hid hb
  have HC := Lib.hid hc
  have HB0 : Hid (Below w.heap.size w w) := Below.refl _ _
  have MA : Hid (∀ w1, Below w.heap.size w w1 → Calls Try.prog 16 #[.slice aa a.length ca] w1 fun e w' => e = .returned (.bool true) ∧ Below w1.heap.size w1 w') := fun w1 h => by
    have := may_any (HA.out.below h); rwa [may_iff.2 ma] at this
  have MB : Hid (∀ w1, Below w.heap.size w w1 → Calls Try.prog 16 #[.slice ab b.length cb] w1 fun e w' => e = .returned (.bool true) ∧ Below w1.heap.size w1 w') := fun w1 h => by
    have := may_any (HB.out.below h); rwa [may_iff.2 mb] at this
  have MC : Hid (∀ w1, Below w.heap.size w w1 → Calls Try.prog 16 #[.slice ac c.length cc] w1 fun e w' => e = .returned (.bool true) ∧ Below w1.heap.size w1 w') := fun w1 h => by
    have := may_any (HC.out.below h); rwa [may_iff.2 mc] at this
  have LA : Hid (∀ w1, Below w.heap.size w w1 → Calls Try.prog 18 #[.slice aa a.length ca] w1 fun e w' => e = .returned (.int .i64 (sz a)) ∧ Below w1.heap.size w1 w') := fun w1 h => by
    have := len_any (HA.out.below h); rwa [len_may ma] at this
  have LB : Hid (∀ w1, Below w.heap.size w w1 → Calls Try.prog 18 #[.slice ab b.length cb] w1 fun e w' => e = .returned (.int .i64 (sz b)) ∧ Below w1.heap.size w1 w') := fun w1 h => by
    have := len_any (HB.out.below h); rwa [len_may mb] at this
  have LC : Hid (∀ w1, Below w.heap.size w w1 → Calls Try.prog 18 #[.slice ac c.length cc] w1 fun e w' => e = .returned (.int .i64 (sz c)) ∧ Below w1.heap.size w1 w') := fun w1 h => by
    have := len_any (HC.out.below h); rwa [len_may mc] at this
  have da : decide ((300 : Int) < (a.length : Int)) = false := by simp; omega
  have db : decide ((300 : Int) < (b.length : Int)) = false := by simp; omega
  have dc : decide ((300 : Int) < (c.length : Int)) = false := by simp; omega
  have IX := Lib.hid fun (w1 : World) (h : Below w.heap.size w w1) => index_call (HA.out.below h) (HB.out.below h) 0
  have RE : Hid (∀ w1, Below w.heap.size w w1 → Calls Try.prog 25 #[.slice aa a.length ca, .slice ab b.length cb, .slice ac c.length cc] w1 (NewRE w1 (a, 0))) := fun w1 h => by
    have := replace_any (HA.out.below h) (HB.out.below h) (HC.out.below h); rwa [replaced_none ma mb mc h0] at this
  have SM : Hid (∀ {w1 : World} {P1 P2 : Nat → Prop} {v1 v2 : Value}, Rr w1 P1 v1 a → Rr w1 P2 v2 a → Calls Try.prog 21 #[v1, v2] w1 fun e w' => e = .returned (.bool true) ∧ Below w1.heap.size w1 w') := fun h1 h2 => by
    have := same_any h1 h2; simpa [may_iff.2 ma] using this
  clear ha hb hc ma mb mc
  generalize indexR a b 0 = k at *
  have e1 : decide (k < 0) = true := by simpa using h0
  clear la lb lc h0
  go_enter Try.func7, Try.ntmps7
  go_wp2_with fail
  refine (awake_any _).mono ?_
  rintro e w1 ⟨rfl, hb⟩
  have HB1 := Lib.hid (HB0.out.trans (hb.mono HB0.out.size))
  clear hb HB0
  go_wp2_with fail
  refine (MA.out _ HB1.out).mono ?_
  rintro e w2 ⟨rfl, hb⟩
  have HB2 := Lib.hid (HB1.out.trans (hb.mono HB1.out.size))
  clear hb HB1
  go_wp2_with fail
  refine (MB.out _ HB2.out).mono ?_
  rintro e w3 ⟨rfl, hb⟩
  have HB3 := Lib.hid (HB2.out.trans (hb.mono HB2.out.size))
  clear hb HB2
  go_wp2_with fail
  refine (MC.out _ HB3.out).mono ?_
  rintro e w4 ⟨rfl, hb⟩
  have HB4 := Lib.hid (HB3.out.trans (hb.mono HB3.out.size))
  clear hb HB3
  go_wp2_with fail
  refine (RE.out _ HB4.out).mono ?_
  rintro e w5 ⟨ra5, rc5, rfl, hr, hb⟩
  have HB5 := Lib.hid (HB4.out.trans (hb.mono HB4.out.size))
  have X5 := Lib.hid hr
  clear hb hr HB4
  go_wp2_with fail
  refine (IX.out _ HB5.out).mono ?_
  rintro e w6 ⟨rfl, hb⟩
  have HB6 := Lib.hid (HB5.out.trans (hb.mono HB5.out.size))
  have X6 := Lib.hid (X5.out.below hb)
  clear hb HB5 X5
  go_wp2_with fail
  refine (SM.out X6.out (HA.out.below HB6.out)).mono ?_
  rintro e w7 ⟨rfl, hb⟩
  have HB7 := Lib.hid (HB6.out.trans (hb.mono HB6.out.size))
  have X7 := Lib.hid (X6.out.below hb)
  clear hb HB6 X6
  go_wp2_with fail
  go_ret
  exact ⟨rfl, HB7.out⟩

set_option maxHeartbeats 4000000 in
theorem repl_w_long {w : World} {P Q R : Nat → Prop} {aa ab ac : Option Addr} {ca cb cc : Nat} {a b c : List Run} (ha : Rr w P (.slice aa a.length ca) a) (hb : Rr w Q (.slice ab b.length cb) b) (hc : Rr w R (.slice ac c.length cc) c) (la : a.length ≤ 300) (lb : b.length ≤ 300) (lc : c.length ≤ 300) (ma : May a) (mb : May b) (mc : May c) (h0 : ¬ indexR a b 0 < 0) (h1 : 1099511627776 < sz a - sz b + sz c) :
    Calls Try.prog 7 #[.slice aa a.length ca, .slice ab b.length cb, .slice ac c.length cc] w fun e w' => e = .returned (.bool true) ∧ Below w.heap.size w w' := by
  have HA := Lib.hid ha
  have HB := Lib.hid hb
  have HC := Lib.hid hc
  have HB0 : Hid (Below w.heap.size w w) := Below.refl _ _
  have MA : Hid (∀ w1, Below w.heap.size w w1 → Calls Try.prog 16 #[.slice aa a.length ca] w1 fun e w' => e = .returned (.bool true) ∧ Below w1.heap.size w1 w') := fun w1 h => by
    have := may_any (HA.out.below h); rwa [may_iff.2 ma] at this
  have MB : Hid (∀ w1, Below w.heap.size w w1 → Calls Try.prog 16 #[.slice ab b.length cb] w1 fun e w' => e = .returned (.bool true) ∧ Below w1.heap.size w1 w') := fun w1 h => by
    have := may_any (HB.out.below h); rwa [may_iff.2 mb] at this
  have MC : Hid (∀ w1, Below w.heap.size w w1 → Calls Try.prog 16 #[.slice ac c.length cc] w1 fun e w' => e = .returned (.bool true) ∧ Below w1.heap.size w1 w') := fun w1 h => by
    have := may_any (HC.out.below h); rwa [may_iff.2 mc] at this
  have LA : Hid (∀ w1, Below w.heap.size w w1 → Calls Try.prog 18 #[.slice aa a.length ca] w1 fun e w' => e = .returned (.int .i64 (sz a)) ∧ Below w1.heap.size w1 w') := fun w1 h => by
    have := len_any (HA.out.below h); rwa [len_may ma] at this
  have LB : Hid (∀ w1, Below w.heap.size w w1 → Calls Try.prog 18 #[.slice ab b.length cb] w1 fun e w' => e = .returned (.int .i64 (sz b)) ∧ Below w1.heap.size w1 w') := fun w1 h => by
    have := len_any (HB.out.below h); rwa [len_may mb] at this
  have LC : Hid (∀ w1, Below w.heap.size w w1 → Calls Try.prog 18 #[.slice ac c.length cc] w1 fun e w' => e = .returned (.int .i64 (sz c)) ∧ Below w1.heap.size w1 w') := fun w1 h => by
    have := len_any (HC.out.below h); rwa [len_may mc] at this
  have da : decide ((300 : Int) < (a.length : Int)) = false := by simp; omega
  have db : decide ((300 : Int) < (b.length : Int)) = false := by simp; omega
  have dc : decide ((300 : Int) < (c.length : Int)) = false := by simp; omega
  have IX := Lib.hid fun (w1 : World) (h : Below w.heap.size w w1) => index_call (HA.out.below h) (HB.out.below h) 0
  have RE : Hid (∀ w1, Below w.heap.size w w1 → Calls Try.prog 25 #[.slice aa a.length ca, .slice ab b.length cb, .slice ac c.length cc] w1 (NewRE w1 ([], 2))) := fun w1 h => by
    have := replace_any (HA.out.below h) (HB.out.below h) (HC.out.below h); rwa [replaced_long ma mb mc h0 h1] at this
  have za := ma.size
  have zb := mb.size
  have zc := mc.size
  clear ha hb hc ma mb mc
  generalize indexR a b 0 = k at *
  generalize sz a = A at *
  generalize sz b = B at *
  generalize sz c = C at *
  have e1 : decide (k < 0) = false := by simpa using h0
  have w1 : IntKind.i64.wrap (A - B) = A - B := IntWalk.i64_in _ (by omega)
  have w2 : IntKind.i64.wrap (A - B + C) = A - B + C := IntWalk.i64_in _ (by omega)
  have e2 : decide (1099511627776 < A - B + C) = true := by simpa using h1
  clear la lb lc h0 h1 za zb zc
  go_enter Try.func7, Try.ntmps7
  go_wp2_with fail
  refine (awake_any _).mono ?_
  rintro e w1 ⟨rfl, hb⟩
  have HB1 := Lib.hid (HB0.out.trans (hb.mono HB0.out.size))
  clear hb HB0
  go_wp2_with fail
  refine (MA.out _ HB1.out).mono ?_
  rintro e w2 ⟨rfl, hb⟩
  have HB2 := Lib.hid (HB1.out.trans (hb.mono HB1.out.size))
  clear hb HB1
  go_wp2_with fail
  refine (MB.out _ HB2.out).mono ?_
  rintro e w3 ⟨rfl, hb⟩
  have HB3 := Lib.hid (HB2.out.trans (hb.mono HB2.out.size))
  clear hb HB2
  go_wp2_with fail
  refine (MC.out _ HB3.out).mono ?_
  rintro e w4 ⟨rfl, hb⟩
  have HB4 := Lib.hid (HB3.out.trans (hb.mono HB3.out.size))
  clear hb HB3
  go_wp2_with fail
  refine (RE.out _ HB4.out).mono ?_
  rintro e w5 ⟨ra5, rc5, rfl, hr, hb⟩
  have HB5 := Lib.hid (HB4.out.trans (hb.mono HB4.out.size))
  clear hb hr HB4
  go_wp2_with fail
  refine (IX.out _ HB5.out).mono ?_
  rintro e w6 ⟨rfl, hb⟩
  have HB6 := Lib.hid (HB5.out.trans (hb.mono HB5.out.size))
  clear hb HB5
  go_wp2_with fail
  refine (LB.out _ HB6.out).mono ?_
  rintro e w7 ⟨rfl, hb⟩
  have HB7 := Lib.hid (HB6.out.trans (hb.mono HB6.out.size))
  clear hb HB6
  go_wp2_with fail
  refine (LA.out _ HB7.out).mono ?_
  rintro e w8 ⟨rfl, hb⟩
  have HB8 := Lib.hid (HB7.out.trans (hb.mono HB7.out.size))
  clear hb HB7
  go_wp2_with fail
  refine (LC.out _ HB8.out).mono ?_
  rintro e w9 ⟨rfl, hb⟩
  have HB9 := Lib.hid (HB8.out.trans (hb.mono HB8.out.size))
  clear hb HB8
  go_wp2_with fail
  go_ret
  exact ⟨rfl, HB9.out⟩

set_option maxHeartbeats 4000000 in
theorem repl_w_some {w : World} {P Q R : Nat → Prop} {aa ab ac : Option Addr} {ca cb cc : Nat} {a b c : List Run} (ha : Rr w P (.slice aa a.length ca) a) (hb : Rr w Q (.slice ab b.length cb) b) (hc : Rr w R (.slice ac c.length cc) c) (la : a.length ≤ 300) (lb : b.length ≤ 300) (lc : c.length ≤ 300) (ma : May a) (mb : May b) (mc : May c) (h0 : ¬ indexR a b 0 < 0) (h1 : ¬ 1099511627776 < sz a - sz b + sz c) :
    Calls Try.prog 7 #[.slice aa a.length ca, .slice ab b.length cb, .slice ac c.length cc] w fun e w' => e = .returned (.bool true) ∧ Below w.heap.size w w' := by
  have HA := Lib.hid ha
  have HB := Lib.hid hb
  have HC := Lib.hid hc
  have HB0 : Hid (Below w.heap.size w w) := Below.refl _ _
  have MA : Hid (∀ w1, Below w.heap.size w w1 → Calls Try.prog 16 #[.slice aa a.length ca] w1 fun e w' => e = .returned (.bool true) ∧ Below w1.heap.size w1 w') := fun w1 h => by
    have := may_any (HA.out.below h); rwa [may_iff.2 ma] at this
  have MB : Hid (∀ w1, Below w.heap.size w w1 → Calls Try.prog 16 #[.slice ab b.length cb] w1 fun e w' => e = .returned (.bool true) ∧ Below w1.heap.size w1 w') := fun w1 h => by
    have := may_any (HB.out.below h); rwa [may_iff.2 mb] at this
  have MC : Hid (∀ w1, Below w.heap.size w w1 → Calls Try.prog 16 #[.slice ac c.length cc] w1 fun e w' => e = .returned (.bool true) ∧ Below w1.heap.size w1 w') := fun w1 h => by
    have := may_any (HC.out.below h); rwa [may_iff.2 mc] at this
  have LA : Hid (∀ w1, Below w.heap.size w w1 → Calls Try.prog 18 #[.slice aa a.length ca] w1 fun e w' => e = .returned (.int .i64 (sz a)) ∧ Below w1.heap.size w1 w') := fun w1 h => by
    have := len_any (HA.out.below h); rwa [len_may ma] at this
  have LB : Hid (∀ w1, Below w.heap.size w w1 → Calls Try.prog 18 #[.slice ab b.length cb] w1 fun e w' => e = .returned (.int .i64 (sz b)) ∧ Below w1.heap.size w1 w') := fun w1 h => by
    have := len_any (HB.out.below h); rwa [len_may mb] at this
  have LC : Hid (∀ w1, Below w.heap.size w w1 → Calls Try.prog 18 #[.slice ac c.length cc] w1 fun e w' => e = .returned (.int .i64 (sz c)) ∧ Below w1.heap.size w1 w') := fun w1 h => by
    have := len_any (HC.out.below h); rwa [len_may mc] at this
  have da : decide ((300 : Int) < (a.length : Int)) = false := by simp; omega
  have db : decide ((300 : Int) < (b.length : Int)) = false := by simp; omega
  have dc : decide ((300 : Int) < (c.length : Int)) = false := by simp; omega
  have IX := Lib.hid fun (w1 : World) (h : Below w.heap.size w w1) => index_call (HA.out.below h) (HB.out.below h) 0
  obtain ⟨x, r, f1, f2, f3, mr, f5, _⟩ := replaced_some ma mb mc h0 h1 la lc
  have RE : Hid (∀ w1, Below w.heap.size w w1 → Calls Try.prog 25 #[.slice aa a.length ca, .slice ab b.length cb, .slice ac c.length cc] w1 (NewRE w1 (r, 0))) := fun w1 h => by
    have := replace_any (HA.out.below h) (HB.out.below h) (HC.out.below h); rwa [f3] at this
  have SM : Hid (∀ {w1 : World} {P1 P2 : Nat → Prop} {v1 v2 : Value}, Rr w1 P1 v1 r → Rr w1 P2 v2 r → Calls Try.prog 21 #[v1, v2] w1 fun e w' => e = .returned (.bool true) ∧ Below w1.heap.size w1 w') := fun h1 h2 => by
    have := same_any h1 h2; simpa [may_iff.2 mr] using this
  have bx := index_bound ma mb
  have U1 := Lib.hid fun (w1 : World) (h : Below w.heap.size w w1) => substr_any (HA.out.below h) 0 (indexR a b 0) (by omega)
  have U2 := Lib.hid fun (w1 : World) (h : Below w.heap.size w w1) => substr_any (HA.out.below h) (indexR a b 0 + sz b) (sz a) (by have := ma.size; omega)
  have C1 : Hid (∀ {w1 : World} {P1 P2 : Nat → Prop} {v1 v2 : Value}, Rr w1 P1 v1 (substr a 0 (indexR a b 0)) → Rr w1 P2 v2 c → Calls Try.prog 23 #[v1, v2] w1 (NewRE w1 (x, 0))) := fun h1 h2 => by
    have := concat_call h1 h2; rwa [f1] at this
  have C2 : Hid (∀ {w1 : World} {P1 P2 : Nat → Prop} {v1 v2 : Value}, Rr w1 P1 v1 x → Rr w1 P2 v2 (substr a (indexR a b 0 + sz b) (sz a)) → Calls Try.prog 23 #[v1, v2] w1 (NewRE w1 (r, 0))) := fun h1 h2 => by
    have := concat_call h1 h2; rwa [f2] at this
  have MR : Hid (∀ {w1 : World} {P1 : Nat → Prop} {v1 : Value}, Rr w1 P1 v1 r → Calls Try.prog 16 #[v1] w1 fun e w' => e = .returned (.bool true) ∧ Below w1.heap.size w1 w') := fun h1 => by
    have := may_any h1; rwa [may_iff.2 mr] at this
  have LR : Hid (∀ {w1 : World} {P1 : Nat → Prop} {v1 : Value}, Rr w1 P1 v1 r → Calls Try.prog 18 #[v1] w1 fun e w' => e = .returned (.int .i64 (sz a - sz b + sz c)) ∧ Below w1.heap.size w1 w') := fun h1 => by
    have := len_any h1; rwa [len_may mr, f5] at this
  have za := ma.size
  have zb := mb.size
  have zc := mc.size
  clear ha hb hc ma mb mc mr f1 f2 f3 f5
  generalize substr a 0 (indexR a b 0) = p1 at *
  generalize substr a (indexR a b 0 + sz b) (sz a) = p2 at *
  generalize indexR a b 0 = k at *
  generalize sz a = A at *
  generalize sz b = B at *
  generalize sz c = C at *
  have e1 : decide (k < 0) = false := by simpa using h0
  have w1 : IntKind.i64.wrap (A - B) = A - B := IntWalk.i64_in _ (by omega)
  have w2 : IntKind.i64.wrap (A - B + C) = A - B + C := IntWalk.i64_in _ (by omega)
  have w3 : IntKind.i64.wrap (k + B) = k + B := IntWalk.i64_in _ (by omega)
  clear la lb lc h0 h1 za zb zc bx
  go_enter Try.func7, Try.ntmps7
  go_wp2_with fail
  refine (awake_any _).mono ?_
  rintro e w1 ⟨rfl, hb⟩
  have HB1 := Lib.hid (HB0.out.trans (hb.mono HB0.out.size))
  clear hb HB0
  go_wp2_with fail
  refine (MA.out _ HB1.out).mono ?_
  rintro e w2 ⟨rfl, hb⟩
  have HB2 := Lib.hid (HB1.out.trans (hb.mono HB1.out.size))
  clear hb HB1
  go_wp2_with fail
  refine (MB.out _ HB2.out).mono ?_
  rintro e w3 ⟨rfl, hb⟩
  have HB3 := Lib.hid (HB2.out.trans (hb.mono HB2.out.size))
  clear hb HB2
  go_wp2_with fail
  refine (MC.out _ HB3.out).mono ?_
  rintro e w4 ⟨rfl, hb⟩
  have HB4 := Lib.hid (HB3.out.trans (hb.mono HB3.out.size))
  clear hb HB3
  go_wp2_with fail
  refine (RE.out _ HB4.out).mono ?_
  rintro e w5 ⟨ra5, rc5, rfl, hr, hb⟩
  have HB5 := Lib.hid (HB4.out.trans (hb.mono HB4.out.size))
  have X5 := Lib.hid hr
  clear hb hr HB4
  go_wp2_with fail
  refine (IX.out _ HB5.out).mono ?_
  rintro e w6 ⟨rfl, hb⟩
  have HB6 := Lib.hid (HB5.out.trans (hb.mono HB5.out.size))
  have X6 := Lib.hid (X5.out.below hb)
  clear hb HB5 X5
  go_wp2_with fail
  refine (LB.out _ HB6.out).mono ?_
  rintro e w7 ⟨rfl, hb⟩
  have HB7 := Lib.hid (HB6.out.trans (hb.mono HB6.out.size))
  have X7 := Lib.hid (X6.out.below hb)
  clear hb HB6 X6
  go_wp2_with fail
  refine (U1.out _ HB7.out).mono ?_
  rintro e w8 ⟨ra8, rc8, rfl, hr, hb⟩
  have HB8 := Lib.hid (HB7.out.trans (hb.mono HB7.out.size))
  have X8 := Lib.hid (X7.out.below hb)
  have Y8 := Lib.hid hr
  clear hb hr HB7 X7
  go_wp2_with fail
  refine (C1.out Y8.out (HC.out.below HB8.out)).mono ?_
  rintro e w9 ⟨ra9, rc9, rfl, hr, hb⟩
  have HB9 := Lib.hid (HB8.out.trans (hb.mono HB8.out.size))
  have X9 := Lib.hid (X8.out.below hb)
  have Y9 := Lib.hid (Y8.out.below hb)
  have Z9 := Lib.hid hr
  clear hb hr HB8 X8 Y8
  go_wp2_with fail
  refine (LA.out _ HB9.out).mono ?_
  rintro e w10 ⟨rfl, hb⟩
  have HB10 := Lib.hid (HB9.out.trans (hb.mono HB9.out.size))
  have X10 := Lib.hid (X9.out.below hb)
  have Y10 := Lib.hid (Y9.out.below hb)
  have Z10 := Lib.hid (Z9.out.below hb)
  clear hb HB9 X9 Y9 Z9
  go_wp2_with fail
  refine (U2.out _ HB10.out).mono ?_
  rintro e w11 ⟨ra11, rc11, rfl, hr, hb⟩
  have HB11 := Lib.hid (HB10.out.trans (hb.mono HB10.out.size))
  have X11 := Lib.hid (X10.out.below hb)
  have Y11 := Lib.hid (Y10.out.below hb)
  have Z11 := Lib.hid (Z10.out.below hb)
  have T11 := Lib.hid hr
  clear hb hr HB10 X10 Y10 Z10
  go_wp2_with fail
  refine (C2.out Z11.out T11.out).mono ?_
  rintro e w12 ⟨ra12, rc12, rfl, hr, hb⟩
  have HB12 := Lib.hid (HB11.out.trans (hb.mono HB11.out.size))
  have X12 := Lib.hid (X11.out.below hb)
  have Y12 := Lib.hid (Y11.out.below hb)
  have Z12 := Lib.hid (Z11.out.below hb)
  have T12 := Lib.hid (T11.out.below hb)
  have V12 := Lib.hid hr
  clear hb hr HB11 X11 Y11 Z11 T11
  go_wp2_with fail
  refine (MR.out X12.out).mono ?_
  rintro e w13 ⟨rfl, hb⟩
  have HB13 := Lib.hid (HB12.out.trans (hb.mono HB12.out.size))
  have X13 := Lib.hid (X12.out.below hb)
  have Y13 := Lib.hid (Y12.out.below hb)
  have Z13 := Lib.hid (Z12.out.below hb)
  have T13 := Lib.hid (T12.out.below hb)
  have V13 := Lib.hid (V12.out.below hb)
  clear hb HB12 X12 Y12 Z12 T12 V12
  go_wp2_with fail
  refine (LR.out X13.out).mono ?_
  rintro e w14 ⟨rfl, hb⟩
  have HB14 := Lib.hid (HB13.out.trans (hb.mono HB13.out.size))
  have X14 := Lib.hid (X13.out.below hb)
  have Y14 := Lib.hid (Y13.out.below hb)
  have Z14 := Lib.hid (Z13.out.below hb)
  have T14 := Lib.hid (T13.out.below hb)
  have V14 := Lib.hid (V13.out.below hb)
  clear hb HB13 X13 Y13 Z13 T13 V13
  go_wp2_with fail
  refine (LA.out _ HB14.out).mono ?_
  rintro e w15 ⟨rfl, hb⟩
  have HB15 := Lib.hid (HB14.out.trans (hb.mono HB14.out.size))
  have X15 := Lib.hid (X14.out.below hb)
  have Y15 := Lib.hid (Y14.out.below hb)
  have Z15 := Lib.hid (Z14.out.below hb)
  have T15 := Lib.hid (T14.out.below hb)
  have V15 := Lib.hid (V14.out.below hb)
  clear hb HB14 X14 Y14 Z14 T14 V14
  go_wp2_with fail
  refine (LC.out _ HB15.out).mono ?_
  rintro e w16 ⟨rfl, hb⟩
  have HB16 := Lib.hid (HB15.out.trans (hb.mono HB15.out.size))
  have X16 := Lib.hid (X15.out.below hb)
  have Y16 := Lib.hid (Y15.out.below hb)
  have Z16 := Lib.hid (Z15.out.below hb)
  have T16 := Lib.hid (T15.out.below hb)
  have V16 := Lib.hid (V15.out.below hb)
  clear hb HB15 X15 Y15 Z15 T15 V15
  go_wp2_with fail
  refine (SM.out X16.out V16.out).mono ?_
  rintro e w17 ⟨rfl, hb⟩
  have HB17 := Lib.hid (HB16.out.trans (hb.mono HB16.out.size))
  have X17 := Lib.hid (X16.out.below hb)
  have Y17 := Lib.hid (Y16.out.below hb)
  have Z17 := Lib.hid (Z16.out.below hb)
  have T17 := Lib.hid (T16.out.below hb)
  have V17 := Lib.hid (V16.out.below hb)
  clear hb HB16 X16 Y16 Z16 T16 V16
  go_wp2_with fail
  go_ret
  exact ⟨rfl, HB17.out⟩

set_option maxHeartbeats 4000000 in
theorem repl_all {w : World} {P Q R : Nat → Prop} {aa ab ac : Option Addr} {ca cb cc : Nat} {a b c : List Run} (ha : Rr w P (.slice aa a.length ca) a) (hb : Rr w Q (.slice ab b.length cb) b) (hc : Rr w R (.slice ac c.length cc) c) :
    Calls Try.prog 7 #[.slice aa a.length ca, .slice ab b.length cb, .slice ac c.length cc] w fun e w' => e = .returned (.bool true) ∧ Below w.heap.size w w' := by
  have HA := Lib.hid ha
  have HB := Lib.hid hb
  have HC := Lib.hid hc
  have HB0 : Hid (Below w.heap.size w w) := Below.refl _ _
  by_cases la : (300 : Int) < (a.length : Int)
  · have da : decide ((300 : Int) < (a.length : Int)) = true := by simpa using la
    clear ha hb hc la
    go_enter Try.func7, Try.ntmps7
    go_wp2_with fail
    refine (awake_any _).mono ?_
    rintro e w1 ⟨rfl, hb⟩
    have HB1 := Lib.hid (HB0.out.trans (hb.mono HB0.out.size))
    clear hb HB0
    go_wp2_with fail
    go_ret
    exact ⟨rfl, HB1.out⟩
  by_cases lb : (300 : Int) < (b.length : Int)
  · have db : decide ((300 : Int) < (b.length : Int)) = true := by simpa using lb
    have da : decide ((300 : Int) < (a.length : Int)) = false := by simpa using la
    clear ha hb hc la lb
    go_enter Try.func7, Try.ntmps7
    go_wp2_with fail
    refine (awake_any _).mono ?_
    rintro e w1 ⟨rfl, hb⟩
    have HB1 := Lib.hid (HB0.out.trans (hb.mono HB0.out.size))
    clear hb HB0
    go_wp2_with fail
    go_ret
    exact ⟨rfl, HB1.out⟩
  by_cases lc : (300 : Int) < (c.length : Int)
  · have dc : decide ((300 : Int) < (c.length : Int)) = true := by simpa using lc
    have da : decide ((300 : Int) < (a.length : Int)) = false := by simpa using la
    have db : decide ((300 : Int) < (b.length : Int)) = false := by simpa using lb
    clear ha hb hc la lb lc
    go_enter Try.func7, Try.ntmps7
    go_wp2_with fail
    refine (awake_any _).mono ?_
    rintro e w1 ⟨rfl, hb⟩
    have HB1 := Lib.hid (HB0.out.trans (hb.mono HB0.out.size))
    clear hb HB0
    go_wp2_with fail
    go_ret
    exact ⟨rfl, HB1.out⟩
  cases ma : may a with
  | false =>
    have da : decide ((300 : Int) < (a.length : Int)) = false := by simpa using la
    have db : decide ((300 : Int) < (b.length : Int)) = false := by simpa using lb
    have dc : decide ((300 : Int) < (c.length : Int)) = false := by simpa using lc
    have MA : Hid (∀ w1, Below w.heap.size w w1 → Calls Try.prog 16 #[.slice aa a.length ca] w1 fun e w' => e = .returned (.bool false) ∧ Below w1.heap.size w1 w') := fun w1 h => by
      have := may_any (HA.out.below h); rwa [ma] at this
    clear ha hb hc ma la lb lc
    go_enter Try.func7, Try.ntmps7
    go_wp2_with fail
    refine (awake_any _).mono ?_
    rintro e w1 ⟨rfl, hb⟩
    have HB1 := Lib.hid (HB0.out.trans (hb.mono HB0.out.size))
    clear hb HB0
    go_wp2_with fail
    refine (MA.out _ HB1.out).mono ?_
    rintro e w2 ⟨rfl, hb⟩
    have HB2 := Lib.hid (HB1.out.trans (hb.mono HB1.out.size))
    clear hb HB1
    go_wp2_with fail
    go_ret
    exact ⟨rfl, HB2.out⟩
  | true =>
    cases mb : may b with
    | false =>
      have da : decide ((300 : Int) < (a.length : Int)) = false := by simpa using la
      have db : decide ((300 : Int) < (b.length : Int)) = false := by simpa using lb
      have dc : decide ((300 : Int) < (c.length : Int)) = false := by simpa using lc
      have MA : Hid (∀ w1, Below w.heap.size w w1 → Calls Try.prog 16 #[.slice aa a.length ca] w1 fun e w' => e = .returned (.bool true) ∧ Below w1.heap.size w1 w') := fun w1 h => by
        have := may_any (HA.out.below h); rwa [ma] at this
      have MB : Hid (∀ w1, Below w.heap.size w w1 → Calls Try.prog 16 #[.slice ab b.length cb] w1 fun e w' => e = .returned (.bool false) ∧ Below w1.heap.size w1 w') := fun w1 h => by
        have := may_any (HB.out.below h); rwa [mb] at this
      clear ha hb hc ma mb la lb lc
      go_enter Try.func7, Try.ntmps7
      go_wp2_with fail
      refine (awake_any _).mono ?_
      rintro e w1 ⟨rfl, hb⟩
      have HB1 := Lib.hid (HB0.out.trans (hb.mono HB0.out.size))
      clear hb HB0
      go_wp2_with fail
      refine (MA.out _ HB1.out).mono ?_
      rintro e w2 ⟨rfl, hb⟩
      have HB2 := Lib.hid (HB1.out.trans (hb.mono HB1.out.size))
      clear hb HB1
      go_wp2_with fail
      refine (MB.out _ HB2.out).mono ?_
      rintro e w3 ⟨rfl, hb⟩
      have HB3 := Lib.hid (HB2.out.trans (hb.mono HB2.out.size))
      clear hb HB2
      go_wp2_with fail
      go_ret
      exact ⟨rfl, HB3.out⟩
    | true =>
      cases mc : may c with
      | false =>
        have da : decide ((300 : Int) < (a.length : Int)) = false := by simpa using la
        have db : decide ((300 : Int) < (b.length : Int)) = false := by simpa using lb
        have dc : decide ((300 : Int) < (c.length : Int)) = false := by simpa using lc
        have MA : Hid (∀ w1, Below w.heap.size w w1 → Calls Try.prog 16 #[.slice aa a.length ca] w1 fun e w' => e = .returned (.bool true) ∧ Below w1.heap.size w1 w') := fun w1 h => by
          have := may_any (HA.out.below h); rwa [ma] at this
        have MB : Hid (∀ w1, Below w.heap.size w w1 → Calls Try.prog 16 #[.slice ab b.length cb] w1 fun e w' => e = .returned (.bool true) ∧ Below w1.heap.size w1 w') := fun w1 h => by
          have := may_any (HB.out.below h); rwa [mb] at this
        have MC : Hid (∀ w1, Below w.heap.size w w1 → Calls Try.prog 16 #[.slice ac c.length cc] w1 fun e w' => e = .returned (.bool false) ∧ Below w1.heap.size w1 w') := fun w1 h => by
          have := may_any (HC.out.below h); rwa [mc] at this
        clear ha hb hc ma mb mc la lb lc
        go_enter Try.func7, Try.ntmps7
        go_wp2_with fail
        refine (awake_any _).mono ?_
        rintro e w1 ⟨rfl, hb⟩
        have HB1 := Lib.hid (HB0.out.trans (hb.mono HB0.out.size))
        clear hb HB0
        go_wp2_with fail
        refine (MA.out _ HB1.out).mono ?_
        rintro e w2 ⟨rfl, hb⟩
        have HB2 := Lib.hid (HB1.out.trans (hb.mono HB1.out.size))
        clear hb HB1
        go_wp2_with fail
        refine (MB.out _ HB2.out).mono ?_
        rintro e w3 ⟨rfl, hb⟩
        have HB3 := Lib.hid (HB2.out.trans (hb.mono HB2.out.size))
        clear hb HB2
        go_wp2_with fail
        refine (MC.out _ HB3.out).mono ?_
        rintro e w4 ⟨rfl, hb⟩
        have HB4 := Lib.hid (HB3.out.trans (hb.mono HB3.out.size))
        clear hb HB3
        go_wp2_with fail
        go_ret
        exact ⟨rfl, HB4.out⟩
      | true =>
        by_cases h0 : indexR a b 0 < 0
        · exact repl_w_none ha hb hc (by omega) (by omega) (by omega) (may_iff.1 ma) (may_iff.1 mb) (may_iff.1 mc) h0
        · by_cases h1 : 1099511627776 < sz a - sz b + sz c
          · exact repl_w_long ha hb hc (by omega) (by omega) (by omega) (may_iff.1 ma) (may_iff.1 mb) (may_iff.1 mc) h0 h1
          · exact repl_w_some ha hb hc (by omega) (by omega) (by omega) (may_iff.1 ma) (may_iff.1 mb) (may_iff.1 mc) h0 h1

end Go.Proofs.Ytdjapppfjpgidaa
