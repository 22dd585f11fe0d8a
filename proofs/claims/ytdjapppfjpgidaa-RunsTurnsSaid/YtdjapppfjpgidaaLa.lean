/- The walk of RunsParts. -/
import Derived.Test.YtdjapppfjpgidaaPc
import Derived.Test.YtdjapppfjpgidaaRu
namespace Go.Proofs.Ytdjapppfjpgidaa
open Go.RowKit

theorem texts_same {w : World} {P Q : Nat → Prop} {v u : Value} {xs : List Run} (h : Rr w P v xs) (k : Rr w Q u xs) (hl : xs.length ≤ 1000000000000) :
    Calls Try.prog 12 #[v, u] w fun e w' => e = .returned (.bool true) ∧ Below w.heap.size w w' := by
  have := texts_any h k hl
  simpa using this

set_option maxHeartbeats 4000000 in
theorem parts_110 {w : World} {P : Nat → Prop} {a : Option Addr} {c : Nat} {s : List Run} (hs : Rr w P (.slice a s.length c) s) (l1 : s.length ≤ 300) (hM : May s) (i n j m : Int) (hi : 0 ≤ i) (hn : 0 ≤ n) (hj : 0 ≤ j) (hm : 0 ≤ m) (hi2 : i ≤ 1099511627776) (hn2 : n ≤ 1099511627776) (hjn : j ≤ n) (hm2 : m ≤ 9223372036854775807) (c1 : n - j < m) (c2 : sz s - i < 0) (c3 : ¬ n < 0) :
    Calls Try.prog 6 #[.slice a s.length c, .int .i64 i, .int .i64 n, .int .i64 j, .int .i64 m] w fun e w' => e = .returned (.bool true) ∧ Below w.heap.size w w' := by
  have HS := Lib.hid hs
  have hA := hM.size
  have HB0 : Hid (Below w.heap.size w w) := Below.refl _ _
  have M : Hid (∀ w1, Below w.heap.size w w1 → Calls Try.prog 16 #[.slice a s.length c] w1 fun e w' => e = .returned (.bool true) ∧ Below w1.heap.size w1 w') := fun w1 h => by
    have := may_any (HS.out.below h); rwa [may_iff.2 hM] at this
  have L : Hid (∀ w1, Below w.heap.size w w1 → Calls Try.prog 18 #[.slice a s.length c] w1 fun e w' => e = .returned (.int .i64 (sz s)) ∧ Below w1.heap.size w1 w') := fun w1 h => by
    have := len_any (HS.out.below h); rwa [len_may hM] at this
  have U1 := Lib.hid fun (w1 : World) (h : Below w.heap.size w w1) => substr_any (HS.out.below h) 0 i (by omega)
  have U2 := Lib.hid fun (w1 : World) (h : Below w.heap.size w w1) => substr_any (HS.out.below h) i (sz s) (by omega)
  have U3 := Lib.hid fun (w1 : World) (h : Below w.heap.size w w1) => substr_any (HS.out.below h) i n (by omega)
  have p2 := parts2 (n := n) (m := m) hM hi hj
  have p3 := parts3 hM hi hn
  simp only [c1, c2, c3, if_true, if_false] at p2 p3
  have U5 : Hid (∀ w1, Below w.heap.size w w1 → Calls Try.prog 13 #[.slice a s.length c, .int .i64 (i + j), .int .i64 (n - j)] w1 (NewR w1 (substr (substr s i n) j m))) := fun w1 h => by
    have := substr_any (HS.out.below h) (i + j) (n - j) (by omega); rwa [← p2] at this
  have C : Hid (∀ {w1 : World} {P1 P2 : Nat → Prop} {v1 v2 : Value}, Rr w1 P1 v1 (substr s 0 i) → Rr w1 P2 v2 (substr s i (sz s)) → Calls Try.prog 23 #[v1, v2] w1 (NewRE w1 (s, 0))) := fun h1 h2 => by
    have := concat_call h1 h2; rwa [parts1 hM hi] at this
  have L3 : Hid (∀ {w1 : World} {P1 : Nat → Prop} {v1 : Value}, Rr w1 P1 v1 (substr s i n) → Calls Try.prog 18 #[v1] w1 fun e w' => e = .returned (.int .i64 (0)) ∧ Below w1.heap.size w1 w') := fun h1 => by
    have := len_any h1; rwa [p3] at this
  have U4 : Hid (∀ {w1 : World} {P1 : Nat → Prop} {v1 : Value}, Rr w1 P1 v1 (substr s i n) → Calls Try.prog 13 #[v1, .int .i64 j, .int .i64 m] w1 (NewR w1 (substr (substr s i n) j m))) := fun h1 => substr_any h1 j m hm2
  have q4 : Hid ((substr (substr s i n) j m).length ≤ 1000000000000) := by
    show _ ≤ _
    have h1 := substr_len (substr s i n) j m
    have h2 := substr_len s i n
    omega
  have l0 : Hid (s.length ≤ 1000000000000) := by show _ ≤ _; omega
  have d300 : decide ((300 : Int) < (s.length : Int)) = false := by simp; omega
  clear p2 p3 hs
  generalize hz0 : sz s = A at *
  generalize substr (substr s i n) j m = q at *
  generalize substr s 0 i = r1 at *
  generalize substr s i A = r2 at *
  generalize substr s i n = r3 at *
  have g1 : decide (i < 0) = false := by simp; omega
  have g2 : decide (n < 0) = false := by simp; omega
  have g3 : decide (j < 0) = false := by simp; omega
  have g4 : decide (m < 0) = false := by simp; omega
  have g5 : decide (1099511627776 < i) = false := by simp; omega
  have g6 : decide (1099511627776 < n) = false := by simp; omega
  have g7 : decide (n < j) = false := by simp; omega
  have w1 : IntKind.i64.wrap (n - j) = n - j := IntWalk.i64_in _ (by omega)
  have w2 : IntKind.i64.wrap (i + j) = i + j := IntWalk.i64_in _ (by omega)
  have w3 : IntKind.i64.wrap (A - i) = A - i := IntWalk.i64_in _ (by omega)
  have d1 : decide (n - j < m) = true := by simp; omega
  have d2 : decide (A - i < 0) = true := by simp; omega
  have d3 : decide (n < 0) = false := by simp; omega
  clear hM hA hi hn hj hm hi2 hn2 hjn hm2 c1 c2 c3 hz0
  go_enter Try.func6, Try.ntmps6
  go_wp2_with fail
  refine (awake_any _).mono ?_
  rintro e w1 ⟨rfl, hb⟩
  have HB1 := Lib.hid (HB0.out.trans (hb.mono HB0.out.size))
  clear hb HB0
  go_wp2_with fail
  refine (M.out _ HB1.out).mono ?_
  rintro e w2 ⟨rfl, hb⟩
  have HB2 := Lib.hid (HB1.out.trans (hb.mono HB1.out.size))
  clear hb HB1
  go_wp2_with fail
  refine (L.out _ HB2.out).mono ?_
  rintro e w3 ⟨rfl, hb⟩
  have HB3 := Lib.hid (HB2.out.trans (hb.mono HB2.out.size))
  clear hb HB2
  go_wp2_with fail
  refine (U1.out _ HB3.out).mono ?_
  rintro e w4 ⟨ra4, rc4, rfl, hr, hb⟩
  have HB4 := Lib.hid (HB3.out.trans (hb.mono HB3.out.size))
  have Q4 := Lib.hid hr
  clear hb hr HB3
  go_wp2_with fail
  refine (U2.out _ HB4.out).mono ?_
  rintro e w5 ⟨ra5, rc5, rfl, hr, hb⟩
  have HB5 := Lib.hid (HB4.out.trans (hb.mono HB4.out.size))
  have Q5 := Lib.hid (Q4.out.below hb)
  have R5 := Lib.hid hr
  clear hb hr HB4 Q4
  go_wp2_with fail
  refine (C.out Q5.out R5.out).mono ?_
  rintro e w6 ⟨ra6, rc6, rfl, hr, hb⟩
  have HB6 := Lib.hid (HB5.out.trans (hb.mono HB5.out.size))
  have Q6 := Lib.hid (Q5.out.below hb)
  have R6 := Lib.hid (R5.out.below hb)
  have S6 := Lib.hid hr
  clear hb hr HB5 Q5 R5
  go_wp2_with fail
  refine (texts_same S6.out (HS.out.below HB6.out) l0.out).mono ?_
  rintro e w7 ⟨rfl, hb⟩
  have HB7 := Lib.hid (HB6.out.trans (hb.mono HB6.out.size))
  have Q7 := Lib.hid (Q6.out.below hb)
  have R7 := Lib.hid (R6.out.below hb)
  have S7 := Lib.hid (S6.out.below hb)
  clear hb HB6 Q6 R6 S6
  go_wp2_with fail
  refine (U3.out _ HB7.out).mono ?_
  rintro e w8 ⟨ra8, rc8, rfl, hr, hb⟩
  have HB8 := Lib.hid (HB7.out.trans (hb.mono HB7.out.size))
  have Q8 := Lib.hid (Q7.out.below hb)
  have R8 := Lib.hid (R7.out.below hb)
  have S8 := Lib.hid (S7.out.below hb)
  have T8 := Lib.hid hr
  clear hb hr HB7 Q7 R7 S7
  go_wp2_with fail
  refine (U4.out T8.out).mono ?_
  rintro e w9 ⟨ra9, rc9, rfl, hr, hb⟩
  have HB9 := Lib.hid (HB8.out.trans (hb.mono HB8.out.size))
  have Q9 := Lib.hid (Q8.out.below hb)
  have R9 := Lib.hid (R8.out.below hb)
  have S9 := Lib.hid (S8.out.below hb)
  have T9 := Lib.hid (T8.out.below hb)
  have V9 := Lib.hid hr
  clear hb hr HB8 Q8 R8 S8 T8
  go_wp2_with fail
  refine (U5.out _ HB9.out).mono ?_
  rintro e w10 ⟨ra10, rc10, rfl, hr, hb⟩
  have HB10 := Lib.hid (HB9.out.trans (hb.mono HB9.out.size))
  have Q10 := Lib.hid (Q9.out.below hb)
  have R10 := Lib.hid (R9.out.below hb)
  have S10 := Lib.hid (S9.out.below hb)
  have T10 := Lib.hid (T9.out.below hb)
  have V10 := Lib.hid (V9.out.below hb)
  have Y10 := Lib.hid hr
  clear hb hr HB9 Q9 R9 S9 T9 V9
  go_wp2_with fail
  refine (texts_same V10.out Y10.out q4.out).mono ?_
  rintro e w11 ⟨rfl, hb⟩
  have HB11 := Lib.hid (HB10.out.trans (hb.mono HB10.out.size))
  have Q11 := Lib.hid (Q10.out.below hb)
  have R11 := Lib.hid (R10.out.below hb)
  have S11 := Lib.hid (S10.out.below hb)
  have T11 := Lib.hid (T10.out.below hb)
  have V11 := Lib.hid (V10.out.below hb)
  have Y11 := Lib.hid (Y10.out.below hb)
  clear hb HB10 Q10 R10 S10 T10 V10 Y10
  go_wp2_with fail
  refine (U3.out _ HB11.out).mono ?_
  rintro e w12 ⟨ra12, rc12, rfl, hr, hb⟩
  have HB12 := Lib.hid (HB11.out.trans (hb.mono HB11.out.size))
  have Q12 := Lib.hid (Q11.out.below hb)
  have R12 := Lib.hid (R11.out.below hb)
  have S12 := Lib.hid (S11.out.below hb)
  have T12 := Lib.hid (T11.out.below hb)
  have V12 := Lib.hid (V11.out.below hb)
  have Y12 := Lib.hid (Y11.out.below hb)
  have Z12 := Lib.hid hr
  clear hb hr HB11 Q11 R11 S11 T11 V11 Y11
  go_wp2_with fail
  refine (L3.out Z12.out).mono ?_
  rintro e w13 ⟨rfl, hb⟩
  have HB13 := Lib.hid (HB12.out.trans (hb.mono HB12.out.size))
  have Q13 := Lib.hid (Q12.out.below hb)
  have R13 := Lib.hid (R12.out.below hb)
  have S13 := Lib.hid (S12.out.below hb)
  have T13 := Lib.hid (T12.out.below hb)
  have V13 := Lib.hid (V12.out.below hb)
  have Y13 := Lib.hid (Y12.out.below hb)
  have Z13 := Lib.hid (Z12.out.below hb)
  clear hb HB12 Q12 R12 S12 T12 V12 Y12 Z12
  go_wp2_with fail
  go_ret
  exact ⟨rfl, HB13.out⟩

set_option maxHeartbeats 4000000 in
theorem parts_101 {w : World} {P : Nat → Prop} {a : Option Addr} {c : Nat} {s : List Run} (hs : Rr w P (.slice a s.length c) s) (l1 : s.length ≤ 300) (hM : May s) (i n j m : Int) (hi : 0 ≤ i) (hn : 0 ≤ n) (hj : 0 ≤ j) (hm : 0 ≤ m) (hi2 : i ≤ 1099511627776) (hn2 : n ≤ 1099511627776) (hjn : j ≤ n) (hm2 : m ≤ 9223372036854775807) (c1 : n - j < m) (c2 : ¬ sz s - i < 0) (c3 : n < sz s - i) :
    Calls Try.prog 6 #[.slice a s.length c, .int .i64 i, .int .i64 n, .int .i64 j, .int .i64 m] w fun e w' => e = .returned (.bool true) ∧ Below w.heap.size w w' := by
  have HS := Lib.hid hs
  have hA := hM.size
  have HB0 : Hid (Below w.heap.size w w) := Below.refl _ _
  have M : Hid (∀ w1, Below w.heap.size w w1 → Calls Try.prog 16 #[.slice a s.length c] w1 fun e w' => e = .returned (.bool true) ∧ Below w1.heap.size w1 w') := fun w1 h => by
    have := may_any (HS.out.below h); rwa [may_iff.2 hM] at this
  have L : Hid (∀ w1, Below w.heap.size w w1 → Calls Try.prog 18 #[.slice a s.length c] w1 fun e w' => e = .returned (.int .i64 (sz s)) ∧ Below w1.heap.size w1 w') := fun w1 h => by
    have := len_any (HS.out.below h); rwa [len_may hM] at this
  have U1 := Lib.hid fun (w1 : World) (h : Below w.heap.size w w1) => substr_any (HS.out.below h) 0 i (by omega)
  have U2 := Lib.hid fun (w1 : World) (h : Below w.heap.size w w1) => substr_any (HS.out.below h) i (sz s) (by omega)
  have U3 := Lib.hid fun (w1 : World) (h : Below w.heap.size w w1) => substr_any (HS.out.below h) i n (by omega)
  have p2 := parts2 (n := n) (m := m) hM hi hj
  have p3 := parts3 hM hi hn
  simp only [c1, c2, c3, if_true, if_false] at p2 p3
  have U5 : Hid (∀ w1, Below w.heap.size w w1 → Calls Try.prog 13 #[.slice a s.length c, .int .i64 (i + j), .int .i64 (n - j)] w1 (NewR w1 (substr (substr s i n) j m))) := fun w1 h => by
    have := substr_any (HS.out.below h) (i + j) (n - j) (by omega); rwa [← p2] at this
  have C : Hid (∀ {w1 : World} {P1 P2 : Nat → Prop} {v1 v2 : Value}, Rr w1 P1 v1 (substr s 0 i) → Rr w1 P2 v2 (substr s i (sz s)) → Calls Try.prog 23 #[v1, v2] w1 (NewRE w1 (s, 0))) := fun h1 h2 => by
    have := concat_call h1 h2; rwa [parts1 hM hi] at this
  have L3 : Hid (∀ {w1 : World} {P1 : Nat → Prop} {v1 : Value}, Rr w1 P1 v1 (substr s i n) → Calls Try.prog 18 #[v1] w1 fun e w' => e = .returned (.int .i64 (n)) ∧ Below w1.heap.size w1 w') := fun h1 => by
    have := len_any h1; rwa [p3] at this
  have U4 : Hid (∀ {w1 : World} {P1 : Nat → Prop} {v1 : Value}, Rr w1 P1 v1 (substr s i n) → Calls Try.prog 13 #[v1, .int .i64 j, .int .i64 m] w1 (NewR w1 (substr (substr s i n) j m))) := fun h1 => substr_any h1 j m hm2
  have q4 : Hid ((substr (substr s i n) j m).length ≤ 1000000000000) := by
    show _ ≤ _
    have h1 := substr_len (substr s i n) j m
    have h2 := substr_len s i n
    omega
  have l0 : Hid (s.length ≤ 1000000000000) := by show _ ≤ _; omega
  have d300 : decide ((300 : Int) < (s.length : Int)) = false := by simp; omega
  clear p2 p3 hs
  generalize hz0 : sz s = A at *
  generalize substr (substr s i n) j m = q at *
  generalize substr s 0 i = r1 at *
  generalize substr s i A = r2 at *
  generalize substr s i n = r3 at *
  have g1 : decide (i < 0) = false := by simp; omega
  have g2 : decide (n < 0) = false := by simp; omega
  have g3 : decide (j < 0) = false := by simp; omega
  have g4 : decide (m < 0) = false := by simp; omega
  have g5 : decide (1099511627776 < i) = false := by simp; omega
  have g6 : decide (1099511627776 < n) = false := by simp; omega
  have g7 : decide (n < j) = false := by simp; omega
  have w1 : IntKind.i64.wrap (n - j) = n - j := IntWalk.i64_in _ (by omega)
  have w2 : IntKind.i64.wrap (i + j) = i + j := IntWalk.i64_in _ (by omega)
  have w3 : IntKind.i64.wrap (A - i) = A - i := IntWalk.i64_in _ (by omega)
  have d1 : decide (n - j < m) = true := by simp; omega
  have d2 : decide (A - i < 0) = false := by simp; omega
  have d3 : decide (n < A - i) = true := by simp; omega
  clear hM hA hi hn hj hm hi2 hn2 hjn hm2 c1 c2 c3 hz0
  go_enter Try.func6, Try.ntmps6
  go_wp2_with fail
  refine (awake_any _).mono ?_
  rintro e w1 ⟨rfl, hb⟩
  have HB1 := Lib.hid (HB0.out.trans (hb.mono HB0.out.size))
  clear hb HB0
  go_wp2_with fail
  refine (M.out _ HB1.out).mono ?_
  rintro e w2 ⟨rfl, hb⟩
  have HB2 := Lib.hid (HB1.out.trans (hb.mono HB1.out.size))
  clear hb HB1
  go_wp2_with fail
  refine (L.out _ HB2.out).mono ?_
  rintro e w3 ⟨rfl, hb⟩
  have HB3 := Lib.hid (HB2.out.trans (hb.mono HB2.out.size))
  clear hb HB2
  go_wp2_with fail
  refine (U1.out _ HB3.out).mono ?_
  rintro e w4 ⟨ra4, rc4, rfl, hr, hb⟩
  have HB4 := Lib.hid (HB3.out.trans (hb.mono HB3.out.size))
  have Q4 := Lib.hid hr
  clear hb hr HB3
  go_wp2_with fail
  refine (U2.out _ HB4.out).mono ?_
  rintro e w5 ⟨ra5, rc5, rfl, hr, hb⟩
  have HB5 := Lib.hid (HB4.out.trans (hb.mono HB4.out.size))
  have Q5 := Lib.hid (Q4.out.below hb)
  have R5 := Lib.hid hr
  clear hb hr HB4 Q4
  go_wp2_with fail
  refine (C.out Q5.out R5.out).mono ?_
  rintro e w6 ⟨ra6, rc6, rfl, hr, hb⟩
  have HB6 := Lib.hid (HB5.out.trans (hb.mono HB5.out.size))
  have Q6 := Lib.hid (Q5.out.below hb)
  have R6 := Lib.hid (R5.out.below hb)
  have S6 := Lib.hid hr
  clear hb hr HB5 Q5 R5
  go_wp2_with fail
  refine (texts_same S6.out (HS.out.below HB6.out) l0.out).mono ?_
  rintro e w7 ⟨rfl, hb⟩
  have HB7 := Lib.hid (HB6.out.trans (hb.mono HB6.out.size))
  have Q7 := Lib.hid (Q6.out.below hb)
  have R7 := Lib.hid (R6.out.below hb)
  have S7 := Lib.hid (S6.out.below hb)
  clear hb HB6 Q6 R6 S6
  go_wp2_with fail
  refine (U3.out _ HB7.out).mono ?_
  rintro e w8 ⟨ra8, rc8, rfl, hr, hb⟩
  have HB8 := Lib.hid (HB7.out.trans (hb.mono HB7.out.size))
  have Q8 := Lib.hid (Q7.out.below hb)
  have R8 := Lib.hid (R7.out.below hb)
  have S8 := Lib.hid (S7.out.below hb)
  have T8 := Lib.hid hr
  clear hb hr HB7 Q7 R7 S7
  go_wp2_with fail
  refine (U4.out T8.out).mono ?_
  rintro e w9 ⟨ra9, rc9, rfl, hr, hb⟩
  have HB9 := Lib.hid (HB8.out.trans (hb.mono HB8.out.size))
  have Q9 := Lib.hid (Q8.out.below hb)
  have R9 := Lib.hid (R8.out.below hb)
  have S9 := Lib.hid (S8.out.below hb)
  have T9 := Lib.hid (T8.out.below hb)
  have V9 := Lib.hid hr
  clear hb hr HB8 Q8 R8 S8 T8
  go_wp2_with fail
  refine (U5.out _ HB9.out).mono ?_
  rintro e w10 ⟨ra10, rc10, rfl, hr, hb⟩
  have HB10 := Lib.hid (HB9.out.trans (hb.mono HB9.out.size))
  have Q10 := Lib.hid (Q9.out.below hb)
  have R10 := Lib.hid (R9.out.below hb)
  have S10 := Lib.hid (S9.out.below hb)
  have T10 := Lib.hid (T9.out.below hb)
  have V10 := Lib.hid (V9.out.below hb)
  have Y10 := Lib.hid hr
  clear hb hr HB9 Q9 R9 S9 T9 V9
  go_wp2_with fail
  refine (texts_same V10.out Y10.out q4.out).mono ?_
  rintro e w11 ⟨rfl, hb⟩
  have HB11 := Lib.hid (HB10.out.trans (hb.mono HB10.out.size))
  have Q11 := Lib.hid (Q10.out.below hb)
  have R11 := Lib.hid (R10.out.below hb)
  have S11 := Lib.hid (S10.out.below hb)
  have T11 := Lib.hid (T10.out.below hb)
  have V11 := Lib.hid (V10.out.below hb)
  have Y11 := Lib.hid (Y10.out.below hb)
  clear hb HB10 Q10 R10 S10 T10 V10 Y10
  go_wp2_with fail
  refine (U3.out _ HB11.out).mono ?_
  rintro e w12 ⟨ra12, rc12, rfl, hr, hb⟩
  have HB12 := Lib.hid (HB11.out.trans (hb.mono HB11.out.size))
  have Q12 := Lib.hid (Q11.out.below hb)
  have R12 := Lib.hid (R11.out.below hb)
  have S12 := Lib.hid (S11.out.below hb)
  have T12 := Lib.hid (T11.out.below hb)
  have V12 := Lib.hid (V11.out.below hb)
  have Y12 := Lib.hid (Y11.out.below hb)
  have Z12 := Lib.hid hr
  clear hb hr HB11 Q11 R11 S11 T11 V11 Y11
  go_wp2_with fail
  refine (L3.out Z12.out).mono ?_
  rintro e w13 ⟨rfl, hb⟩
  have HB13 := Lib.hid (HB12.out.trans (hb.mono HB12.out.size))
  have Q13 := Lib.hid (Q12.out.below hb)
  have R13 := Lib.hid (R12.out.below hb)
  have S13 := Lib.hid (S12.out.below hb)
  have T13 := Lib.hid (T12.out.below hb)
  have V13 := Lib.hid (V12.out.below hb)
  have Y13 := Lib.hid (Y12.out.below hb)
  have Z13 := Lib.hid (Z12.out.below hb)
  clear hb HB12 Q12 R12 S12 T12 V12 Y12 Z12
  go_wp2_with fail
  go_ret
  exact ⟨rfl, HB13.out⟩

set_option maxHeartbeats 4000000 in
theorem parts_100 {w : World} {P : Nat → Prop} {a : Option Addr} {c : Nat} {s : List Run} (hs : Rr w P (.slice a s.length c) s) (l1 : s.length ≤ 300) (hM : May s) (i n j m : Int) (hi : 0 ≤ i) (hn : 0 ≤ n) (hj : 0 ≤ j) (hm : 0 ≤ m) (hi2 : i ≤ 1099511627776) (hn2 : n ≤ 1099511627776) (hjn : j ≤ n) (hm2 : m ≤ 9223372036854775807) (c1 : n - j < m) (c2 : ¬ sz s - i < 0) (c3 : ¬ n < sz s - i) :
    Calls Try.prog 6 #[.slice a s.length c, .int .i64 i, .int .i64 n, .int .i64 j, .int .i64 m] w fun e w' => e = .returned (.bool true) ∧ Below w.heap.size w w' := by
  have HS := Lib.hid hs
  have hA := hM.size
  have HB0 : Hid (Below w.heap.size w w) := Below.refl _ _
  have M : Hid (∀ w1, Below w.heap.size w w1 → Calls Try.prog 16 #[.slice a s.length c] w1 fun e w' => e = .returned (.bool true) ∧ Below w1.heap.size w1 w') := fun w1 h => by
    have := may_any (HS.out.below h); rwa [may_iff.2 hM] at this
  have L : Hid (∀ w1, Below w.heap.size w w1 → Calls Try.prog 18 #[.slice a s.length c] w1 fun e w' => e = .returned (.int .i64 (sz s)) ∧ Below w1.heap.size w1 w') := fun w1 h => by
    have := len_any (HS.out.below h); rwa [len_may hM] at this
  have U1 := Lib.hid fun (w1 : World) (h : Below w.heap.size w w1) => substr_any (HS.out.below h) 0 i (by omega)
  have U2 := Lib.hid fun (w1 : World) (h : Below w.heap.size w w1) => substr_any (HS.out.below h) i (sz s) (by omega)
  have U3 := Lib.hid fun (w1 : World) (h : Below w.heap.size w w1) => substr_any (HS.out.below h) i n (by omega)
  have p2 := parts2 (n := n) (m := m) hM hi hj
  have p3 := parts3 hM hi hn
  simp only [c1, c2, c3, if_true, if_false] at p2 p3
  have U5 : Hid (∀ w1, Below w.heap.size w w1 → Calls Try.prog 13 #[.slice a s.length c, .int .i64 (i + j), .int .i64 (n - j)] w1 (NewR w1 (substr (substr s i n) j m))) := fun w1 h => by
    have := substr_any (HS.out.below h) (i + j) (n - j) (by omega); rwa [← p2] at this
  have C : Hid (∀ {w1 : World} {P1 P2 : Nat → Prop} {v1 v2 : Value}, Rr w1 P1 v1 (substr s 0 i) → Rr w1 P2 v2 (substr s i (sz s)) → Calls Try.prog 23 #[v1, v2] w1 (NewRE w1 (s, 0))) := fun h1 h2 => by
    have := concat_call h1 h2; rwa [parts1 hM hi] at this
  have L3 : Hid (∀ {w1 : World} {P1 : Nat → Prop} {v1 : Value}, Rr w1 P1 v1 (substr s i n) → Calls Try.prog 18 #[v1] w1 fun e w' => e = .returned (.int .i64 (sz s - i)) ∧ Below w1.heap.size w1 w') := fun h1 => by
    have := len_any h1; rwa [p3] at this
  have U4 : Hid (∀ {w1 : World} {P1 : Nat → Prop} {v1 : Value}, Rr w1 P1 v1 (substr s i n) → Calls Try.prog 13 #[v1, .int .i64 j, .int .i64 m] w1 (NewR w1 (substr (substr s i n) j m))) := fun h1 => substr_any h1 j m hm2
  have q4 : Hid ((substr (substr s i n) j m).length ≤ 1000000000000) := by
    show _ ≤ _
    have h1 := substr_len (substr s i n) j m
    have h2 := substr_len s i n
    omega
  have l0 : Hid (s.length ≤ 1000000000000) := by show _ ≤ _; omega
  have d300 : decide ((300 : Int) < (s.length : Int)) = false := by simp; omega
  clear p2 p3 hs
  generalize hz0 : sz s = A at *
  generalize substr (substr s i n) j m = q at *
  generalize substr s 0 i = r1 at *
  generalize substr s i A = r2 at *
  generalize substr s i n = r3 at *
  have g1 : decide (i < 0) = false := by simp; omega
  have g2 : decide (n < 0) = false := by simp; omega
  have g3 : decide (j < 0) = false := by simp; omega
  have g4 : decide (m < 0) = false := by simp; omega
  have g5 : decide (1099511627776 < i) = false := by simp; omega
  have g6 : decide (1099511627776 < n) = false := by simp; omega
  have g7 : decide (n < j) = false := by simp; omega
  have w1 : IntKind.i64.wrap (n - j) = n - j := IntWalk.i64_in _ (by omega)
  have w2 : IntKind.i64.wrap (i + j) = i + j := IntWalk.i64_in _ (by omega)
  have w3 : IntKind.i64.wrap (A - i) = A - i := IntWalk.i64_in _ (by omega)
  have d1 : decide (n - j < m) = true := by simp; omega
  have d2 : decide (A - i < 0) = false := by simp; omega
  have d3 : decide (n < A - i) = false := by simp; omega
  clear hM hA hi hn hj hm hi2 hn2 hjn hm2 c1 c2 c3 hz0
  go_enter Try.func6, Try.ntmps6
  go_wp2_with fail
  refine (awake_any _).mono ?_
  rintro e w1 ⟨rfl, hb⟩
  have HB1 := Lib.hid (HB0.out.trans (hb.mono HB0.out.size))
  clear hb HB0
  go_wp2_with fail
  refine (M.out _ HB1.out).mono ?_
  rintro e w2 ⟨rfl, hb⟩
  have HB2 := Lib.hid (HB1.out.trans (hb.mono HB1.out.size))
  clear hb HB1
  go_wp2_with fail
  refine (L.out _ HB2.out).mono ?_
  rintro e w3 ⟨rfl, hb⟩
  have HB3 := Lib.hid (HB2.out.trans (hb.mono HB2.out.size))
  clear hb HB2
  go_wp2_with fail
  refine (U1.out _ HB3.out).mono ?_
  rintro e w4 ⟨ra4, rc4, rfl, hr, hb⟩
  have HB4 := Lib.hid (HB3.out.trans (hb.mono HB3.out.size))
  have Q4 := Lib.hid hr
  clear hb hr HB3
  go_wp2_with fail
  refine (U2.out _ HB4.out).mono ?_
  rintro e w5 ⟨ra5, rc5, rfl, hr, hb⟩
  have HB5 := Lib.hid (HB4.out.trans (hb.mono HB4.out.size))
  have Q5 := Lib.hid (Q4.out.below hb)
  have R5 := Lib.hid hr
  clear hb hr HB4 Q4
  go_wp2_with fail
  refine (C.out Q5.out R5.out).mono ?_
  rintro e w6 ⟨ra6, rc6, rfl, hr, hb⟩
  have HB6 := Lib.hid (HB5.out.trans (hb.mono HB5.out.size))
  have Q6 := Lib.hid (Q5.out.below hb)
  have R6 := Lib.hid (R5.out.below hb)
  have S6 := Lib.hid hr
  clear hb hr HB5 Q5 R5
  go_wp2_with fail
  refine (texts_same S6.out (HS.out.below HB6.out) l0.out).mono ?_
  rintro e w7 ⟨rfl, hb⟩
  have HB7 := Lib.hid (HB6.out.trans (hb.mono HB6.out.size))
  have Q7 := Lib.hid (Q6.out.below hb)
  have R7 := Lib.hid (R6.out.below hb)
  have S7 := Lib.hid (S6.out.below hb)
  clear hb HB6 Q6 R6 S6
  go_wp2_with fail
  refine (U3.out _ HB7.out).mono ?_
  rintro e w8 ⟨ra8, rc8, rfl, hr, hb⟩
  have HB8 := Lib.hid (HB7.out.trans (hb.mono HB7.out.size))
  have Q8 := Lib.hid (Q7.out.below hb)
  have R8 := Lib.hid (R7.out.below hb)
  have S8 := Lib.hid (S7.out.below hb)
  have T8 := Lib.hid hr
  clear hb hr HB7 Q7 R7 S7
  go_wp2_with fail
  refine (U4.out T8.out).mono ?_
  rintro e w9 ⟨ra9, rc9, rfl, hr, hb⟩
  have HB9 := Lib.hid (HB8.out.trans (hb.mono HB8.out.size))
  have Q9 := Lib.hid (Q8.out.below hb)
  have R9 := Lib.hid (R8.out.below hb)
  have S9 := Lib.hid (S8.out.below hb)
  have T9 := Lib.hid (T8.out.below hb)
  have V9 := Lib.hid hr
  clear hb hr HB8 Q8 R8 S8 T8
  go_wp2_with fail
  refine (U5.out _ HB9.out).mono ?_
  rintro e w10 ⟨ra10, rc10, rfl, hr, hb⟩
  have HB10 := Lib.hid (HB9.out.trans (hb.mono HB9.out.size))
  have Q10 := Lib.hid (Q9.out.below hb)
  have R10 := Lib.hid (R9.out.below hb)
  have S10 := Lib.hid (S9.out.below hb)
  have T10 := Lib.hid (T9.out.below hb)
  have V10 := Lib.hid (V9.out.below hb)
  have Y10 := Lib.hid hr
  clear hb hr HB9 Q9 R9 S9 T9 V9
  go_wp2_with fail
  refine (texts_same V10.out Y10.out q4.out).mono ?_
  rintro e w11 ⟨rfl, hb⟩
  have HB11 := Lib.hid (HB10.out.trans (hb.mono HB10.out.size))
  have Q11 := Lib.hid (Q10.out.below hb)
  have R11 := Lib.hid (R10.out.below hb)
  have S11 := Lib.hid (S10.out.below hb)
  have T11 := Lib.hid (T10.out.below hb)
  have V11 := Lib.hid (V10.out.below hb)
  have Y11 := Lib.hid (Y10.out.below hb)
  clear hb HB10 Q10 R10 S10 T10 V10 Y10
  go_wp2_with fail
  refine (U3.out _ HB11.out).mono ?_
  rintro e w12 ⟨ra12, rc12, rfl, hr, hb⟩
  have HB12 := Lib.hid (HB11.out.trans (hb.mono HB11.out.size))
  have Q12 := Lib.hid (Q11.out.below hb)
  have R12 := Lib.hid (R11.out.below hb)
  have S12 := Lib.hid (S11.out.below hb)
  have T12 := Lib.hid (T11.out.below hb)
  have V12 := Lib.hid (V11.out.below hb)
  have Y12 := Lib.hid (Y11.out.below hb)
  have Z12 := Lib.hid hr
  clear hb hr HB11 Q11 R11 S11 T11 V11 Y11
  go_wp2_with fail
  refine (L3.out Z12.out).mono ?_
  rintro e w13 ⟨rfl, hb⟩
  have HB13 := Lib.hid (HB12.out.trans (hb.mono HB12.out.size))
  have Q13 := Lib.hid (Q12.out.below hb)
  have R13 := Lib.hid (R12.out.below hb)
  have S13 := Lib.hid (S12.out.below hb)
  have T13 := Lib.hid (T12.out.below hb)
  have V13 := Lib.hid (V12.out.below hb)
  have Y13 := Lib.hid (Y12.out.below hb)
  have Z13 := Lib.hid (Z12.out.below hb)
  clear hb HB12 Q12 R12 S12 T12 V12 Y12 Z12
  go_wp2_with fail
  go_ret
  exact ⟨rfl, HB13.out⟩

set_option maxHeartbeats 4000000 in
theorem parts_010 {w : World} {P : Nat → Prop} {a : Option Addr} {c : Nat} {s : List Run} (hs : Rr w P (.slice a s.length c) s) (l1 : s.length ≤ 300) (hM : May s) (i n j m : Int) (hi : 0 ≤ i) (hn : 0 ≤ n) (hj : 0 ≤ j) (hm : 0 ≤ m) (hi2 : i ≤ 1099511627776) (hn2 : n ≤ 1099511627776) (hjn : j ≤ n) (hm2 : m ≤ 9223372036854775807) (c1 : ¬ n - j < m) (c2 : sz s - i < 0) (c3 : ¬ n < 0) :
    Calls Try.prog 6 #[.slice a s.length c, .int .i64 i, .int .i64 n, .int .i64 j, .int .i64 m] w fun e w' => e = .returned (.bool true) ∧ Below w.heap.size w w' := by
  have HS := Lib.hid hs
  have hA := hM.size
  have HB0 : Hid (Below w.heap.size w w) := Below.refl _ _
  have M : Hid (∀ w1, Below w.heap.size w w1 → Calls Try.prog 16 #[.slice a s.length c] w1 fun e w' => e = .returned (.bool true) ∧ Below w1.heap.size w1 w') := fun w1 h => by
    have := may_any (HS.out.below h); rwa [may_iff.2 hM] at this
  have L : Hid (∀ w1, Below w.heap.size w w1 → Calls Try.prog 18 #[.slice a s.length c] w1 fun e w' => e = .returned (.int .i64 (sz s)) ∧ Below w1.heap.size w1 w') := fun w1 h => by
    have := len_any (HS.out.below h); rwa [len_may hM] at this
  have U1 := Lib.hid fun (w1 : World) (h : Below w.heap.size w w1) => substr_any (HS.out.below h) 0 i (by omega)
  have U2 := Lib.hid fun (w1 : World) (h : Below w.heap.size w w1) => substr_any (HS.out.below h) i (sz s) (by omega)
  have U3 := Lib.hid fun (w1 : World) (h : Below w.heap.size w w1) => substr_any (HS.out.below h) i n (by omega)
  have p2 := parts2 (n := n) (m := m) hM hi hj
  have p3 := parts3 hM hi hn
  simp only [c1, c2, c3, if_true, if_false] at p2 p3
  have U5 : Hid (∀ w1, Below w.heap.size w w1 → Calls Try.prog 13 #[.slice a s.length c, .int .i64 (i + j), .int .i64 (m)] w1 (NewR w1 (substr (substr s i n) j m))) := fun w1 h => by
    have := substr_any (HS.out.below h) (i + j) (m) (by omega); rwa [← p2] at this
  have C : Hid (∀ {w1 : World} {P1 P2 : Nat → Prop} {v1 v2 : Value}, Rr w1 P1 v1 (substr s 0 i) → Rr w1 P2 v2 (substr s i (sz s)) → Calls Try.prog 23 #[v1, v2] w1 (NewRE w1 (s, 0))) := fun h1 h2 => by
    have := concat_call h1 h2; rwa [parts1 hM hi] at this
  have L3 : Hid (∀ {w1 : World} {P1 : Nat → Prop} {v1 : Value}, Rr w1 P1 v1 (substr s i n) → Calls Try.prog 18 #[v1] w1 fun e w' => e = .returned (.int .i64 (0)) ∧ Below w1.heap.size w1 w') := fun h1 => by
    have := len_any h1; rwa [p3] at this
  have U4 : Hid (∀ {w1 : World} {P1 : Nat → Prop} {v1 : Value}, Rr w1 P1 v1 (substr s i n) → Calls Try.prog 13 #[v1, .int .i64 j, .int .i64 m] w1 (NewR w1 (substr (substr s i n) j m))) := fun h1 => substr_any h1 j m hm2
  have q4 : Hid ((substr (substr s i n) j m).length ≤ 1000000000000) := by
    show _ ≤ _
    have h1 := substr_len (substr s i n) j m
    have h2 := substr_len s i n
    omega
  have l0 : Hid (s.length ≤ 1000000000000) := by show _ ≤ _; omega
  have d300 : decide ((300 : Int) < (s.length : Int)) = false := by simp; omega
  clear p2 p3 hs
  generalize hz0 : sz s = A at *
  generalize substr (substr s i n) j m = q at *
  generalize substr s 0 i = r1 at *
  generalize substr s i A = r2 at *
  generalize substr s i n = r3 at *
  have g1 : decide (i < 0) = false := by simp; omega
  have g2 : decide (n < 0) = false := by simp; omega
  have g3 : decide (j < 0) = false := by simp; omega
  have g4 : decide (m < 0) = false := by simp; omega
  have g5 : decide (1099511627776 < i) = false := by simp; omega
  have g6 : decide (1099511627776 < n) = false := by simp; omega
  have g7 : decide (n < j) = false := by simp; omega
  have w1 : IntKind.i64.wrap (n - j) = n - j := IntWalk.i64_in _ (by omega)
  have w2 : IntKind.i64.wrap (i + j) = i + j := IntWalk.i64_in _ (by omega)
  have w3 : IntKind.i64.wrap (A - i) = A - i := IntWalk.i64_in _ (by omega)
  have d1 : decide (n - j < m) = false := by simp; omega
  have d2 : decide (A - i < 0) = true := by simp; omega
  have d3 : decide (n < 0) = false := by simp; omega
  clear hM hA hi hn hj hm hi2 hn2 hjn hm2 c1 c2 c3 hz0
  go_enter Try.func6, Try.ntmps6
  go_wp2_with fail
  refine (awake_any _).mono ?_
  rintro e w1 ⟨rfl, hb⟩
  have HB1 := Lib.hid (HB0.out.trans (hb.mono HB0.out.size))
  clear hb HB0
  go_wp2_with fail
  refine (M.out _ HB1.out).mono ?_
  rintro e w2 ⟨rfl, hb⟩
  have HB2 := Lib.hid (HB1.out.trans (hb.mono HB1.out.size))
  clear hb HB1
  go_wp2_with fail
  refine (L.out _ HB2.out).mono ?_
  rintro e w3 ⟨rfl, hb⟩
  have HB3 := Lib.hid (HB2.out.trans (hb.mono HB2.out.size))
  clear hb HB2
  go_wp2_with fail
  refine (U1.out _ HB3.out).mono ?_
  rintro e w4 ⟨ra4, rc4, rfl, hr, hb⟩
  have HB4 := Lib.hid (HB3.out.trans (hb.mono HB3.out.size))
  have Q4 := Lib.hid hr
  clear hb hr HB3
  go_wp2_with fail
  refine (U2.out _ HB4.out).mono ?_
  rintro e w5 ⟨ra5, rc5, rfl, hr, hb⟩
  have HB5 := Lib.hid (HB4.out.trans (hb.mono HB4.out.size))
  have Q5 := Lib.hid (Q4.out.below hb)
  have R5 := Lib.hid hr
  clear hb hr HB4 Q4
  go_wp2_with fail
  refine (C.out Q5.out R5.out).mono ?_
  rintro e w6 ⟨ra6, rc6, rfl, hr, hb⟩
  have HB6 := Lib.hid (HB5.out.trans (hb.mono HB5.out.size))
  have Q6 := Lib.hid (Q5.out.below hb)
  have R6 := Lib.hid (R5.out.below hb)
  have S6 := Lib.hid hr
  clear hb hr HB5 Q5 R5
  go_wp2_with fail
  refine (texts_same S6.out (HS.out.below HB6.out) l0.out).mono ?_
  rintro e w7 ⟨rfl, hb⟩
  have HB7 := Lib.hid (HB6.out.trans (hb.mono HB6.out.size))
  have Q7 := Lib.hid (Q6.out.below hb)
  have R7 := Lib.hid (R6.out.below hb)
  have S7 := Lib.hid (S6.out.below hb)
  clear hb HB6 Q6 R6 S6
  go_wp2_with fail
  refine (U3.out _ HB7.out).mono ?_
  rintro e w8 ⟨ra8, rc8, rfl, hr, hb⟩
  have HB8 := Lib.hid (HB7.out.trans (hb.mono HB7.out.size))
  have Q8 := Lib.hid (Q7.out.below hb)
  have R8 := Lib.hid (R7.out.below hb)
  have S8 := Lib.hid (S7.out.below hb)
  have T8 := Lib.hid hr
  clear hb hr HB7 Q7 R7 S7
  go_wp2_with fail
  refine (U4.out T8.out).mono ?_
  rintro e w9 ⟨ra9, rc9, rfl, hr, hb⟩
  have HB9 := Lib.hid (HB8.out.trans (hb.mono HB8.out.size))
  have Q9 := Lib.hid (Q8.out.below hb)
  have R9 := Lib.hid (R8.out.below hb)
  have S9 := Lib.hid (S8.out.below hb)
  have T9 := Lib.hid (T8.out.below hb)
  have V9 := Lib.hid hr
  clear hb hr HB8 Q8 R8 S8 T8
  go_wp2_with fail
  refine (U5.out _ HB9.out).mono ?_
  rintro e w10 ⟨ra10, rc10, rfl, hr, hb⟩
  have HB10 := Lib.hid (HB9.out.trans (hb.mono HB9.out.size))
  have Q10 := Lib.hid (Q9.out.below hb)
  have R10 := Lib.hid (R9.out.below hb)
  have S10 := Lib.hid (S9.out.below hb)
  have T10 := Lib.hid (T9.out.below hb)
  have V10 := Lib.hid (V9.out.below hb)
  have Y10 := Lib.hid hr
  clear hb hr HB9 Q9 R9 S9 T9 V9
  go_wp2_with fail
  refine (texts_same V10.out Y10.out q4.out).mono ?_
  rintro e w11 ⟨rfl, hb⟩
  have HB11 := Lib.hid (HB10.out.trans (hb.mono HB10.out.size))
  have Q11 := Lib.hid (Q10.out.below hb)
  have R11 := Lib.hid (R10.out.below hb)
  have S11 := Lib.hid (S10.out.below hb)
  have T11 := Lib.hid (T10.out.below hb)
  have V11 := Lib.hid (V10.out.below hb)
  have Y11 := Lib.hid (Y10.out.below hb)
  clear hb HB10 Q10 R10 S10 T10 V10 Y10
  go_wp2_with fail
  refine (U3.out _ HB11.out).mono ?_
  rintro e w12 ⟨ra12, rc12, rfl, hr, hb⟩
  have HB12 := Lib.hid (HB11.out.trans (hb.mono HB11.out.size))
  have Q12 := Lib.hid (Q11.out.below hb)
  have R12 := Lib.hid (R11.out.below hb)
  have S12 := Lib.hid (S11.out.below hb)
  have T12 := Lib.hid (T11.out.below hb)
  have V12 := Lib.hid (V11.out.below hb)
  have Y12 := Lib.hid (Y11.out.below hb)
  have Z12 := Lib.hid hr
  clear hb hr HB11 Q11 R11 S11 T11 V11 Y11
  go_wp2_with fail
  refine (L3.out Z12.out).mono ?_
  rintro e w13 ⟨rfl, hb⟩
  have HB13 := Lib.hid (HB12.out.trans (hb.mono HB12.out.size))
  have Q13 := Lib.hid (Q12.out.below hb)
  have R13 := Lib.hid (R12.out.below hb)
  have S13 := Lib.hid (S12.out.below hb)
  have T13 := Lib.hid (T12.out.below hb)
  have V13 := Lib.hid (V12.out.below hb)
  have Y13 := Lib.hid (Y12.out.below hb)
  have Z13 := Lib.hid (Z12.out.below hb)
  clear hb HB12 Q12 R12 S12 T12 V12 Y12 Z12
  go_wp2_with fail
  go_ret
  exact ⟨rfl, HB13.out⟩

set_option maxHeartbeats 4000000 in
theorem parts_001 {w : World} {P : Nat → Prop} {a : Option Addr} {c : Nat} {s : List Run} (hs : Rr w P (.slice a s.length c) s) (l1 : s.length ≤ 300) (hM : May s) (i n j m : Int) (hi : 0 ≤ i) (hn : 0 ≤ n) (hj : 0 ≤ j) (hm : 0 ≤ m) (hi2 : i ≤ 1099511627776) (hn2 : n ≤ 1099511627776) (hjn : j ≤ n) (hm2 : m ≤ 9223372036854775807) (c1 : ¬ n - j < m) (c2 : ¬ sz s - i < 0) (c3 : n < sz s - i) :
    Calls Try.prog 6 #[.slice a s.length c, .int .i64 i, .int .i64 n, .int .i64 j, .int .i64 m] w fun e w' => e = .returned (.bool true) ∧ Below w.heap.size w w' := by
  have HS := Lib.hid hs
  have hA := hM.size
  have HB0 : Hid (Below w.heap.size w w) := Below.refl _ _
  have M : Hid (∀ w1, Below w.heap.size w w1 → Calls Try.prog 16 #[.slice a s.length c] w1 fun e w' => e = .returned (.bool true) ∧ Below w1.heap.size w1 w') := fun w1 h => by
    have := may_any (HS.out.below h); rwa [may_iff.2 hM] at this
  have L : Hid (∀ w1, Below w.heap.size w w1 → Calls Try.prog 18 #[.slice a s.length c] w1 fun e w' => e = .returned (.int .i64 (sz s)) ∧ Below w1.heap.size w1 w') := fun w1 h => by
    have := len_any (HS.out.below h); rwa [len_may hM] at this
  have U1 := Lib.hid fun (w1 : World) (h : Below w.heap.size w w1) => substr_any (HS.out.below h) 0 i (by omega)
  have U2 := Lib.hid fun (w1 : World) (h : Below w.heap.size w w1) => substr_any (HS.out.below h) i (sz s) (by omega)
  have U3 := Lib.hid fun (w1 : World) (h : Below w.heap.size w w1) => substr_any (HS.out.below h) i n (by omega)
  have p2 := parts2 (n := n) (m := m) hM hi hj
  have p3 := parts3 hM hi hn
  simp only [c1, c2, c3, if_true, if_false] at p2 p3
  have U5 : Hid (∀ w1, Below w.heap.size w w1 → Calls Try.prog 13 #[.slice a s.length c, .int .i64 (i + j), .int .i64 (m)] w1 (NewR w1 (substr (substr s i n) j m))) := fun w1 h => by
    have := substr_any (HS.out.below h) (i + j) (m) (by omega); rwa [← p2] at this
  have C : Hid (∀ {w1 : World} {P1 P2 : Nat → Prop} {v1 v2 : Value}, Rr w1 P1 v1 (substr s 0 i) → Rr w1 P2 v2 (substr s i (sz s)) → Calls Try.prog 23 #[v1, v2] w1 (NewRE w1 (s, 0))) := fun h1 h2 => by
    have := concat_call h1 h2; rwa [parts1 hM hi] at this
  have L3 : Hid (∀ {w1 : World} {P1 : Nat → Prop} {v1 : Value}, Rr w1 P1 v1 (substr s i n) → Calls Try.prog 18 #[v1] w1 fun e w' => e = .returned (.int .i64 (n)) ∧ Below w1.heap.size w1 w') := fun h1 => by
    have := len_any h1; rwa [p3] at this
  have U4 : Hid (∀ {w1 : World} {P1 : Nat → Prop} {v1 : Value}, Rr w1 P1 v1 (substr s i n) → Calls Try.prog 13 #[v1, .int .i64 j, .int .i64 m] w1 (NewR w1 (substr (substr s i n) j m))) := fun h1 => substr_any h1 j m hm2
  have q4 : Hid ((substr (substr s i n) j m).length ≤ 1000000000000) := by
    show _ ≤ _
    have h1 := substr_len (substr s i n) j m
    have h2 := substr_len s i n
    omega
  have l0 : Hid (s.length ≤ 1000000000000) := by show _ ≤ _; omega
  have d300 : decide ((300 : Int) < (s.length : Int)) = false := by simp; omega
  clear p2 p3 hs
  generalize hz0 : sz s = A at *
  generalize substr (substr s i n) j m = q at *
  generalize substr s 0 i = r1 at *
  generalize substr s i A = r2 at *
  generalize substr s i n = r3 at *
  have g1 : decide (i < 0) = false := by simp; omega
  have g2 : decide (n < 0) = false := by simp; omega
  have g3 : decide (j < 0) = false := by simp; omega
  have g4 : decide (m < 0) = false := by simp; omega
  have g5 : decide (1099511627776 < i) = false := by simp; omega
  have g6 : decide (1099511627776 < n) = false := by simp; omega
  have g7 : decide (n < j) = false := by simp; omega
  have w1 : IntKind.i64.wrap (n - j) = n - j := IntWalk.i64_in _ (by omega)
  have w2 : IntKind.i64.wrap (i + j) = i + j := IntWalk.i64_in _ (by omega)
  have w3 : IntKind.i64.wrap (A - i) = A - i := IntWalk.i64_in _ (by omega)
  have d1 : decide (n - j < m) = false := by simp; omega
  have d2 : decide (A - i < 0) = false := by simp; omega
  have d3 : decide (n < A - i) = true := by simp; omega
  clear hM hA hi hn hj hm hi2 hn2 hjn hm2 c1 c2 c3 hz0
  go_enter Try.func6, Try.ntmps6
  go_wp2_with fail
  refine (awake_any _).mono ?_
  rintro e w1 ⟨rfl, hb⟩
  have HB1 := Lib.hid (HB0.out.trans (hb.mono HB0.out.size))
  clear hb HB0
  go_wp2_with fail
  refine (M.out _ HB1.out).mono ?_
  rintro e w2 ⟨rfl, hb⟩
  have HB2 := Lib.hid (HB1.out.trans (hb.mono HB1.out.size))
  clear hb HB1
  go_wp2_with fail
  refine (L.out _ HB2.out).mono ?_
  rintro e w3 ⟨rfl, hb⟩
  have HB3 := Lib.hid (HB2.out.trans (hb.mono HB2.out.size))
  clear hb HB2
  go_wp2_with fail
  refine (U1.out _ HB3.out).mono ?_
  rintro e w4 ⟨ra4, rc4, rfl, hr, hb⟩
  have HB4 := Lib.hid (HB3.out.trans (hb.mono HB3.out.size))
  have Q4 := Lib.hid hr
  clear hb hr HB3
  go_wp2_with fail
  refine (U2.out _ HB4.out).mono ?_
  rintro e w5 ⟨ra5, rc5, rfl, hr, hb⟩
  have HB5 := Lib.hid (HB4.out.trans (hb.mono HB4.out.size))
  have Q5 := Lib.hid (Q4.out.below hb)
  have R5 := Lib.hid hr
  clear hb hr HB4 Q4
  go_wp2_with fail
  refine (C.out Q5.out R5.out).mono ?_
  rintro e w6 ⟨ra6, rc6, rfl, hr, hb⟩
  have HB6 := Lib.hid (HB5.out.trans (hb.mono HB5.out.size))
  have Q6 := Lib.hid (Q5.out.below hb)
  have R6 := Lib.hid (R5.out.below hb)
  have S6 := Lib.hid hr
  clear hb hr HB5 Q5 R5
  go_wp2_with fail
  refine (texts_same S6.out (HS.out.below HB6.out) l0.out).mono ?_
  rintro e w7 ⟨rfl, hb⟩
  have HB7 := Lib.hid (HB6.out.trans (hb.mono HB6.out.size))
  have Q7 := Lib.hid (Q6.out.below hb)
  have R7 := Lib.hid (R6.out.below hb)
  have S7 := Lib.hid (S6.out.below hb)
  clear hb HB6 Q6 R6 S6
  go_wp2_with fail
  refine (U3.out _ HB7.out).mono ?_
  rintro e w8 ⟨ra8, rc8, rfl, hr, hb⟩
  have HB8 := Lib.hid (HB7.out.trans (hb.mono HB7.out.size))
  have Q8 := Lib.hid (Q7.out.below hb)
  have R8 := Lib.hid (R7.out.below hb)
  have S8 := Lib.hid (S7.out.below hb)
  have T8 := Lib.hid hr
  clear hb hr HB7 Q7 R7 S7
  go_wp2_with fail
  refine (U4.out T8.out).mono ?_
  rintro e w9 ⟨ra9, rc9, rfl, hr, hb⟩
  have HB9 := Lib.hid (HB8.out.trans (hb.mono HB8.out.size))
  have Q9 := Lib.hid (Q8.out.below hb)
  have R9 := Lib.hid (R8.out.below hb)
  have S9 := Lib.hid (S8.out.below hb)
  have T9 := Lib.hid (T8.out.below hb)
  have V9 := Lib.hid hr
  clear hb hr HB8 Q8 R8 S8 T8
  go_wp2_with fail
  refine (U5.out _ HB9.out).mono ?_
  rintro e w10 ⟨ra10, rc10, rfl, hr, hb⟩
  have HB10 := Lib.hid (HB9.out.trans (hb.mono HB9.out.size))
  have Q10 := Lib.hid (Q9.out.below hb)
  have R10 := Lib.hid (R9.out.below hb)
  have S10 := Lib.hid (S9.out.below hb)
  have T10 := Lib.hid (T9.out.below hb)
  have V10 := Lib.hid (V9.out.below hb)
  have Y10 := Lib.hid hr
  clear hb hr HB9 Q9 R9 S9 T9 V9
  go_wp2_with fail
  refine (texts_same V10.out Y10.out q4.out).mono ?_
  rintro e w11 ⟨rfl, hb⟩
  have HB11 := Lib.hid (HB10.out.trans (hb.mono HB10.out.size))
  have Q11 := Lib.hid (Q10.out.below hb)
  have R11 := Lib.hid (R10.out.below hb)
  have S11 := Lib.hid (S10.out.below hb)
  have T11 := Lib.hid (T10.out.below hb)
  have V11 := Lib.hid (V10.out.below hb)
  have Y11 := Lib.hid (Y10.out.below hb)
  clear hb HB10 Q10 R10 S10 T10 V10 Y10
  go_wp2_with fail
  refine (U3.out _ HB11.out).mono ?_
  rintro e w12 ⟨ra12, rc12, rfl, hr, hb⟩
  have HB12 := Lib.hid (HB11.out.trans (hb.mono HB11.out.size))
  have Q12 := Lib.hid (Q11.out.below hb)
  have R12 := Lib.hid (R11.out.below hb)
  have S12 := Lib.hid (S11.out.below hb)
  have T12 := Lib.hid (T11.out.below hb)
  have V12 := Lib.hid (V11.out.below hb)
  have Y12 := Lib.hid (Y11.out.below hb)
  have Z12 := Lib.hid hr
  clear hb hr HB11 Q11 R11 S11 T11 V11 Y11
  go_wp2_with fail
  refine (L3.out Z12.out).mono ?_
  rintro e w13 ⟨rfl, hb⟩
  have HB13 := Lib.hid (HB12.out.trans (hb.mono HB12.out.size))
  have Q13 := Lib.hid (Q12.out.below hb)
  have R13 := Lib.hid (R12.out.below hb)
  have S13 := Lib.hid (S12.out.below hb)
  have T13 := Lib.hid (T12.out.below hb)
  have V13 := Lib.hid (V12.out.below hb)
  have Y13 := Lib.hid (Y12.out.below hb)
  have Z13 := Lib.hid (Z12.out.below hb)
  clear hb HB12 Q12 R12 S12 T12 V12 Y12 Z12
  go_wp2_with fail
  go_ret
  exact ⟨rfl, HB13.out⟩

set_option maxHeartbeats 4000000 in
theorem parts_000 {w : World} {P : Nat → Prop} {a : Option Addr} {c : Nat} {s : List Run} (hs : Rr w P (.slice a s.length c) s) (l1 : s.length ≤ 300) (hM : May s) (i n j m : Int) (hi : 0 ≤ i) (hn : 0 ≤ n) (hj : 0 ≤ j) (hm : 0 ≤ m) (hi2 : i ≤ 1099511627776) (hn2 : n ≤ 1099511627776) (hjn : j ≤ n) (hm2 : m ≤ 9223372036854775807) (c1 : ¬ n - j < m) (c2 : ¬ sz s - i < 0) (c3 : ¬ n < sz s - i) :
    Calls Try.prog 6 #[.slice a s.length c, .int .i64 i, .int .i64 n, .int .i64 j, .int .i64 m] w fun e w' => e = .returned (.bool true) ∧ Below w.heap.size w w' := by
  have HS := Lib.hid hs
  have hA := hM.size
  have HB0 : Hid (Below w.heap.size w w) := Below.refl _ _
  have M : Hid (∀ w1, Below w.heap.size w w1 → Calls Try.prog 16 #[.slice a s.length c] w1 fun e w' => e = .returned (.bool true) ∧ Below w1.heap.size w1 w') := fun w1 h => by
    have := may_any (HS.out.below h); rwa [may_iff.2 hM] at this
  have L : Hid (∀ w1, Below w.heap.size w w1 → Calls Try.prog 18 #[.slice a s.length c] w1 fun e w' => e = .returned (.int .i64 (sz s)) ∧ Below w1.heap.size w1 w') := fun w1 h => by
    have := len_any (HS.out.below h); rwa [len_may hM] at this
  have U1 := Lib.hid fun (w1 : World) (h : Below w.heap.size w w1) => substr_any (HS.out.below h) 0 i (by omega)
  have U2 := Lib.hid fun (w1 : World) (h : Below w.heap.size w w1) => substr_any (HS.out.below h) i (sz s) (by omega)
  have U3 := Lib.hid fun (w1 : World) (h : Below w.heap.size w w1) => substr_any (HS.out.below h) i n (by omega)
  have p2 := parts2 (n := n) (m := m) hM hi hj
  have p3 := parts3 hM hi hn
  simp only [c1, c2, c3, if_false] at p2 p3
  have U5 : Hid (∀ w1, Below w.heap.size w w1 → Calls Try.prog 13 #[.slice a s.length c, .int .i64 (i + j), .int .i64 (m)] w1 (NewR w1 (substr (substr s i n) j m))) := fun w1 h => by
    have := substr_any (HS.out.below h) (i + j) (m) (by omega); rwa [← p2] at this
  have C : Hid (∀ {w1 : World} {P1 P2 : Nat → Prop} {v1 v2 : Value}, Rr w1 P1 v1 (substr s 0 i) → Rr w1 P2 v2 (substr s i (sz s)) → Calls Try.prog 23 #[v1, v2] w1 (NewRE w1 (s, 0))) := fun h1 h2 => by
    have := concat_call h1 h2; rwa [parts1 hM hi] at this
  have L3 : Hid (∀ {w1 : World} {P1 : Nat → Prop} {v1 : Value}, Rr w1 P1 v1 (substr s i n) → Calls Try.prog 18 #[v1] w1 fun e w' => e = .returned (.int .i64 (sz s - i)) ∧ Below w1.heap.size w1 w') := fun h1 => by
    have := len_any h1; rwa [p3] at this
  have U4 : Hid (∀ {w1 : World} {P1 : Nat → Prop} {v1 : Value}, Rr w1 P1 v1 (substr s i n) → Calls Try.prog 13 #[v1, .int .i64 j, .int .i64 m] w1 (NewR w1 (substr (substr s i n) j m))) := fun h1 => substr_any h1 j m hm2
  have q4 : Hid ((substr (substr s i n) j m).length ≤ 1000000000000) := by
    show _ ≤ _
    have h1 := substr_len (substr s i n) j m
    have h2 := substr_len s i n
    omega
  have l0 : Hid (s.length ≤ 1000000000000) := by show _ ≤ _; omega
  have d300 : decide ((300 : Int) < (s.length : Int)) = false := by simp; omega
  clear p2 p3 hs
  generalize hz0 : sz s = A at *
  generalize substr (substr s i n) j m = q at *
  generalize substr s 0 i = r1 at *
  generalize substr s i A = r2 at *
  generalize substr s i n = r3 at *
  have g1 : decide (i < 0) = false := by simp; omega
  have g2 : decide (n < 0) = false := by simp; omega
  have g3 : decide (j < 0) = false := by simp; omega
  have g4 : decide (m < 0) = false := by simp; omega
  have g5 : decide (1099511627776 < i) = false := by simp; omega
  have g6 : decide (1099511627776 < n) = false := by simp; omega
  have g7 : decide (n < j) = false := by simp; omega
  have w1 : IntKind.i64.wrap (n - j) = n - j := IntWalk.i64_in _ (by omega)
  have w2 : IntKind.i64.wrap (i + j) = i + j := IntWalk.i64_in _ (by omega)
  have w3 : IntKind.i64.wrap (A - i) = A - i := IntWalk.i64_in _ (by omega)
  have d1 : decide (n - j < m) = false := by simp; omega
  have d2 : decide (A - i < 0) = false := by simp; omega
  have d3 : decide (n < A - i) = false := by simp; omega
  clear hM hA hi hn hj hm hi2 hn2 hjn hm2 c1 c2 c3 hz0
  go_enter Try.func6, Try.ntmps6
  go_wp2_with fail
  refine (awake_any _).mono ?_
  rintro e w1 ⟨rfl, hb⟩
  have HB1 := Lib.hid (HB0.out.trans (hb.mono HB0.out.size))
  clear hb HB0
  go_wp2_with fail
  refine (M.out _ HB1.out).mono ?_
  rintro e w2 ⟨rfl, hb⟩
  have HB2 := Lib.hid (HB1.out.trans (hb.mono HB1.out.size))
  clear hb HB1
  go_wp2_with fail
  refine (L.out _ HB2.out).mono ?_
  rintro e w3 ⟨rfl, hb⟩
  have HB3 := Lib.hid (HB2.out.trans (hb.mono HB2.out.size))
  clear hb HB2
  go_wp2_with fail
  refine (U1.out _ HB3.out).mono ?_
  rintro e w4 ⟨ra4, rc4, rfl, hr, hb⟩
  have HB4 := Lib.hid (HB3.out.trans (hb.mono HB3.out.size))
  have Q4 := Lib.hid hr
  clear hb hr HB3
  go_wp2_with fail
  refine (U2.out _ HB4.out).mono ?_
  rintro e w5 ⟨ra5, rc5, rfl, hr, hb⟩
  have HB5 := Lib.hid (HB4.out.trans (hb.mono HB4.out.size))
  have Q5 := Lib.hid (Q4.out.below hb)
  have R5 := Lib.hid hr
  clear hb hr HB4 Q4
  go_wp2_with fail
  refine (C.out Q5.out R5.out).mono ?_
  rintro e w6 ⟨ra6, rc6, rfl, hr, hb⟩
  have HB6 := Lib.hid (HB5.out.trans (hb.mono HB5.out.size))
  have Q6 := Lib.hid (Q5.out.below hb)
  have R6 := Lib.hid (R5.out.below hb)
  have S6 := Lib.hid hr
  clear hb hr HB5 Q5 R5
  go_wp2_with fail
  refine (texts_same S6.out (HS.out.below HB6.out) l0.out).mono ?_
  rintro e w7 ⟨rfl, hb⟩
  have HB7 := Lib.hid (HB6.out.trans (hb.mono HB6.out.size))
  have Q7 := Lib.hid (Q6.out.below hb)
  have R7 := Lib.hid (R6.out.below hb)
  have S7 := Lib.hid (S6.out.below hb)
  clear hb HB6 Q6 R6 S6
  go_wp2_with fail
  refine (U3.out _ HB7.out).mono ?_
  rintro e w8 ⟨ra8, rc8, rfl, hr, hb⟩
  have HB8 := Lib.hid (HB7.out.trans (hb.mono HB7.out.size))
  have Q8 := Lib.hid (Q7.out.below hb)
  have R8 := Lib.hid (R7.out.below hb)
  have S8 := Lib.hid (S7.out.below hb)
  have T8 := Lib.hid hr
  clear hb hr HB7 Q7 R7 S7
  go_wp2_with fail
  refine (U4.out T8.out).mono ?_
  rintro e w9 ⟨ra9, rc9, rfl, hr, hb⟩
  have HB9 := Lib.hid (HB8.out.trans (hb.mono HB8.out.size))
  have Q9 := Lib.hid (Q8.out.below hb)
  have R9 := Lib.hid (R8.out.below hb)
  have S9 := Lib.hid (S8.out.below hb)
  have T9 := Lib.hid (T8.out.below hb)
  have V9 := Lib.hid hr
  clear hb hr HB8 Q8 R8 S8 T8
  go_wp2_with fail
  refine (U5.out _ HB9.out).mono ?_
  rintro e w10 ⟨ra10, rc10, rfl, hr, hb⟩
  have HB10 := Lib.hid (HB9.out.trans (hb.mono HB9.out.size))
  have Q10 := Lib.hid (Q9.out.below hb)
  have R10 := Lib.hid (R9.out.below hb)
  have S10 := Lib.hid (S9.out.below hb)
  have T10 := Lib.hid (T9.out.below hb)
  have V10 := Lib.hid (V9.out.below hb)
  have Y10 := Lib.hid hr
  clear hb hr HB9 Q9 R9 S9 T9 V9
  go_wp2_with fail
  refine (texts_same V10.out Y10.out q4.out).mono ?_
  rintro e w11 ⟨rfl, hb⟩
  have HB11 := Lib.hid (HB10.out.trans (hb.mono HB10.out.size))
  have Q11 := Lib.hid (Q10.out.below hb)
  have R11 := Lib.hid (R10.out.below hb)
  have S11 := Lib.hid (S10.out.below hb)
  have T11 := Lib.hid (T10.out.below hb)
  have V11 := Lib.hid (V10.out.below hb)
  have Y11 := Lib.hid (Y10.out.below hb)
  clear hb HB10 Q10 R10 S10 T10 V10 Y10
  go_wp2_with fail
  refine (U3.out _ HB11.out).mono ?_
  rintro e w12 ⟨ra12, rc12, rfl, hr, hb⟩
  have HB12 := Lib.hid (HB11.out.trans (hb.mono HB11.out.size))
  have Q12 := Lib.hid (Q11.out.below hb)
  have R12 := Lib.hid (R11.out.below hb)
  have S12 := Lib.hid (S11.out.below hb)
  have T12 := Lib.hid (T11.out.below hb)
  have V12 := Lib.hid (V11.out.below hb)
  have Y12 := Lib.hid (Y11.out.below hb)
  have Z12 := Lib.hid hr
  clear hb hr HB11 Q11 R11 S11 T11 V11 Y11
  go_wp2_with fail
  refine (L3.out Z12.out).mono ?_
  rintro e w13 ⟨rfl, hb⟩
  have HB13 := Lib.hid (HB12.out.trans (hb.mono HB12.out.size))
  have Q13 := Lib.hid (Q12.out.below hb)
  have R13 := Lib.hid (R12.out.below hb)
  have S13 := Lib.hid (S12.out.below hb)
  have T13 := Lib.hid (T12.out.below hb)
  have V13 := Lib.hid (V12.out.below hb)
  have Y13 := Lib.hid (Y12.out.below hb)
  have Z13 := Lib.hid (Z12.out.below hb)
  clear hb HB12 Q12 R12 S12 T12 V12 Y12 Z12
  go_wp2_with fail
  go_ret
  exact ⟨rfl, HB13.out⟩

end Go.Proofs.Ytdjapppfjpgidaa
