/- The walks of RunsPieces and RunsStands; are texts small? -/
import Derived.Test.YtdjapppfjpgidaaIh
namespace Go.Proofs.Ytdjapppfjpgidaa
open Go.RowKit

set_option maxHeartbeats 4000000 in
theorem small3_any {w : World} {P Q R : Nat → Prop} {v u x : Value} {s t z : List Run} (hs : Rr w P v s) (ht : Rr w Q u t) (hz : Rr w R x z) :
    Calls Try.prog 11 #[v, u, x] w fun e w' => e = .returned (.bool (smallR s 300 && (smallR t 300 && smallR z 300))) ∧ Below w.heap.size w w' := by
  have HB0 : Hid (Below w.heap.size w w) := Below.refl _ _
  have HS := Lib.hid hs
  have HT := Lib.hid ht
  have HZ := Lib.hid hz
  have S1 := Lib.hid fun (w1 : World) (h : Below w.heap.size w w1) => small_any (HS.out.below h) 300
  have S2 := Lib.hid fun (w1 : World) (h : Below w.heap.size w w1) => small_any (HT.out.below h) 300
  have S3 := Lib.hid fun (w1 : World) (h : Below w.heap.size w w1) => small_any (HZ.out.below h) 300
  obtain ⟨a, c, rfl, _⟩ := hs.shape
  obtain ⟨b, d, rfl, _⟩ := ht.shape
  obtain ⟨f, g, rfl, _⟩ := hz.shape
  clear hs ht hz
  generalize smallR s 300 = p at *
  generalize smallR t 300 = q at *
  generalize smallR z 300 = r at *
  cases p <;> cases q <;> cases r
  all_goals
    go_enter Try.func11, Try.ntmps11
    go_wp2_with fail
    refine (S1.out _ HB0.out).mono ?_
    rintro e w1 ⟨rfl, hb⟩
    have HB1 := Lib.hid (HB0.out.trans (hb.mono HB0.out.size))
    clear hb HB0
    go_wp2_with fail
    refine (S2.out _ HB1.out).mono ?_
    rintro e w2 ⟨rfl, hb⟩
    have HB2 := Lib.hid (HB1.out.trans (hb.mono HB1.out.size))
    clear hb HB1
    go_wp2_with fail
    refine (S3.out _ HB2.out).mono ?_
    rintro e w3 ⟨rfl, hb⟩
    have HB3 := Lib.hid (HB2.out.trans (hb.mono HB2.out.size))
    clear hb HB2
    go_wp2_with fail
    go_ret
    exact ⟨rfl, HB3.out⟩

theorem small_of {s : List Run} (h : smallR s 300 = true) : s.length ≤ 300 ∧ (may s = true → sz s ≤ 300) := by
  unfold smallR at h
  simp only [Bool.and_eq_true, decide_eq_true_eq] at h
  refine ⟨by omega, fun hm => ?_⟩
  have := h.2
  rwa [len_may (may_iff.1 hm)] at this
theorem small_nil : smallR [] 300 = true := by kernel_rfl

set_option maxHeartbeats 4000000 in
theorem pieces_all {w : World} {P : Nat → Prop} {a : Option Addr} {c : Nat} {s : List Run} (hs : Rr w P (.slice a s.length c) s) (i n : Int) (hn : n ≤ 9223372036854775807) :
    Calls Try.prog 3 #[.slice a s.length c, .int .i64 i, .int .i64 n] w fun e w' => e = .returned (.bool true) ∧ Below w.heap.size w w' := by
  have HB0 : Hid (Below w.heap.size w w) := Below.refl _ _
  have HS := Lib.hid hs
  have SM : Hid (∀ w1, Below w.heap.size w w1 → Calls Try.prog 11 #[.slice a s.length c, .slice none 0 0, .slice none 0 0] w1 fun e w' => e = .returned (.bool (smallR s 300)) ∧ Below w1.heap.size w1 w') := fun w1 h => by
    have := small3_any (HS.out.below h) (Rr.nil w1 (fun _ => True)) (Rr.nil w1 (fun _ => True))
    rwa [small_nil, Bool.and_true, Bool.and_true] at this
  cases hsm : smallR s 300 with
  | false =>
    rw [hsm] at SM
    clear hs hsm
    go_enter Try.func3, Try.ntmps3
    go_wp2_with fail
    refine (awake_any _).mono ?_
    rintro e w1 ⟨rfl, hb⟩
    have HB1 := Lib.hid (HB0.out.trans (hb.mono HB0.out.size))
    clear hb HB0
    go_wp2_with fail
    refine (SM.out _ HB1.out).mono ?_
    rintro e w2 ⟨rfl, hb⟩
    have HB2 := Lib.hid (HB1.out.trans (hb.mono HB1.out.size))
    clear hb HB1
    go_wp2_with fail
    go_ret
    exact ⟨rfl, HB2.out⟩
  | true =>
    rw [hsm] at SM
    obtain ⟨l1, l2⟩ := small_of hsm
    have U1 := Lib.hid fun (w1 : World) (h : Below w.heap.size w w1) => substr_any (HS.out.below h) i n hn
    have V1 := Lib.hid fun (w1 : World) (h : Below w.heap.size w w1) => rsubstr_any (HS.out.below h) (fun h => by have := l2 h; omega) i n
    have U2 := Lib.hid fun (w1 : World) (h : Below w.heap.size w w1) => at_any (HS.out.below h) i
    have V2 := Lib.hid fun (w1 : World) (h : Below w.heap.size w w1) => rsubstr_any (HS.out.below h) (fun h => by have := l2 h; omega) i 1
    have M1 := Lib.hid fun (w1 : World) (h : Below w.heap.size w w1) => may_any (HS.out.below h)
    have M2 := Lib.hid fun (w1 : World) (h : Below w.heap.size w w1) => rmay_any (HS.out.below h)
    have L1 := Lib.hid fun (w1 : World) (h : Below w.heap.size w w1) => len_any (HS.out.below h)
    have L2 := Lib.hid fun (w1 : World) (h : Below w.heap.size w w1) => rlen_any (HS.out.below h)
    have q1 : Hid ((substr s i n).length ≤ 1000000000000) := by show _ ≤ _; have := substr_len s i n; omega
    have q2 : Hid ((substr s i 1).length ≤ 1000000000000) := by show _ ≤ _; have := substr_len s i 1; omega
    clear hs hsm l1 l2 hn
    generalize substr s i n = r1 at *
    generalize substr s i 1 = r2 at *
    generalize may s = m at *
    generalize len s = k at *
    go_enter Try.func3, Try.ntmps3
    go_wp2_with fail
    refine (awake_any _).mono ?_
    rintro e w1 ⟨rfl, hb⟩
    have HB1 := Lib.hid (HB0.out.trans (hb.mono HB0.out.size))
    clear hb HB0
    go_wp2_with fail
    refine (SM.out _ HB1.out).mono ?_
    rintro e w2 ⟨rfl, hb⟩
    have HB2 := Lib.hid (HB1.out.trans (hb.mono HB1.out.size))
    clear hb HB1
    go_wp2_with fail
    refine (U1.out _ HB2.out).mono ?_
    rintro e w3 ⟨ra3, rc3, rfl, hr, hb⟩
    have HB3 := Lib.hid (HB2.out.trans (hb.mono HB2.out.size))
    have X3 := Lib.hid hr
    clear hb hr HB2
    go_wp2_with fail
    refine (V1.out _ HB3.out).mono ?_
    rintro e w4 ⟨ra4, rc4, rfl, hr, hb⟩
    have HB4 := Lib.hid (HB3.out.trans (hb.mono HB3.out.size))
    have X4 := Lib.hid (X3.out.below hb)
    have Y4 := Lib.hid hr
    clear hb hr HB3 X3
    go_wp2_with fail
    refine (texts_same X4.out Y4.out q1.out).mono ?_
    rintro e w5 ⟨rfl, hb⟩
    have HB5 := Lib.hid (HB4.out.trans (hb.mono HB4.out.size))
    have X5 := Lib.hid (X4.out.below hb)
    have Y5 := Lib.hid (Y4.out.below hb)
    clear hb HB4 X4 Y4
    go_wp2_with fail
    refine (U2.out _ HB5.out).mono ?_
    rintro e w6 ⟨ra6, rc6, rfl, hr, hb⟩
    have HB6 := Lib.hid (HB5.out.trans (hb.mono HB5.out.size))
    have X6 := Lib.hid (X5.out.below hb)
    have Y6 := Lib.hid (Y5.out.below hb)
    have Z6 := Lib.hid hr
    clear hb hr HB5 X5 Y5
    go_wp2_with fail
    refine (V2.out _ HB6.out).mono ?_
    rintro e w7 ⟨ra7, rc7, rfl, hr, hb⟩
    have HB7 := Lib.hid (HB6.out.trans (hb.mono HB6.out.size))
    have X7 := Lib.hid (X6.out.below hb)
    have Y7 := Lib.hid (Y6.out.below hb)
    have Z7 := Lib.hid (Z6.out.below hb)
    have T7 := Lib.hid hr
    clear hb hr HB6 X6 Y6 Z6
    go_wp2_with fail
    refine (texts_same Z7.out T7.out q2.out).mono ?_
    rintro e w8 ⟨rfl, hb⟩
    have HB8 := Lib.hid (HB7.out.trans (hb.mono HB7.out.size))
    have X8 := Lib.hid (X7.out.below hb)
    have Y8 := Lib.hid (Y7.out.below hb)
    have Z8 := Lib.hid (Z7.out.below hb)
    have T8 := Lib.hid (T7.out.below hb)
    clear hb HB7 X7 Y7 Z7 T7
    go_wp2_with fail
    refine (M1.out _ HB8.out).mono ?_
    rintro e w9 ⟨rfl, hb⟩
    have HB9 := Lib.hid (HB8.out.trans (hb.mono HB8.out.size))
    have X9 := Lib.hid (X8.out.below hb)
    have Y9 := Lib.hid (Y8.out.below hb)
    have Z9 := Lib.hid (Z8.out.below hb)
    have T9 := Lib.hid (T8.out.below hb)
    clear hb HB8 X8 Y8 Z8 T8
    go_wp2_with fail
    refine (M2.out _ HB9.out).mono ?_
    rintro e w10 ⟨rfl, hb⟩
    have HB10 := Lib.hid (HB9.out.trans (hb.mono HB9.out.size))
    have X10 := Lib.hid (X9.out.below hb)
    have Y10 := Lib.hid (Y9.out.below hb)
    have Z10 := Lib.hid (Z9.out.below hb)
    have T10 := Lib.hid (T9.out.below hb)
    clear hb HB9 X9 Y9 Z9 T9
    go_wp2_with fail
    refine (L1.out _ HB10.out).mono ?_
    rintro e w11 ⟨rfl, hb⟩
    have HB11 := Lib.hid (HB10.out.trans (hb.mono HB10.out.size))
    have X11 := Lib.hid (X10.out.below hb)
    have Y11 := Lib.hid (Y10.out.below hb)
    have Z11 := Lib.hid (Z10.out.below hb)
    have T11 := Lib.hid (T10.out.below hb)
    clear hb HB10 X10 Y10 Z10 T10
    go_wp2_with fail
    refine (L2.out _ HB11.out).mono ?_
    rintro e w12 ⟨rfl, hb⟩
    have HB12 := Lib.hid (HB11.out.trans (hb.mono HB11.out.size))
    have X12 := Lib.hid (X11.out.below hb)
    have Y12 := Lib.hid (Y11.out.below hb)
    have Z12 := Lib.hid (Z11.out.below hb)
    have T12 := Lib.hid (T11.out.below hb)
    clear hb HB11 X11 Y11 Z11 T11
    go_wp2_with fail
    go_ret
    exact ⟨rfl, HB12.out⟩

set_option maxHeartbeats 4000000 in
theorem stands_all {w : World} {P Q : Nat → Prop} {aa ab : Option Addr} {ca cb : Nat} {s t : List Run} (hs : Rr w P (.slice aa s.length ca) s) (ht : Rr w Q (.slice ab t.length cb) t) (i : Int) (hi : i ≤ 9223372036854775807) :
    Calls Try.prog 8 #[.slice aa s.length ca, .slice ab t.length cb, .int .i64 i] w fun e w' => e = .returned (.bool true) ∧ Below w.heap.size w w' := by
  have HB0 : Hid (Below w.heap.size w w) := Below.refl _ _
  have HS := Lib.hid hs
  have HT := Lib.hid ht
  have SM : Hid (∀ w1, Below w.heap.size w w1 → Calls Try.prog 11 #[.slice aa s.length ca, .slice ab t.length cb, .slice none 0 0] w1 fun e w' => e = .returned (.bool (smallR s 300 && smallR t 300)) ∧ Below w1.heap.size w1 w') := fun w1 h => by
    have := small3_any (HS.out.below h) (HT.out.below h) (Rr.nil w1 (fun _ => True))
    rwa [small_nil, Bool.and_true] at this
  cases hsm : (smallR s 300 && smallR t 300) with
  | false =>
    rw [hsm] at SM
    clear hs ht hsm
    go_enter Try.func8, Try.ntmps8
    go_wp2_with fail
    refine (awake_any _).mono ?_
    rintro e w1 ⟨rfl, hb⟩
    have HB1 := Lib.hid (HB0.out.trans (hb.mono HB0.out.size))
    clear hb HB0
    go_wp2_with fail
    refine (SM.out _ HB1.out).mono ?_
    rintro e w2 ⟨rfl, hb⟩
    have HB2 := Lib.hid (HB1.out.trans (hb.mono HB1.out.size))
    clear hb HB1
    go_wp2_with fail
    go_ret
    exact ⟨rfl, HB2.out⟩
  | true =>
    rw [hsm] at SM
    obtain ⟨hsm1, hsm2⟩ := Bool.and_eq_true_iff.1 hsm
    obtain ⟨l1, l2⟩ := small_of hsm1
    obtain ⟨l3, l4⟩ := small_of hsm2
    have RM := Lib.hid fun (w1 : World) (h : Below w.heap.size w w1) => rmay_any (HS.out.below h)
    have TX := Lib.hid fun (w1 : World) (h : Below w.heap.size w w1) => texts_any (HS.out.below h) (HT.out.below h) (by omega)
    have P1 := Lib.hid fun (w1 : World) (h : Below w.heap.size w w1) => prefix_any (HT.out.below h) (HS.out.below h)
    have P2 := Lib.hid fun (w1 : World) (h : Below w.heap.size w w1) => rprefix_any (HT.out.below h) (HS.out.below h) (fun h => by have := l4 h; omega) (fun h => by have := l2 h; omega)
    have S1 := Lib.hid fun (w1 : World) (h : Below w.heap.size w w1) => suffix_any (HT.out.below h) (HS.out.below h)
    have S2 := Lib.hid fun (w1 : World) (h : Below w.heap.size w w1) => rsuffix_any (HT.out.below h) (HS.out.below h) (fun h => by have := l4 h; omega) (fun h => by have := l2 h; omega)
    have I1 := Lib.hid fun (w1 : World) (h : Below w.heap.size w w1) => index_call (HS.out.below h) (HT.out.below h) i
    have I2 := Lib.hid fun (w1 : World) (h : Below w.heap.size w w1) => rindex_any (HS.out.below h) (HT.out.below h) (fun h => by have := l2 h; omega) (fun h => by have := l4 h; omega) i hi
    have CO := Lib.hid fun (w1 : World) (h : Below w.heap.size w w1) => contains_any (HS.out.below h) (HT.out.below h)
    have I3 := Lib.hid fun (w1 : World) (h : Below w.heap.size w w1) => rindex_any (HS.out.below h) (HT.out.below h) (fun h => by have := l2 h; omega) (fun h => by have := l4 h; omega) 0 (by omega)
    have SA := Lib.hid fun (w1 : World) (h : Below w.heap.size w w1) => same_any (HS.out.below h) (HT.out.below h)
    unfold containsR at CO
    clear hs ht hsm hsm1 hsm2 l1 l2 l3 l4 hi
    generalize prefixR t s = b1 at *
    generalize suffixR t s = b2 at *
    generalize indexR s t i = k1 at *
    generalize indexR s t 0 = k2 at *
    generalize decide (s = t) = b3 at *
    cases hmay : may s <;> simp only [hmay, Bool.true_and, Bool.false_and] at RM SA <;> clear hmay
    all_goals
      go_enter Try.func8, Try.ntmps8
      go_wp2_with fail
      refine (awake_any _).mono ?_
      rintro e w1 ⟨rfl, hb⟩
      have HB1 := Lib.hid (HB0.out.trans (hb.mono HB0.out.size))
      clear hb HB0
      go_wp2_with fail
      refine (SM.out _ HB1.out).mono ?_
      rintro e w2 ⟨rfl, hb⟩
      have HB2 := Lib.hid (HB1.out.trans (hb.mono HB1.out.size))
      clear hb HB1
      go_wp2_with fail
      refine (RM.out _ HB2.out).mono ?_
      rintro e w3 ⟨rfl, hb⟩
      have HB3 := Lib.hid (HB2.out.trans (hb.mono HB2.out.size))
      clear hb HB2
      go_wp2_with fail
      refine (TX.out _ HB3.out).mono ?_
      rintro e w4 ⟨rfl, hb⟩
      have HB4 := Lib.hid (HB3.out.trans (hb.mono HB3.out.size))
      clear hb HB3
      go_wp2_with fail
      refine (P1.out _ HB4.out).mono ?_
      rintro e w5 ⟨rfl, hb⟩
      have HB5 := Lib.hid (HB4.out.trans (hb.mono HB4.out.size))
      clear hb HB4
      go_wp2_with fail
      refine (P2.out _ HB5.out).mono ?_
      rintro e w6 ⟨rfl, hb⟩
      have HB6 := Lib.hid (HB5.out.trans (hb.mono HB5.out.size))
      clear hb HB5
      go_wp2_with fail
      refine (S1.out _ HB6.out).mono ?_
      rintro e w7 ⟨rfl, hb⟩
      have HB7 := Lib.hid (HB6.out.trans (hb.mono HB6.out.size))
      clear hb HB6
      go_wp2_with fail
      refine (S2.out _ HB7.out).mono ?_
      rintro e w8 ⟨rfl, hb⟩
      have HB8 := Lib.hid (HB7.out.trans (hb.mono HB7.out.size))
      clear hb HB7
      go_wp2_with fail
      refine (I1.out _ HB8.out).mono ?_
      rintro e w9 ⟨rfl, hb⟩
      have HB9 := Lib.hid (HB8.out.trans (hb.mono HB8.out.size))
      clear hb HB8
      go_wp2_with fail
      refine (I2.out _ HB9.out).mono ?_
      rintro e w10 ⟨rfl, hb⟩
      have HB10 := Lib.hid (HB9.out.trans (hb.mono HB9.out.size))
      clear hb HB9
      go_wp2_with fail
      refine (CO.out _ HB10.out).mono ?_
      rintro e w11 ⟨rfl, hb⟩
      have HB11 := Lib.hid (HB10.out.trans (hb.mono HB10.out.size))
      clear hb HB10
      go_wp2_with fail
      refine (I3.out _ HB11.out).mono ?_
      rintro e w12 ⟨rfl, hb⟩
      have HB12 := Lib.hid (HB11.out.trans (hb.mono HB11.out.size))
      clear hb HB11
      go_wp2_with fail
      refine (SA.out _ HB12.out).mono ?_
      rintro e w13 ⟨rfl, hb⟩
      have HB13 := Lib.hid (HB12.out.trans (hb.mono HB12.out.size))
      clear hb HB12
      go_wp2_with fail
      go_ret
      exact ⟨rfl, HB13.out⟩
end Go.Proofs.Ytdjapppfjpgidaa
