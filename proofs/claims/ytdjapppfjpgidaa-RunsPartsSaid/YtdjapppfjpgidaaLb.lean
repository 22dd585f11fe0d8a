/- RunsParts, every way. -/
import Derived.Test.YtdjapppfjpgidaaLa
namespace Go.Proofs.Ytdjapppfjpgidaa
open Go.RowKit

set_option maxHeartbeats 4000000 in
theorem parts_all {w : World} {P : Nat → Prop} {a : Option Addr} {c : Nat} {s : List Run} (hs : Rr w P (.slice a s.length c) s) (i n j m : Int) (hm2 : m ≤ 9223372036854775807) :
    Calls Try.prog 6 #[.slice a s.length c, .int .i64 i, .int .i64 n, .int .i64 j, .int .i64 m] w fun e w' => e = .returned (.bool true) ∧ Below w.heap.size w w' := by
  have HS := Lib.hid hs
  have HB0 : Hid (Below w.heap.size w w) := Below.refl _ _
  by_cases l1 : (300 : Int) < (s.length : Int)
  · have d300 : decide ((300 : Int) < (s.length : Int)) = true := by simpa using l1
    clear hs
    go_enter Try.func6, Try.ntmps6
    go_wp2_with fail
    refine (awake_any _).mono ?_
    rintro e w1 ⟨rfl, hb⟩
    have HB1 := Lib.hid (HB0.out.trans (hb.mono HB0.out.size))
    clear hb HB0
    go_wp2_with fail
    go_ret
    exact ⟨rfl, HB1.out⟩
  cases hmay : may s with
  | false =>
    have d300 : decide ((300 : Int) < (s.length : Int)) = false := by simpa using l1
    have M : Hid (∀ w1, Below w.heap.size w w1 → Calls Try.prog 16 #[.slice a s.length c] w1 fun e w' => e = .returned (.bool false) ∧ Below w1.heap.size w1 w') := fun w1 h => by
      have := may_any (HS.out.below h); rwa [hmay] at this
    clear hs hmay
    go_enter Try.func6, Try.ntmps6
    go_wp2_with fail
    refine (awake_any _).mono ?_
    rintro e w1 ⟨rfl, hb⟩
    have HB1 := Lib.hid (HB0.out.trans (hb.mono HB0.out.size))
    clear hb HB0
    go_wp2_with fail
    refine (M.out _ HB1.out).mono ?_
    rintro e w2 ⟨rfl, hb⟩
    have HB2 := Lib.hid (HB1.out.trans (hb.mono HB1.out.size))
    clear hb HB1
    go_wp2_with fail
    go_ret
    exact ⟨rfl, HB2.out⟩
  | true =>
    have hM := may_iff.1 hmay
    have M : Hid (∀ w1, Below w.heap.size w w1 → Calls Try.prog 16 #[.slice a s.length c] w1 fun e w' => e = .returned (.bool true) ∧ Below w1.heap.size w1 w') := fun w1 h => by
      have := may_any (HS.out.below h); rwa [hmay] at this
    have d300 : decide ((300 : Int) < (s.length : Int)) = false := by simpa using l1
    clear hmay
    by_cases hg1 : i < 0
    · have g1 : decide (i < 0) = true := by simpa using hg1
      clear hs hM hg1 l1 hm2
      go_enter Try.func6, Try.ntmps6
      go_wp2_with fail
      refine (awake_any _).mono ?_
      rintro e w1 ⟨rfl, hb⟩
      have HB1 := Lib.hid (HB0.out.trans (hb.mono HB0.out.size))
      clear hb HB0
      go_wp2_with fail
      refine (M.out _ HB1.out).mono ?_
      rintro e w2 ⟨rfl, hb⟩
      have HB2 := Lib.hid (HB1.out.trans (hb.mono HB1.out.size))
      clear hb HB1
      go_wp2_with fail
      go_ret
      exact ⟨rfl, HB2.out⟩
    by_cases hg2 : n < 0
    · have g2 : decide (n < 0) = true := by simpa using hg2
      have g1 : decide (i < 0) = false := by simpa using hg1
      clear hs hM hg1 hg2 l1 hm2
      go_enter Try.func6, Try.ntmps6
      go_wp2_with fail
      refine (awake_any _).mono ?_
      rintro e w1 ⟨rfl, hb⟩
      have HB1 := Lib.hid (HB0.out.trans (hb.mono HB0.out.size))
      clear hb HB0
      go_wp2_with fail
      refine (M.out _ HB1.out).mono ?_
      rintro e w2 ⟨rfl, hb⟩
      have HB2 := Lib.hid (HB1.out.trans (hb.mono HB1.out.size))
      clear hb HB1
      go_wp2_with fail
      go_ret
      exact ⟨rfl, HB2.out⟩
    by_cases hg3 : j < 0
    · have g3 : decide (j < 0) = true := by simpa using hg3
      have g1 : decide (i < 0) = false := by simpa using hg1
      have g2 : decide (n < 0) = false := by simpa using hg2
      clear hs hM hg1 hg2 hg3 l1 hm2
      go_enter Try.func6, Try.ntmps6
      go_wp2_with fail
      refine (awake_any _).mono ?_
      rintro e w1 ⟨rfl, hb⟩
      have HB1 := Lib.hid (HB0.out.trans (hb.mono HB0.out.size))
      clear hb HB0
      go_wp2_with fail
      refine (M.out _ HB1.out).mono ?_
      rintro e w2 ⟨rfl, hb⟩
      have HB2 := Lib.hid (HB1.out.trans (hb.mono HB1.out.size))
      clear hb HB1
      go_wp2_with fail
      go_ret
      exact ⟨rfl, HB2.out⟩
    by_cases hg4 : m < 0
    · have g4 : decide (m < 0) = true := by simpa using hg4
      have g1 : decide (i < 0) = false := by simpa using hg1
      have g2 : decide (n < 0) = false := by simpa using hg2
      have g3 : decide (j < 0) = false := by simpa using hg3
      clear hs hM hg1 hg2 hg3 hg4 l1 hm2
      go_enter Try.func6, Try.ntmps6
      go_wp2_with fail
      refine (awake_any _).mono ?_
      rintro e w1 ⟨rfl, hb⟩
      have HB1 := Lib.hid (HB0.out.trans (hb.mono HB0.out.size))
      clear hb HB0
      go_wp2_with fail
      refine (M.out _ HB1.out).mono ?_
      rintro e w2 ⟨rfl, hb⟩
      have HB2 := Lib.hid (HB1.out.trans (hb.mono HB1.out.size))
      clear hb HB1
      go_wp2_with fail
      go_ret
      exact ⟨rfl, HB2.out⟩
    by_cases hg5 : 1099511627776 < i
    · have g5 : decide (1099511627776 < i) = true := by simpa using hg5
      have g1 : decide (i < 0) = false := by simpa using hg1
      have g2 : decide (n < 0) = false := by simpa using hg2
      have g3 : decide (j < 0) = false := by simpa using hg3
      have g4 : decide (m < 0) = false := by simpa using hg4
      clear hs hM hg1 hg2 hg3 hg4 hg5 l1 hm2
      go_enter Try.func6, Try.ntmps6
      go_wp2_with fail
      refine (awake_any _).mono ?_
      rintro e w1 ⟨rfl, hb⟩
      have HB1 := Lib.hid (HB0.out.trans (hb.mono HB0.out.size))
      clear hb HB0
      go_wp2_with fail
      refine (M.out _ HB1.out).mono ?_
      rintro e w2 ⟨rfl, hb⟩
      have HB2 := Lib.hid (HB1.out.trans (hb.mono HB1.out.size))
      clear hb HB1
      go_wp2_with fail
      go_ret
      exact ⟨rfl, HB2.out⟩
    by_cases hg6 : 1099511627776 < n
    · have g6 : decide (1099511627776 < n) = true := by simpa using hg6
      have g1 : decide (i < 0) = false := by simpa using hg1
      have g2 : decide (n < 0) = false := by simpa using hg2
      have g3 : decide (j < 0) = false := by simpa using hg3
      have g4 : decide (m < 0) = false := by simpa using hg4
      have g5 : decide (1099511627776 < i) = false := by simpa using hg5
      clear hs hM hg1 hg2 hg3 hg4 hg5 hg6 l1 hm2
      go_enter Try.func6, Try.ntmps6
      go_wp2_with fail
      refine (awake_any _).mono ?_
      rintro e w1 ⟨rfl, hb⟩
      have HB1 := Lib.hid (HB0.out.trans (hb.mono HB0.out.size))
      clear hb HB0
      go_wp2_with fail
      refine (M.out _ HB1.out).mono ?_
      rintro e w2 ⟨rfl, hb⟩
      have HB2 := Lib.hid (HB1.out.trans (hb.mono HB1.out.size))
      clear hb HB1
      go_wp2_with fail
      go_ret
      exact ⟨rfl, HB2.out⟩
    by_cases hg7 : n < j
    · have g7 : decide (n < j) = true := by simpa using hg7
      have g1 : decide (i < 0) = false := by simpa using hg1
      have g2 : decide (n < 0) = false := by simpa using hg2
      have g3 : decide (j < 0) = false := by simpa using hg3
      have g4 : decide (m < 0) = false := by simpa using hg4
      have g5 : decide (1099511627776 < i) = false := by simpa using hg5
      have g6 : decide (1099511627776 < n) = false := by simpa using hg6
      clear hs hM hg1 hg2 hg3 hg4 hg5 hg6 hg7 l1 hm2
      go_enter Try.func6, Try.ntmps6
      go_wp2_with fail
      refine (awake_any _).mono ?_
      rintro e w1 ⟨rfl, hb⟩
      have HB1 := Lib.hid (HB0.out.trans (hb.mono HB0.out.size))
      clear hb HB0
      go_wp2_with fail
      refine (M.out _ HB1.out).mono ?_
      rintro e w2 ⟨rfl, hb⟩
      have HB2 := Lib.hid (HB1.out.trans (hb.mono HB1.out.size))
      clear hb HB1
      go_wp2_with fail
      go_ret
      exact ⟨rfl, HB2.out⟩
    by_cases c1 : n - j < m
    · by_cases c2 : sz s - i < 0
      · exact parts_110 hs (by omega) hM i n j m (by omega) (by omega) (by omega) (by omega) (by omega) (by omega) (by omega) hm2 c1 c2 (by omega)
      · by_cases c3 : n < sz s - i
        · exact parts_101 hs (by omega) hM i n j m (by omega) (by omega) (by omega) (by omega) (by omega) (by omega) (by omega) hm2 c1 c2 c3
        · exact parts_100 hs (by omega) hM i n j m (by omega) (by omega) (by omega) (by omega) (by omega) (by omega) (by omega) hm2 c1 c2 c3
    · by_cases c2 : sz s - i < 0
      · exact parts_010 hs (by omega) hM i n j m (by omega) (by omega) (by omega) (by omega) (by omega) (by omega) (by omega) hm2 c1 c2 (by omega)
      · by_cases c3 : n < sz s - i
        · exact parts_001 hs (by omega) hM i n j m (by omega) (by omega) (by omega) (by omega) (by omega) (by omega) (by omega) hm2 c1 c2 c3
        · exact parts_000 hs (by omega) hM i n j m (by omega) (by omega) (by omega) (by omega) (by omega) (by omega) (by omega) hm2 c1 c2 c3
end Go.Proofs.Ytdjapppfjpgidaa
