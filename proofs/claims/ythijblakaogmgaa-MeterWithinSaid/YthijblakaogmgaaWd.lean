/- Walks: MeterNone, MeterParts. -/
import Derived.Test.YthijblakaogmgaaWc
namespace Go.Proofs.Ythijblakaogmgaa
open Go.Conc Go.RowKit

theorem none_walk (n : Int) (w : World) : Calls Try.prog 5 #[.int .i64 n] w fun e w' => e = .returned (.bool true) ∧ Below w.heap.size w w' := by
  go_enter Try.func5, Try.ntmps5
  go_wp2_with fail
  refine (awake_any _).mono ?_
  rintro e w1 ⟨rfl, hb⟩
  go_wp2_with fail
  refine (spend_nil _ _).mono ?_
  rintro e w2 ⟨rfl, rfl⟩
  go_wp2_with fail
  refine (over_nil _).mono ?_
  rintro e w2 ⟨rfl, rfl⟩
  go_wp2_with fail
  refine (spent_nil _).mono ?_
  rintro e w2 ⟨rfl, rfl⟩
  go_wp2_with fail
  go_ret
  exact ⟨rfl, hb⟩

/-- What is asked of two meters: in one go, and in two parts. -/
theorem parts_law (bud a b : Int) (ha : 0 ≤ a) (hb : 0 ≤ b) (ha' : a ≤ 1152921504606846976) (hb' : b ≤ 1152921504606846976) :
    (mAns bud 0 false (a + b) = (mAns bud 0 false a && mAns bud (mSp bud 0 false a) (mOv bud 0 false a) b)) ∧
    (mOv bud 0 false (a + b) = mOv bud (mSp bud 0 false a) (mOv bud 0 false a) b) ∧
    (mAns bud 0 false (a + b) = true → mSp bud 0 false (a + b) = mSp bud (mSp bud 0 false a) (mOv bud 0 false a) b) := by
  have e1 : mN (a + b) = a + b := by unfold mN; rw [if_neg (by omega)]
  have e2 : mN a = a := by unfold mN; rw [if_neg (by omega)]
  have e3 : mN b = b := by unfold mN; rw [if_neg (by omega)]
  by_cases h : bud < 1
  · have x1 : ∀ sp n, mAns bud sp false n = true := by intro sp n; simp [mAns, h]
    simp only [mOv, x1, mSp, Bool.not_true, Bool.and_self, if_true, e1, e2, e3]
    refine ⟨by simp, by simp, fun _ => ?_⟩
    omega
  · have x1 : ∀ sp n, mAns bud sp false n = decide (mN n ≤ bud - sp) := by intro sp n; simp [mAns, h]
    by_cases h2 : a ≤ bud
    · have y1 : mAns bud 0 false a = true := by rw [x1, e2]; simp; omega
      have y2 : mSp bud 0 false a = a := by simp only [mSp, y1, if_true, e2]; omega
      have y3 : mOv bud 0 false a = false := by simp [mOv, y1]
      rw [y1, y2, y3]
      by_cases h3 : a + b ≤ bud
      · have z1 : mAns bud 0 false (a + b) = true := by rw [x1, e1]; simp; omega
        have z2 : mAns bud a false b = true := by rw [x1, e3]; simp; omega
        simp only [mOv, mSp, z1, z2, if_true, e1, e3]
        refine ⟨by simp, by simp, fun _ => ?_⟩
        omega
      · have z1 : mAns bud 0 false (a + b) = false := by rw [x1, e1]; simp; omega
        have z2 : mAns bud a false b = false := by rw [x1, e3]; simp; omega
        simp [mOv, z1, z2]
    · have y1 : mAns bud 0 false a = false := by rw [x1, e2]; simp; omega
      have z1 : mAns bud 0 false (a + b) = false := by rw [x1, e1]; simp; omega
      have y3 : mOv bud 0 false a = true := by simp [mOv, y1]
      have z2 : ∀ sp, mAns bud sp true b = false := by intro sp; simp [mAns]
      rw [z1, y1, y3]
      simp [mOv, z1, z2]

theorem mSp_nonneg (bud sp n : Int) (ov : Bool) (h0 : 0 ≤ sp) (h1 : sp ≤ 4611686018427387904) : 0 ≤ mSp bud sp ov n ∧ mSp bud sp ov n ≤ 4611686018427387904 := by
  unfold mSp
  split
  · unfold mN; split <;> omega
  · exact ⟨h0, h1⟩

set_option maxHeartbeats 400000 in
theorem parts_yes (bud a b : Int) (w : World) (hu : bud ≤ 9223372036854775807) (ha : 0 ≤ a) (hb : 0 ≤ b) (ha' : a ≤ 1152921504606846976) (hb' : b ≤ 1152921504606846976) :
    Calls Try.prog 6 #[.int .i64 bud, .int .i64 a, .int .i64 b] w fun e w' => e = .returned (.bool true) ∧ Below w.heap.size w w' := by
  obtain ⟨l1, l2, l3⟩ := parts_law bud a b ha hb ha' hb'
  have L1 := Lib.hid l1
  have L2 := Lib.hid l2
  have L3 := Lib.hid l3
  clear l1 l2 l3
  go_enter Try.func6, Try.ntmps6
  go_wp2_with fail
  refine (awake_any _).mono ?_
  rintro e w1 ⟨rfl, hb1⟩
  go_wp2_with fail
  refine (new_any _ _).mono ?_
  rintro e w2 ⟨rfl, rfl⟩
  have hx := Lib.hid (made_meter w1 bud)
  have hbx := made_below w1 bud
  generalize made w1 bud = w2 at *
  go_wp2_with fail
  refine (new_any _ _).mono ?_
  rintro e w3 ⟨rfl, rfl⟩
  have hy := Lib.hid (made_meter w2 bud)
  have hby := made_below w2 bud
  have hx3 := Lib.hid (Below.meter hby hx.out hx.out.ltb hx.out.ltc)
  have szb := hx.out.ltb
  have szc := hx.out.ltc
  generalize made w2 bud = w3 at *
  go_wp2_with fail
  refine (spend_any (a + b) _ hx3.out hu (by omega) (by omega)).mono ?_
  rintro e w4 ⟨rfl, hm4, hk4⟩
  have hx4 := Lib.hid hm4
  have hy4 := Lib.hid (hk4.meter hy.out (by omega) (by omega) (by omega) (by omega))
  clear hm4
  go_wp2_with fail
  refine (spend_any a _ hy4.out hu (by omega) (by omega)).mono ?_
  rintro e w5 ⟨rfl, hm5, hk5⟩
  have hy5 := Lib.hid hm5
  have hx5 := Lib.hid (hk5.meter hx4.out (by omega) (by omega) (by omega) (by omega))
  clear hm5
  go_wp2_with fail
  refine (spend_any b _ hy5.out hu (mSp_nonneg _ _ _ _ (by omega) (by omega)).1 (mSp_nonneg _ _ _ _ (by omega) (by omega)).2).mono ?_
  rintro e w6 ⟨rfl, hm6, hk6⟩
  have hy6 := Lib.hid hm6
  have hx6 := Lib.hid (hk6.meter hx5.out (by omega) (by omega) (by omega) (by omega))
  clear hm6
  have hB : Below w.heap.size w w6 := by
    have := hb1.size
    refine hb1.trans (((hbx.mono (by omega)).trans (hby.mono (by omega))).trans ?_)
    exact (((hk4.below (by omega) (by omega)).trans (hk5.below (by omega) (by omega))).trans (hk6.below (by omega) (by omega)))
  have HB := Lib.hid hB
  clear hB hk4 hk5 hk6 hbx hby hb1 hx hy hx3 hy4 hx4 hx5 hy5
  generalize mAns bud 0 false (a + b) = p at *
  generalize mAns bud 0 false a = q at *
  generalize mAns bud (mSp bud 0 false a) (mOv bud 0 false a) b = r at *
  generalize mSp bud (mSp bud 0 false a) (mOv bud 0 false a) b = s2 at *
  generalize mSp bud 0 false (a + b) = s1 at *
  generalize mOv bud (mSp bud 0 false a) (mOv bud 0 false a) b = o2 at *
  generalize mOv bud 0 false (a + b) = o1 at *
  obtain rfl := L1.out
  obtain rfl := L2.out
  clear L1 L2
  cases q with
  | false =>
    go_wp2_with fail
    refine (over_any _ hx6.out).mono ?_
    rintro e w7 ⟨rfl, rfl⟩
    go_wp2_with fail
    refine (over_any _ hy6.out).mono ?_
    rintro e w7 ⟨rfl, rfl⟩
    go_wp2_with fail
    go_ret
    exact ⟨rfl, HB.out⟩
  | true =>
    cases r with
    | false =>
      go_wp2_with fail
      refine (over_any _ hx6.out).mono ?_
      rintro e w7 ⟨rfl, rfl⟩
      go_wp2_with fail
      refine (over_any _ hy6.out).mono ?_
      rintro e w7 ⟨rfl, rfl⟩
      go_wp2_with fail
      go_ret
      exact ⟨rfl, HB.out⟩
    | true =>
      obtain rfl := L3.out rfl
      clear L3
      go_wp2_with fail
      refine (over_any _ hx6.out).mono ?_
      rintro e w7 ⟨rfl, rfl⟩
      go_wp2_with fail
      refine (over_any _ hy6.out).mono ?_
      rintro e w7 ⟨rfl, rfl⟩
      go_wp2_with fail
      refine (spent_any _ hx6.out).mono ?_
      rintro e w7 ⟨rfl, rfl⟩
      go_wp2_with fail
      refine (spent_any _ hy6.out).mono ?_
      rintro e w7 ⟨rfl, rfl⟩
      go_wp2_with fail
      go_ret
      exact ⟨rfl, HB.out⟩

set_option maxHeartbeats 400000 in
theorem parts_no (bud a b : Int) (w : World) (h : a < 0 ∨ (0 ≤ a ∧ b < 0) ∨ (0 ≤ a ∧ 0 ≤ b ∧ 1152921504606846976 < a) ∨ (0 ≤ a ∧ 0 ≤ b ∧ a ≤ 1152921504606846976 ∧ 1152921504606846976 < b)) :
    Calls Try.prog 6 #[.int .i64 bud, .int .i64 a, .int .i64 b] w fun e w' => e = .returned (.bool true) ∧ Below w.heap.size w w' := by
  rcases h with h | ⟨h, h2⟩ | ⟨h, h2, h3⟩ | ⟨h, h2, h3, h4⟩
  all_goals
    go_enter Try.func6, Try.ntmps6
    go_wp2_with fail
    refine (awake_any _).mono ?_
    rintro e w1 ⟨rfl, hb1⟩
    go_wp2_with fail
    refine (new_any _ _).mono ?_
    rintro e w2 ⟨rfl, rfl⟩
    have hbx := made_below w1 bud
    generalize made w1 bud = w2 at *
    go_wp2_with fail
    refine (new_any _ _).mono ?_
    rintro e w3 ⟨rfl, rfl⟩
    have hby := made_below w2 bud
    generalize made w2 bud = w3 at *
    go_wp2_with fail
    go_ret
    have := hb1.size
    have := hbx.size
    exact ⟨rfl, hb1.trans ((hbx.mono (by omega)).trans (hby.mono (by omega)))⟩

theorem parts_walk (bud a b : Int) (w : World) (hu : bud ≤ 9223372036854775807) :
    Calls Try.prog 6 #[.int .i64 bud, .int .i64 a, .int .i64 b] w fun e w' => e = .returned (.bool true) ∧ Below w.heap.size w w' := by
  by_cases h : 0 ≤ a ∧ 0 ≤ b ∧ a ≤ 1152921504606846976 ∧ b ≤ 1152921504606846976
  · exact parts_yes bud a b w hu h.1 h.2.1 h.2.2.1 h.2.2.2
  · exact parts_no bud a b w (by omega)
end Go.Proofs.Ythijblakaogmgaa
