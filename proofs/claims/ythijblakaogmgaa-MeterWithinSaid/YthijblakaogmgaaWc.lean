/- Walks: the reference's Spend; awake. -/
import Derived.Test.YthijblakaogmgaaWb
namespace Go.Proofs.Ythijblakaogmgaa
open Go.Conc Go.RowKit

def refR (bud sp : Int) (ov : Bool) (n : Int) : Value := .tuple #[.agg #[.int .i64 bud, .int .i64 (mSp bud sp ov n), .bool (mOv bud sp ov n)], .bool (mAns bud sp ov n)]

theorem ref_over (bud sp n : Int) (w : World) :
    Calls Try.prog 11 #[.agg #[.int .i64 bud, .int .i64 sp, .bool true], .int .i64 n] w fun e w' => e = .returned (refR bud sp true n) ∧ Below w.heap.size w w' := by
  have K := Lib.hid (show refR bud sp true n = .tuple #[.agg #[.int .i64 bud, .int .i64 sp, .bool true], .bool false] by simp [refR, mSp, mOv, mAns])
  go_enter Try.func11, Try.ntmps11
  go_wp2
  refine bodyPost_ret (v := .tuple #[.agg #[.int .i64 bud, .int .i64 sp, .bool true], .bool false]) (by simp [results, Try.results11, go_sem]) rfl ⟨by rw [K.out], ?_⟩
  exact ((Below.refl _ _).alloc (Nat.le_refl _) _).alloc (by simp) _

theorem ref_full (bud sp n : Int) (w : World) (hb : 1 ≤ bud) (hu : bud ≤ 9223372036854775807) (hf : bud - sp < mN n) (h0 : 0 ≤ sp) (h1 : sp ≤ 4611686018427387904) :
    Calls Try.prog 11 #[.agg #[.int .i64 bud, .int .i64 sp, .bool false], .int .i64 n] w fun e w' => e = .returned (refR bud sp false n) ∧ Below w.heap.size w w' := by
  have K := Lib.hid (show refR bud sp false n = .tuple #[.agg #[.int .i64 bud, .int .i64 sp, .bool true], .bool false] by
    have e : mAns bud sp false n = false := by simp only [mAns, Bool.false_eq_true, if_false]; rw [if_neg (by omega)]; simp; omega
    simp [refR, mSp, mOv, e])
  by_cases hn : 0 ≤ n
  · have hf2 : bud - sp < n := by unfold mN at hf; split at hf <;> omega
    clear hf
    go_enter Try.func11, Try.ntmps11
    go_wp2
    refine bodyPost_ret (v := .tuple #[.agg #[.int .i64 bud, .int .i64 sp, .bool true], .bool false]) (by simp [results, Try.results11, go_sem]) rfl ⟨by rw [K.out], ?_⟩
    exact ((Below.refl _ _).alloc (Nat.le_refl _) _).alloc (by simp) _
  · have hf2 : bud - sp < 0 := by unfold mN at hf; split at hf <;> omega
    clear hf
    go_enter Try.func11, Try.ntmps11
    go_wp2
    refine bodyPost_ret (v := .tuple #[.agg #[.int .i64 bud, .int .i64 sp, .bool true], .bool false]) (by simp [results, Try.results11, go_sem]) rfl ⟨by rw [K.out], ?_⟩
    exact ((Below.refl _ _).alloc (Nat.le_refl _) _).alloc (by simp) _

theorem ref_fits (bud sp n : Int) (w : World) (hf : bud < 1 ∨ mN n ≤ bud - sp) (hu : bud ≤ 9223372036854775807) (h0 : 0 ≤ sp) (h1 : sp ≤ 4611686018427387904) :
    Calls Try.prog 11 #[.agg #[.int .i64 bud, .int .i64 sp, .bool false], .int .i64 n] w fun e w' => e = .returned (refR bud sp false n) ∧ Below w.heap.size w w' := by
  have K := Lib.hid (show refR bud sp false n = .tuple #[.agg #[.int .i64 bud, .int .i64 (sp + min (mN n) (4611686018427387904 - sp)), .bool false], .bool true] by
    have e : mAns bud sp false n = true := by
      simp only [mAns, Bool.false_eq_true, if_false]
      split
      · rfl
      · simp; omega
    simp [refR, mSp, mOv, e])
  by_cases hb : bud < 1
  all_goals
    by_cases hn : 0 ≤ n
    · by_cases hm : n ≤ 4611686018427387904 - sp
      · have K2 := Lib.hid (show sp + min (mN n) (4611686018427387904 - sp) = sp + n by unfold mN; rw [if_neg (by omega)]; omega)
        have hf2 : bud < 1 ∨ n ≤ bud - sp := by unfold mN at hf; split at hf <;> omega
        have hf3 : ¬ bud < 1 → n ≤ bud - sp := by omega
        clear hf hf2
        try have hf4 := hf3 hb
        clear hf3
        go_enter Try.func11, Try.ntmps11
        go_wp2
        refine bodyPost_ret (v := .tuple #[.agg #[.int .i64 bud, .int .i64 (sp + n), .bool false], .bool true]) (by simp [results, Try.results11, go_sem]) rfl ⟨by rw [K.out, K2.out], ?_⟩
        exact ((Below.refl _ _).alloc (Nat.le_refl _) _).alloc (by simp) _
      · have K2 := Lib.hid (show sp + min (mN n) (4611686018427387904 - sp) = sp + (4611686018427387904 - sp) by unfold mN; rw [if_neg (by omega)]; omega)
        have hf2 : bud < 1 ∨ n ≤ bud - sp := by unfold mN at hf; split at hf <;> omega
        have hf3 : ¬ bud < 1 → n ≤ bud - sp := by omega
        clear hf hf2
        try have hf4 := hf3 hb
        clear hf3
        go_enter Try.func11, Try.ntmps11
        go_wp2
        refine bodyPost_ret (v := .tuple #[.agg #[.int .i64 bud, .int .i64 (sp + (4611686018427387904 - sp)), .bool false], .bool true]) (by simp [results, Try.results11, go_sem]) rfl ⟨by rw [K.out, K2.out], ?_⟩
        exact ((Below.refl _ _).alloc (Nat.le_refl _) _).alloc (by simp) _
    · have K2 := Lib.hid (show sp + min (mN n) (4611686018427387904 - sp) = sp by unfold mN; rw [if_pos (by omega)]; omega)
      have hf2 : bud < 1 ∨ 0 ≤ bud - sp := by unfold mN at hf; split at hf <;> omega
      have hf3 : ¬ bud < 1 → 0 ≤ bud - sp := by omega
      clear hf hf2
      try have hf4 := hf3 hb
      clear hf3
      go_enter Try.func11, Try.ntmps11
      go_wp2
      refine bodyPost_ret (v := .tuple #[.agg #[.int .i64 bud, .int .i64 sp, .bool false], .bool true]) (by simp [results, Try.results11, go_sem]) rfl ⟨by rw [K.out, K2.out], ?_⟩
      exact ((Below.refl _ _).alloc (Nat.le_refl _) _).alloc (by simp) _

theorem ref_any (bud sp n : Int) (ov : Bool) (w : World) (hu : bud ≤ 9223372036854775807) (h0 : 0 ≤ sp) (h1 : sp ≤ 4611686018427387904) :
    Calls Try.prog 11 #[.agg #[.int .i64 bud, .int .i64 sp, .bool ov], .int .i64 n] w fun e w' => e = .returned (refR bud sp ov n) ∧ Below w.heap.size w w' := by
  cases ov with
  | true => exact ref_over bud sp n w
  | false =>
    by_cases hf : bud < 1 ∨ mN n ≤ bud - sp
    · exact ref_fits bud sp n w hf hu h0 h1
    · exact ref_full bud sp n w (by omega) hu (by omega) h0 h1

theorem awake_any (w : World) : Calls Try.prog 8 #[] w fun e w' => e = .returned (.bool true) ∧ Below w.heap.size w w' := by
  go_enter Try.func8, Try.ntmps8
  go_wp2_with fail
  refine (new_any _ _).mono ?_
  rintro e w1 ⟨rfl, rfl⟩
  go_wp2_with fail
  refine (spend_any 3 _ (made_meter w 5) (by omega) (by omega) (by omega)).mono ?_
  rintro e w1 ⟨rfl, hm1, hk1⟩
  have e1 : mAns 5 0 false 3 = true := by decide
  have e2 : mSp 5 0 false 3 = 3 := by decide
  have e3 : mOv 5 0 false 3 = false := by decide
  rw [e2, e3] at hm1
  rw [e1]
  have K1 := Lib.hid hm1
  clear hm1 e1 e2 e3
  go_wp2_with fail
  refine (spend_any 3 _ K1.out (by omega) (by omega) (by omega)).mono ?_
  rintro e w2 ⟨rfl, hm2, hk2⟩
  have e1 : mAns 5 3 false 3 = false := by decide
  have e2 : mSp 5 3 false 3 = 3 := by decide
  have e3 : mOv 5 3 false 3 = true := by decide
  rw [e2, e3] at hm2
  rw [e1]
  have K2 := Lib.hid hm2
  clear hm2 e1 e2 e3
  go_wp2_with fail
  refine (spend_any 0 _ K2.out (by omega) (by omega) (by omega)).mono ?_
  rintro e w3 ⟨rfl, hm3, hk3⟩
  have e1 : mAns 5 3 true 0 = false := by decide
  have e2 : mSp 5 3 true 0 = 3 := by decide
  have e3 : mOv 5 3 true 0 = true := by decide
  rw [e2, e3] at hm3
  rw [e1]
  have K3 := Lib.hid hm3
  clear hm3 e1 e2 e3
  go_wp2_with fail
  refine (over_any _ K3.out).mono ?_
  rintro e w4 ⟨rfl, rfl⟩
  go_wp2_with fail
  refine (spent_any _ K3.out).mono ?_
  rintro e w4 ⟨rfl, rfl⟩
  go_wp2_with fail
  go_ret
  exact ⟨rfl, (made_below w 5).trans (((hk1.trans hk2).trans hk3).below (by omega) (by omega))⟩
end Go.Proofs.Ythijblakaogmgaa
