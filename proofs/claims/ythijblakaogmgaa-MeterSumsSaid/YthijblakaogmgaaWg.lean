/- Walks: MeterWithin. -/
import Derived.Test.YthijblakaogmgaaWf
namespace Go.Proofs.Ythijblakaogmgaa
open Go.Conc Go.RowKit

/-- What a call does to the three things that the statement speaks of. -/
theorem step_facts (bud sp n : Int) (ov : Bool) (h0 : 0 ≤ sp) (h1 : sp ≤ 4611686018427387904) (hv : bud < 1 → ov = false) (hs : 1 ≤ bud → sp ≤ bud) :
    (bud < 1 ∧ ov = false ∧ mAns bud sp ov n = true ∧ mOv bud sp ov n = false ∧ sp ≤ mSp bud sp ov n) ∨
    (1 ≤ bud ∧ ov = true ∧ mAns bud sp ov n = false ∧ mOv bud sp ov n = true ∧ mSp bud sp ov n = sp ∧ sp ≤ bud) ∨
    (1 ≤ bud ∧ ov = false ∧ mAns bud sp ov n = true ∧ mOv bud sp ov n = false ∧ sp ≤ mSp bud sp ov n ∧ mSp bud sp ov n ≤ bud) ∨
    (1 ≤ bud ∧ ov = false ∧ mAns bud sp ov n = false ∧ mOv bud sp ov n = true ∧ mSp bud sp ov n = sp ∧ sp ≤ bud) := by
  have hN : 0 ≤ mN n := by unfold mN; split <;> omega
  by_cases hb : bud < 1
  · left
    have e : mAns bud sp ov n = true := by simp [mAns, hb, hv hb]
    refine ⟨hb, hv hb, e, by simp [mOv, e], ?_⟩
    simp only [mSp, e, if_true]
    omega
  · right
    cases ov with
    | true =>
      left
      have e : mAns bud sp true n = false := by simp [mAns]
      exact ⟨by omega, rfl, e, by simp [mOv, e], by simp [mSp, e], hs (by omega)⟩
    | false =>
      right
      by_cases hf : mN n ≤ bud - sp
      · left
        have e : mAns bud sp false n = true := by simp [mAns, hf]
        refine ⟨by omega, rfl, e, by simp [mOv, e], ?_, ?_⟩ <;> simp only [mSp, e, if_true] <;> omega
      · right
        have e : mAns bud sp false n = false := by simp [mAns, hb, hf]
        exact ⟨by omega, rfl, e, by simp [mOv, e], by simp [mSp, e], hs (by omega)⟩

/-- What holds at the head of each round. -/
structure WithinRel (w0 : World) (bud : Int) (mb mc : Nat) (wr : World) : Prop where
  st : ∃ (sp : Int) (ov : Bool), 0 ≤ sp ∧ sp ≤ 4611686018427387904 ∧ (bud < 1 → ov = false) ∧ (1 ≤ bud → sp ≤ bud) ∧ MeterAt wr mb mc bud sp ov
  below : Below w0.heap.size w0 wr

set_option maxHeartbeats 1000000 in
theorem within_walk (bud : Int) (lb lo len cap : Nat) (zs : List Int) (w : World) (hu : bud ≤ 9223372036854775807) (hpos : 0 < len) (hlen : len ≤ 300) (hr : RowAt w lb lo len zs) :
    Calls Try.prog 4 #[.int .i64 bud, .slice (some ⟨lb, lo, none⟩) len cap] w fun e w' => e = .returned (.bool true) ∧ Below w.heap.size w w' := by
  have HR := Lib.hid hr
  have hlb := hr.lt
  have hd : decide ((300 : Int) < (len : Int)) = false := by simp; omega
  clear hr
  go_enter Try.func4, Try.ntmps4
  go_wp2_with fail
  refine (awake_any _).mono ?_
  rintro e w1 ⟨rfl, hb1⟩
  go_wp2_with fail
  refine (new_any _ _).mono ?_
  rintro e w2 ⟨rfl, rfl⟩
  have hx := Lib.hid (made_meter w1 bud)
  have hbx := made_below w1 bud
  generalize made w1 bud = w2 at *
  have hb2 := Lib.hid (hb1.trans (hbx.mono hb1.size))
  have sz1 := hb1.size
  obtain ⟨mb, hmb⟩ : ∃ mb, mb = w1.heap.size + 1 := ⟨_, rfl⟩
  obtain ⟨mc, hmc⟩ : ∃ mc, mc = w1.heap.size := ⟨_, rfl⟩
  have M1 : w.heap.size ≤ mb := by omega
  have M2 : w.heap.size ≤ mc := by omega
  have HM := Lib.hid (And.intro hmb hmc)
  clear hmb hmc hb1 hbx
  go_wp2_with fail
  rw [← HM.out.1]
  go_loopw [7] (fun i wr => ∃ k : Nat, k ≤ len ∧ i = .int .i64 k ∧ WithinRel w bud mb mc wr) (fun i _ => len - (intOf i).toNat)
  case atStart =>
    refine ⟨0, Nat.zero_le _, rfl, ⟨⟨0, false, by omega, by omega, fun _ => rfl, fun _ => by omega, ?_⟩, hb2.out⟩⟩
    rw [HM.out.1, HM.out.2]
    exact hx.out
  case round =>
    obtain ⟨k, hk, rfl, hrel⟩ := hrel
    obtain ⟨⟨sp, ov, s0, s1, hv, hs, hm⟩, hbl⟩ := hrel
    have hbl' := Lib.hid hbl
    have hm' := Lib.hid hm
    have hrow := HR.out.below hbl hlb
    by_cases hlt : k < len
    · have hc := hrow.cell k hlt
      have z0 := mSp_nonneg bud sp (zs[k]?.getD 0) ov s0 s1
      have F := step_facts bud sp (zs[k]?.getD 0) ov s0 s1 hv hs
      have HF := Lib.hid F
      clear hrow hm hbl hv hs F
      go_wp2_with fail
      refine (spent_any _ hm'.out).mono ?_
      rintro e w3 ⟨rfl, rfl⟩
      go_wp2_with fail
      refine (over_any _ hm'.out).mono ?_
      rintro e w3 ⟨rfl, rfl⟩
      go_wp2_with fail
      refine (spend_any _ _ hm'.out hu s0 s1).mono ?_
      rintro e w3 ⟨rfl, hm3, hk3⟩
      have hm3' := Lib.hid hm3
      have hbl3 := Lib.hid (hbl'.out.trans (hk3.below M1 M2))
      clear hm3 hk3 hc hm' hbl'
      generalize mSp bud sp ov (zs[k]?.getD 0) = spn at *
      generalize mOv bud sp ov (zs[k]?.getD 0) = ovn at *
      generalize mAns bud sp ov (zs[k]?.getD 0) = an at *
      rcases HF.out with ⟨f0, rfl, rfl, rfl, f4⟩ | ⟨f0, rfl, rfl, rfl, f4, f5⟩ | ⟨f0, rfl, rfl, rfl, f4, f5⟩ | ⟨f0, rfl, rfl, rfl, f4, f5⟩
      · clear HF
        go_wp2_with (first | (go_at_call 12; refine (over_any _ hm3'.out).mono ?_; rintro e w4 ⟨rfl, rfl⟩) | (go_at_call 13; refine (spent_any _ hm3'.out).mono ?_; rintro e w4 ⟨rfl, rfl⟩))
        go_roundw
        case rel => exact ⟨k + 1, by omega, by go_num, ⟨⟨spn, false, z0.1, z0.2, fun _ => rfl, fun h => by omega, hm3'.out⟩, hbl3.out⟩⟩
        case measure => simp [intOf]; omega
      · subst f4
        clear HF
        go_wp2_with (first | (go_at_call 12; refine (over_any _ hm3'.out).mono ?_; rintro e w4 ⟨rfl, rfl⟩) | (go_at_call 13; refine (spent_any _ hm3'.out).mono ?_; rintro e w4 ⟨rfl, rfl⟩))
        go_roundw
        case rel => exact ⟨k + 1, by omega, by go_num, ⟨⟨spn, true, z0.1, z0.2, fun h => by omega, fun h => f5, hm3'.out⟩, hbl3.out⟩⟩
        case measure => simp [intOf]; omega
      · clear HF
        go_wp2_with (first | (go_at_call 12; refine (over_any _ hm3'.out).mono ?_; rintro e w4 ⟨rfl, rfl⟩) | (go_at_call 13; refine (spent_any _ hm3'.out).mono ?_; rintro e w4 ⟨rfl, rfl⟩))
        go_roundw
        case rel => exact ⟨k + 1, by omega, by go_num, ⟨⟨spn, false, z0.1, z0.2, fun _ => rfl, fun h => f5, hm3'.out⟩, hbl3.out⟩⟩
        case measure => simp [intOf]; omega
      · subst f4
        clear HF
        go_wp2_with (first | (go_at_call 12; refine (over_any _ hm3'.out).mono ?_; rintro e w4 ⟨rfl, rfl⟩) | (go_at_call 13; refine (spent_any _ hm3'.out).mono ?_; rintro e w4 ⟨rfl, rfl⟩))
        go_roundw
        case rel => exact ⟨k + 1, by omega, by go_num, ⟨⟨spn, true, z0.1, z0.2, fun h => by omega, fun h => f5, hm3'.out⟩, hbl3.out⟩⟩
        case measure => simp [intOf]; omega
    · go_wp2_with fail
      go_ret
      exact ⟨rfl, hbl⟩

theorem within_all (bud : Int) (a : Option Addr) (len cap : Nat) (zs : List Int) (w : World) (hu : bud ≤ 9223372036854775807)
    (h : (a = none ∧ len = 0 ∧ cap = 0 ∧ zs = []) ∨ ∃ x, a = some x ∧ len ≤ cap ∧ cap ≤ maxLen ∧ zs.length = cap ∧ (∀ i, i < zs.length → w.cell? (x.add i) = some (.int .i64 (zs.getD i 0))) ∧ ∀ n ∈ zs, (Lit.int .i64 n).wf = true) :
    Calls Try.prog 4 #[.int .i64 bud, .slice a len cap] w fun e w' => e = .returned (.bool true) ∧ Below w.heap.size w w' := by
  by_cases hpos : 0 < len
  · by_cases hlen : len ≤ 300
    · obtain ⟨b, o, rfl, hr⟩ := row_at hpos h
      exact within_walk bud b o len cap zs w hu hpos hlen hr
    · exact within_long bud a len cap w (by omega)
  · obtain rfl : len = 0 := by omega
    exact within_zero bud a cap w
end Go.Proofs.Ythijblakaogmgaa
