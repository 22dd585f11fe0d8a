/- Walks: MeterSums. -/
import Derived.Test.YthijblakaogmgaaWg
namespace Go.Proofs.Ythijblakaogmgaa
open Go.Conc Go.RowKit

/-- What a call does to the three things that the statement speaks of. -/
theorem sums_facts (bud sp n : Int) (ov : Bool) (k : Nat) (h0 : 0 ≤ sp) (h1 : sp ≤ k * 1125899906842624) (hk : k < 300) (hn : n ≤ 1125899906842624) (hv : bud < 1 → ov = false) :
    (mAns bud sp ov n = true ∧ mOv bud sp ov n = false ∧ n ≤ 0 ∧ mSp bud sp ov n = sp) ∨
    (mAns bud sp ov n = true ∧ mOv bud sp ov n = false ∧ 0 < n ∧ mSp bud sp ov n = sp + n) ∨
    (1 ≤ bud ∧ mAns bud sp ov n = false ∧ mOv bud sp ov n = true ∧ mSp bud sp ov n = sp) := by
  have ho : ∀ b, mAns bud sp ov n = b → mOv bud sp ov n = !b := by intro b e; simp [mOv, e]
  cases e : mAns bud sp ov n with
  | true =>
    have eo := ho _ e
    by_cases hp : 0 < n
    · refine .inr (.inl ⟨rfl, eo, hp, ?_⟩)
      have : mN n = n := by unfold mN; rw [if_neg (by omega)]
      simp only [mSp, e, if_true, this]
      omega
    · refine .inl ⟨rfl, eo, by omega, ?_⟩
      have : mN n = 0 := by unfold mN; split <;> omega
      simp only [mSp, e, if_true, this]
      omega
  | false =>
    refine .inr (.inr ⟨?_, rfl, ho _ e, by simp [mSp, e]⟩)
    by_cases hb : bud < 1
    · simp [mAns, hb, hv hb] at e
    · omega

/-- What holds at the head of each round. -/
structure SumsRel (w0 : World) (bud : Int) (mb mc : Nat) (k : Nat) (sp : Int) (wr : World) : Prop where
  lo : 0 ≤ sp
  hi : sp ≤ k * 1125899906842624
  st : ∃ ov : Bool, (bud < 1 → ov = false) ∧ MeterAt wr mb mc bud sp ov
  below : Below w0.heap.size w0 wr

set_option maxHeartbeats 1000000 in
theorem sums_walk (bud : Int) (lb lo len cap : Nat) (zs : List Int) (w : World) (hu : bud ≤ 9223372036854775807) (hpos : 0 < len) (hlen : len ≤ 300) (hr : RowAt w lb lo len zs) :
    Calls Try.prog 7 #[.int .i64 bud, .slice (some ⟨lb, lo, none⟩) len cap] w fun e w' => e = .returned (.bool true) ∧ Below w.heap.size w w' := by
  have HR := Lib.hid hr
  have hlb := hr.lt
  have hd : decide ((300 : Int) < (len : Int)) = false := by simp; omega
  clear hr
  go_enter Try.func7, Try.ntmps7
  go_wp2_with fail
  refine (awake_any _).mono ?_
  rintro e w1 ⟨rfl, hb1⟩
  go_wp2_with fail
  refine (new_any _ _).mono ?_
  rintro e w2 ⟨rfl, rfl⟩
  have hx := Lib.hid (made_meter w1 bud)
  have hbx := made_below w1 bud
  generalize made w1 bud = w2 at *
  have hb2 := Lib.hid (hb1.trans (hbx.mono hb1.size))
  have sz1 := hb1.size
  obtain ⟨mb, hmb⟩ : ∃ mb, mb = w1.heap.size + 1 := ⟨_, rfl⟩
  obtain ⟨mc, hmc⟩ : ∃ mc, mc = w1.heap.size := ⟨_, rfl⟩
  have M1 : w.heap.size ≤ mb := by omega
  have M2 : w.heap.size ≤ mc := by omega
  have HM := Lib.hid (And.intro hmb hmc)
  clear hmb hmc hb1 hbx
  go_wp2_with fail
  rw [← HM.out.1]
  go_loopw [7, 8] (fun s i wr => ∃ (k : Nat) (sp : Int), k ≤ len ∧ i = .int .i64 k ∧ s = .int .i64 sp ∧ SumsRel w bud mb mc k sp wr) (fun _ i _ => len - (intOf i).toNat)
  case atStart =>
    refine ⟨0, 0, Nat.zero_le _, rfl, rfl, ⟨by omega, by omega, ⟨false, fun _ => rfl, ?_⟩, hb2.out⟩⟩
    rw [HM.out.1, HM.out.2]
    exact hx.out
  case round =>
    obtain ⟨k, sp, hk, rfl, rfl, hrel⟩ := hrel
    obtain ⟨s0, s1, ⟨ov, hv, hm⟩, hbl⟩ := hrel
    have hbl' := Lib.hid hbl
    have hm' := Lib.hid hm
    have hrow := HR.out.below hbl hlb
    by_cases hlt : k < len
    · have hc := hrow.cell k hlt
      obtain ⟨n, hn⟩ : ∃ n, n = zs.getD k 0 := ⟨_, rfl⟩
      rw [← hn] at hc
      clear hn hrow hm hbl
      by_cases hbig : n ≤ 1125899906842624
      · have s2 : sp ≤ 4611686018427387904 := by omega
        have F := sums_facts bud sp n ov k s0 s1 (by omega) hbig hv
        have HF := Lib.hid F
        have s3 := Lib.hid s1
        clear hv F s1
        go_wp2_with fail
        refine (spend_any _ _ hm'.out hu s0 s2).mono ?_
        rintro e w3 ⟨rfl, hm3, hk3⟩
        have hm3' := Lib.hid hm3
        have hbl3 := hbl'.out.trans (hk3.below M1 M2)
        have hrow3 := HR.out.below hbl3 hlb
        have hc3 : w3.cell? ⟨lb, lo + k, none⟩ = some (.int .i64 n) := by
          have h1 := (HR.out.below hbl'.out hlb).cell k hlt
          rw [hc] at h1
          rw [hrow3.cell k hlt, ← h1]
        have Hbl3 := Lib.hid hbl3
        clear hm3 hk3 hc hm' hbl' hrow3 hbl3
        generalize mSp bud sp ov n = spn at *
        generalize mOv bud sp ov n = ovn at *
        generalize mAns bud sp ov n = an at *
        rcases HF.out with ⟨rfl, rfl, f0, f4⟩ | ⟨rfl, rfl, f0, f4⟩ | ⟨f0, rfl, rfl, f4⟩
        · subst f4
          clear HF
          go_wp2_with (first | (go_at_call 12; refine (over_any _ hm3'.out).mono ?_; rintro e w4 ⟨rfl, rfl⟩) | (go_at_call 13; refine (spent_any _ hm3'.out).mono ?_; rintro e w4 ⟨rfl, rfl⟩))
          go_roundw
          case rel => exact ⟨k + 1, spn, by omega, by go_num, rfl, ⟨s0, by have := s3.out; omega, ⟨false, fun _ => rfl, hm3'.out⟩, Hbl3.out⟩⟩
          case measure => simp [intOf]; omega
        · subst f4
          clear HF
          have s4 : sp + n ≤ 4611686018427387904 := by have := s3.out; omega
          go_wp2_with (first | (go_at_call 12; refine (over_any _ hm3'.out).mono ?_; rintro e w4 ⟨rfl, rfl⟩) | (go_at_call 13; refine (spent_any _ hm3'.out).mono ?_; rintro e w4 ⟨rfl, rfl⟩))
          go_roundw
          case rel => exact ⟨k + 1, sp + n, by omega, by go_num, rfl, ⟨by omega, by have := s3.out; omega, ⟨false, fun _ => rfl, hm3'.out⟩, Hbl3.out⟩⟩
          case measure => simp [intOf]; omega
        · subst f4
          clear HF
          go_wp2_with (first | (go_at_call 12; refine (over_any _ hm3'.out).mono ?_; rintro e w4 ⟨rfl, rfl⟩) | (go_at_call 13; refine (spent_any _ hm3'.out).mono ?_; rintro e w4 ⟨rfl, rfl⟩))
          all_goals
            go_roundw
            case rel => exact ⟨k + 1, spn, by omega, by go_num, rfl, ⟨s0, by have := s3.out; omega, ⟨true, fun h => by omega, hm3'.out⟩, Hbl3.out⟩⟩
            case measure => simp [intOf]; omega
      · clear hv
        go_wp2_with fail
        go_ret
        exact ⟨rfl, hbl'.out⟩
    · clear hrow
      go_wp2_with fail
      refine (spent_any _ hm'.out).mono ?_
      rintro e w4 ⟨rfl, rfl⟩
      go_wp2_with fail
      go_ret
      exact ⟨rfl, hbl⟩

theorem sums_all (bud : Int) (a : Option Addr) (len cap : Nat) (zs : List Int) (w : World) (hu : bud ≤ 9223372036854775807)
    (h : (a = none ∧ len = 0 ∧ cap = 0 ∧ zs = []) ∨ ∃ x, a = some x ∧ len ≤ cap ∧ cap ≤ maxLen ∧ zs.length = cap ∧ (∀ i, i < zs.length → w.cell? (x.add i) = some (.int .i64 (zs.getD i 0))) ∧ ∀ n ∈ zs, (Lit.int .i64 n).wf = true) :
    Calls Try.prog 7 #[.int .i64 bud, .slice a len cap] w fun e w' => e = .returned (.bool true) ∧ Below w.heap.size w w' := by
  by_cases hpos : 0 < len
  · by_cases hlen : len ≤ 300
    · obtain ⟨b, o, rfl, hr⟩ := row_at hpos h
      exact sums_walk bud b o len cap zs w hu hpos hlen hr
    · exact sums_long bud a len cap w (by omega)
  · obtain rfl : len = 0 := by omega
    exact sums_zero bud a cap w
end Go.Proofs.Ythijblakaogmgaa
