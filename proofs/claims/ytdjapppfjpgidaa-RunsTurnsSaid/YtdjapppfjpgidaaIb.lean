/- The reference's May, Len, Small. -/
import Derived.Test.YtdjapppfjpgidaaIa
namespace Go.Proofs.Ytdjapppfjpgidaa
open Go.RowKit

set_option maxHeartbeats 4000000 in
theorem rmay_walk (w : World) (a : Option Addr) (n c : Nat) (rs : List Run) (h : Rr w (fun _ => True) (.slice a n c) rs) (hl : n ≤ 65536) :
    Calls Try.prog 17 #[.slice a n c] w fun e w' => e = .returned (.bool (may rs)) ∧ ∃ q, w' = w.drewN q := by
  have HR := Lib.hid h
  have hn := Lib.hid h.len.1
  have hd : decide ((65536 : Int) < (n : Int)) = false := by simp; omega
  clear h
  go_enter Try.func17, Try.ntmps17
  go_wp2_with fail
  go_loopw [3, 4] (fun l i wr => ∃ k : Nat, k ≤ n ∧ i = .int .i64 k ∧ l = .int .i64 (sz (rs.take k)) ∧ (∀ i, i < k → okAt rs i) ∧ ∃ q, wr = w.drewN q) (fun _ i _ => n - (intOf i).toNat)
  case atStart => exact ⟨0, by omega, rfl, by simp [sz], fun i hi => by omega, 0, rfl⟩
  case round =>
    obtain ⟨k, hk, rfl, rfl, hok, nd, rfl⟩ := hrel
    have HO := Lib.hid hok
    have hbd := sz_bounds (rs := rs) (k := k) (by rw [← hn.out]; exact hk) hok
    clear hok
    by_cases hlt : k < n
    · obtain ⟨g, o, rfl, _, hgs, hc0, hc1⟩ := HR.out.at (i := k) (by rw [← hn.out]; exact hlt)
      have hst := Lib.hid (sz_take rs k (by rw [← hn.out]; exact hlt))
      have hbad := Lib.hid (may_bad (rs := rs) (i := k) (by rw [← hn.out]; exact hlt))
      have hprev : ∃ q : Int, q = (rs.getD (k - 1) (0, 0)).1 ∧ (0 < k → w.cell? ⟨g, o + (k - 1) * 2, none⟩ = some (.int .i64 q)) := by
        refine ⟨_, rfl, fun hp => ?_⟩
        obtain ⟨g', o', e1, _, _, e2, _⟩ := HR.out.at (i := k - 1) (by rw [← hn.out]; omega)
        cases e1
        exact e2
      obtain ⟨q, hq, hqc⟩ := hprev
      have hgood : Hid ((0 ≤ (rs.getD k (0, 0)).1 ∧ (rs.getD k (0, 0)).1 ≤ 196607 ∧ 1 ≤ (rs.getD k (0, 0)).2 ∧ (rs.getD k (0, 0)).2 ≤ 1099511627776 - sz (rs.take k) ∧ ¬ (0 < k ∧ (rs.getD (k - 1) (0, 0)).1 = (rs.getD k (0, 0)).1)) → okAt rs k) := fun h => h
      unfold okAt at hbad
      rw [← hq] at hbad hgood
      generalize rs.getD k (0, 0) = r at *
      obtain ⟨cc, nn⟩ := r
      simp only at *
      clear hq
      generalize sz (rs.take k) = s at *
      go_wp2_with fail
      refine (point_any _ _).mono ?_
      rintro e w1 ⟨rfl, rfl⟩
      have c5 : -9223372036854775808 ≤ 1099511627776 - s ∧ 1099511627776 - s ≤ 9223372036854775807 := by omega
      have i1 : IntKind.i64.wrap (1099511627776 - s) = 1099511627776 - s := IntWalk.i64_in _ (by omega)
      cases hp : pt cc with
      | false =>
        have hm := Lib.hid (hbad.out (by intro hh; rw [pt_iff.2 ⟨hh.1, hh.2.1⟩] at hp; cases hp))
        clear hbad hst HO hgood hqc hp
        go_wp2_with fail
        go_quiet (fail)
        go_wp2_with fail
        go_ret
        exact ⟨by rw [hm.out]; rfl, _, World.drewN_drewN _ _ _⟩
      | true =>
        have hp2 := pt_iff.1 hp
        clear hp
        cases h3 : decide (nn < 1) with
        | true =>
          have hm := Lib.hid (hbad.out (by simp at h3; omega))
          clear hbad hst HO hgood hqc hp2
          go_wp2_with fail
          go_quiet (fail)
          go_wp2_with fail
          go_ret
          exact ⟨by rw [hm.out]; rfl, _, World.drewN_drewN _ _ _⟩
        | false =>
          cases h4 : decide (1099511627776 - s < nn) with
          | true =>
            have hm := Lib.hid (hbad.out (by simp at h4; omega))
            clear hbad hst HO hgood hqc hp2
            go_wp2_with fail
            go_quiet (fail)
            go_wp2_with fail
            go_ret
            exact ⟨by rw [hm.out]; rfl, _, World.drewN_drewN _ _ _⟩
          | false =>
            have h5 : s + nn ≤ 1099511627776 ∧ 1 ≤ nn := by simp at h3 h4; omega
            have i2 : IntKind.i64.wrap (s + nn) = s + nn := IntWalk.i64_in _ (by omega)
            by_cases k0 : k = 0
            · subst k0
              have hg2 := Lib.hid (hgood.out ⟨hp2.1, hp2.2, h5.2, by omega, by omega⟩)
              clear hbad hqc hgood hp2
              go_wp2_with fail
              go_quiet (fail)
              go_wp2_with fail
              go_roundw
              case rel =>
                refine ⟨1, by omega, rfl, by rw [hst.out], fun i hi => ?_, _, rfl⟩
                obtain rfl : i = 0 := by omega
                exact hg2.out
              case measure => simp [intOf]; omega
            · have hq3 := hqc (by omega)
              have k2 : 0 < k := by omega
              have kd : decide (0 < k) = true := by simpa using k2
              by_cases c6 : q = cc
              · have hm := Lib.hid (hbad.out (by omega))
                subst c6
                clear hbad hst HO hgood hqc hp2
                go_wp2_with fail
                go_quiet (fail)
                go_wp2_with fail
                go_ret
                exact ⟨by rw [hm.out]; rfl, _, World.drewN_drewN _ _ _⟩
              · have hb6 : (cc == q) = false := by simpa using fun e => c6 e.symm
                have hg2 := Lib.hid (hgood.out ⟨hp2.1, hp2.2, h5.2, by omega, by omega⟩)
                clear hbad hqc hgood hp2
                go_wp2_with fail
                go_quiet (fail)
                go_wp2_with fail
                go_roundw
                case rel =>
                  refine ⟨k + 1, by omega, by go_num, by rw [hst.out], fun i hi => ?_, _, rfl⟩
                  rcases Nat.lt_or_ge i k with h | h
                  · exact HO.out i h
                  · obtain rfl : i = k := by omega
                    exact hg2.out
                case measure => simp [intOf]; omega
    · obtain rfl : k = n := by omega
      have hm := Lib.hid (may_all (rs := rs) (by rw [← hn.out]; exact hl) (by rw [← hn.out]; exact HO.out))
      go_wp2_with fail
      go_ret
      exact ⟨by rw [hm.out]; rfl, _, rfl⟩
theorem rmay_far (w : World) (a : Option Addr) (n c : Nat) (hl : 65536 < n) :
    Calls Try.prog 17 #[.slice a n c] w fun e w' => e = .returned (.bool false) ∧ w = w' := by
  have hd : decide ((65536 : Int) < (n : Int)) = true := by simp; omega
  go_enter Try.func17, Try.ntmps17
  go_wp2_with fail
  go_ret
  exact ⟨rfl, rfl⟩
theorem rmay_any {w : World} {P : Nat → Prop} {v : Value} {rs : List Run} (h : Rr w P v rs) :
    Calls Try.prog 17 #[v] w fun e w' => e = .returned (.bool (may rs)) ∧ Below w.heap.size w w' := by
  obtain ⟨a, c, rfl, _⟩ := h.shape
  by_cases hl : rs.length ≤ 65536
  · refine (rmay_walk w a _ c rs (h.mono fun _ _ _ => trivial) hl).mono ?_
    rintro e w' ⟨h1, q, rfl⟩
    exact ⟨h1, below_drewN (Below.refl _ _) q⟩
  · refine (rmay_far w a _ c (by omega)).mono ?_
    rintro e w' ⟨rfl, rfl⟩
    exact ⟨by rw [may_long (by omega)], Below.refl _ _⟩

set_option maxHeartbeats 1000000 in
theorem rlen_any {w : World} {P : Nat → Prop} {v : Value} {rs : List Run} (h : Rr w P v rs) :
    Calls Try.prog 19 #[v] w fun e w' => e = .returned (.int .i64 (len rs)) ∧ Below w.heap.size w w' := by
  have HM := Lib.hid (rmay_any h)
  have HR := Lib.hid h
  obtain ⟨a, c, rfl, _⟩ := h.shape
  clear h
  cases hm : may rs with
  | true =>
    have hlen : len rs = sz rs := by simp [len, hm]
    have HY := Lib.hid (may_iff.1 hm)
    have hl := HY.out.1
    rw [hm] at HM
    rw [hlen]
    clear hm hlen
    generalize hn : rs.length = n at *
    have Hn := Lib.hid hn
    clear hn
    go_enter Try.func19, Try.ntmps19
    go_wp2_with fail
    refine HM.out.mono ?_
    rintro e w1 ⟨rfl, hb⟩
    have HB := Lib.hid hb
    have HX := Lib.hid (HR.out.below hb)
    clear hb
    go_wp2_with fail
    go_loopw [4, 5] (fun l i wr => ∃ k : Nat, k ≤ n ∧ i = .int .i64 k ∧ l = .int .i64 (sz (rs.take k)) ∧ wr = w1) (fun _ i _ => n - (intOf i).toNat)
    case atStart => exact ⟨0, by omega, rfl, rfl, rfl⟩
    case round =>
      obtain ⟨k, hk, rfl, rfl, rfl⟩ := hrel
      by_cases hlt : k < n
      · obtain ⟨g, o, rfl, _, hgs, hc0, hc1⟩ := HX.out.at (i := k) (by rw [Hn.out]; exact hlt)
        have hst := Lib.hid (sz_take rs k (by rw [Hn.out]; exact hlt))
        have hb1 := HY.out.bounds (k := k) (by rw [Hn.out]; omega)
        have hb2 := HY.out.bounds (k := k + 1) (by rw [Hn.out]; omega)
        rw [hst.out] at hb2
        generalize rs.getD k (0, 0) = r at *
        obtain ⟨cc, nn⟩ := r
        simp only at *
        generalize sz (rs.take k) = s at *
        go_wp2_with fail
        go_roundw
        case rel => exact ⟨k + 1, by omega, by go_num, by rw [hst.out], trivial⟩
        case measure => simp [intOf]; omega
      · obtain rfl : k = n := by omega
        have hz : rs.take k = rs := List.take_of_length_le (by rw [Hn.out]; omega)
        rw [hz]
        go_wp2_with fail
        go_ret
        exact ⟨rfl, HB.out⟩
  | false =>
    have hlen : len rs = 0 := by simp [len, hm]
    rw [hm] at HM
    rw [hlen]
    clear hm hlen
    go_enter Try.func19, Try.ntmps19
    go_wp2_with fail
    refine HM.out.mono ?_
    rintro e w1 ⟨rfl, hb⟩
    go_wp2_with fail
    go_ret
    exact ⟨rfl, hb⟩

/-- Small's answer. -/
def smallR (rs : List Run) (m : Int) : Bool := decide ((rs.length : Int) ≤ m) && decide (len rs ≤ m)
theorem small_any {w : World} {P : Nat → Prop} {v : Value} {rs : List Run} (h : Rr w P v rs) (m : Int) :
    Calls Try.prog 32 #[v, .int .i64 m] w fun e w' => e = .returned (.bool (smallR rs m)) ∧ Below w.heap.size w w' := by
  have HL := Lib.hid (rlen_any h)
  obtain ⟨a, c, rfl, _⟩ := h.shape
  unfold smallR
  clear h
  generalize len rs = L at *
  cases h1 : decide ((rs.length : Int) ≤ m) with
  | false =>
    simp only [Bool.false_and]
    go_enter Try.func32, Try.ntmps32
    go_wp2_with fail
    go_ret
    exact ⟨rfl, Below.refl _ _⟩
  | true =>
    simp only [Bool.true_and]
    go_enter Try.func32, Try.ntmps32
    go_wp2_with fail
    refine HL.out.mono ?_
    rintro e w1 ⟨rfl, hb⟩
    have HB := Lib.hid hb
    clear hb
    go_wp2_with fail
    go_ret
    exact ⟨rfl, HB.out⟩
end Go.Proofs.Ytdjapppfjpgidaa
