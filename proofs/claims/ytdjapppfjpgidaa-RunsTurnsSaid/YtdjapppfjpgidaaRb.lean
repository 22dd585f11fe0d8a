/- Walks over package runs: May, size, Len; Texts, slices.Equal. -/
import Derived.Test.YtdjapppfjpgidaaRa
namespace Go.Proofs.Ytdjapppfjpgidaa
open Go.RowKit

/-- How long runs are. -/
def sz (rs : List Run) : Int := (rs.map (·.2)).sum
theorem sz_nil : sz [] = 0 := rfl
theorem sz_cons (r : Run) (rs : List Run) : sz (r :: rs) = r.2 + sz rs := by simp [sz]
theorem sz_append (a b : List Run) : sz (a ++ b) = sz a + sz b := by simp [sz, List.sum_append]
theorem getD_snoc (rs : List Run) (k : Nat) (h : k < rs.length) : rs.take (k + 1) = rs.take k ++ [rs.getD k (0, 0)] := by
  rw [List.take_succ_eq_append_getElem h]
  simp [List.getD_eq_getElem?_getD, h]
theorem sz_take (rs : List Run) (k : Nat) (h : k < rs.length) : sz (rs.take (k + 1)) = sz (rs.take k) + (rs.getD k (0, 0)).2 := by
  rw [getD_snoc rs k h, sz_append, sz_cons, sz_nil]; omega

/-- What May asks of the run at a place. -/
def okAt (rs : List Run) (i : Nat) : Prop :=
  0 ≤ (rs.getD i (0, 0)).1 ∧ (rs.getD i (0, 0)).1 ≤ 196607 ∧ 1 ≤ (rs.getD i (0, 0)).2 ∧ (rs.getD i (0, 0)).2 ≤ 1099511627776 - sz (rs.take i) ∧ ¬ (0 < i ∧ (rs.getD (i - 1) (0, 0)).1 = (rs.getD i (0, 0)).1)
instance (rs : List Run) (i : Nat) : Decidable (okAt rs i) := by unfold okAt; infer_instance
/-- May a text be? -/
def May (rs : List Run) : Prop := rs.length ≤ 65536 ∧ ∀ i, i < rs.length → okAt rs i
instance (rs : List Run) : Decidable (May rs) := by unfold May; infer_instance
def may (rs : List Run) : Bool := decide (May rs)
theorem sz_bounds {rs : List Run} {k : Nat} (hk : k ≤ rs.length) (h : ∀ i, i < k → okAt rs i) : 0 ≤ sz (rs.take k) ∧ (k : Int) ≤ sz (rs.take k) ∧ sz (rs.take k) ≤ 1099511627776 := by
  induction k with
  | zero => simp [sz]
  | succ k ih =>
    obtain ⟨i1, i2, i3⟩ := ih (by omega) (fun i hi => h i (by omega))
    obtain ⟨_, _, h3, h4, _⟩ := h k (by omega)
    rw [sz_take rs k (by omega)]
    omega
theorem may_bad {rs : List Run} {i : Nat} (hi : i < rs.length) (h : ¬ okAt rs i) : may rs = false := by
  simp only [may, decide_eq_false_iff_not]
  exact fun hm => h (hm.2 i hi)
theorem may_all {rs : List Run} (hl : rs.length ≤ 65536) (h : ∀ i, i < rs.length → okAt rs i) : may rs = true := by
  simp only [may, decide_eq_true_eq]
  exact ⟨hl, h⟩
theorem may_long {rs : List Run} (h : 65536 < rs.length) : may rs = false := by
  simp only [may, decide_eq_false_iff_not]
  exact fun hm => by have := hm.1; omega
theorem May.bounds {rs : List Run} (h : May rs) {k : Nat} (hk : k ≤ rs.length) : 0 ≤ sz (rs.take k) ∧ (k : Int) ≤ sz (rs.take k) ∧ sz (rs.take k) ≤ 1099511627776 := sz_bounds hk fun i hi => h.2 i (by omega)
theorem May.size {rs : List Run} (h : May rs) : 0 ≤ sz rs ∧ (rs.length : Int) ≤ sz rs ∧ sz rs ≤ 1099511627776 := by
  have := h.bounds (Nat.le_refl _)
  rwa [List.take_length] at this

/-- The loop's counter. -/
def intOf : Value → Int | .int _ n => n | _ => 0

/-- A round's own box. -/
theorem below_box {B : Nat} {w wr : World} (h : Below B w wr) (hB : B ≤ w.heap.size) (cs : Array Value) (t : TypeId) : Below B w (wr.alloc (.cells cs t)) := h.alloc (Nat.le_trans hB h.size) _

set_option maxHeartbeats 2000000 in
theorem may_walk (w : World) (a : Option Addr) (n c : Nat) (rs : List Run) (h : Rr w (fun _ => True) (.slice a n c) rs) (hl : n ≤ 65536) :
    Calls Try.prog 16 #[.slice a n c] w fun e w' => e = .returned (.bool (may rs)) ∧ Below w.heap.size w w' := by
  have HR := Lib.hid h
  have hn := Lib.hid h.len.1
  have hd : decide ((65536 : Int) < (n : Int)) = false := by simp; omega
  clear h
  go_enter Try.func16, Try.ntmps16
  go_wp2_with fail
  go_loopw [3, 11] (fun l i wr => ∃ k : Nat, k ≤ n ∧ i = .int .i64 k ∧ l = .int .i64 (1099511627776 - sz (rs.take k)) ∧ (∀ i, i < k → okAt rs i) ∧ Below w.heap.size w wr) (fun _ i _ => n - (intOf i).toNat)
  case atStart => exact ⟨0, by omega, rfl, by simp [sz], fun i hi => by omega, Below.refl _ _⟩
  case round =>
    obtain ⟨k, hk, rfl, rfl, hok, hb⟩ := hrel
    have HO := Lib.hid hok
    have HB := Lib.hid hb
    have hbd := sz_bounds (rs := rs) (k := k) (by rw [← hn.out]; exact hk) hok
    have HX : Hid (Rr wr (fun _ => True) (.slice a n c) rs) := HR.out.below hb
    clear hok hb
    by_cases hlt : k < n
    · obtain ⟨g, o, rfl, _, hgs, hc0, hc1⟩ := HX.out.at (i := k) (by rw [← hn.out]; exact hlt)
      have hst := Lib.hid (sz_take rs k (by rw [← hn.out]; exact hlt))
      have hbad := Lib.hid (may_bad (rs := rs) (i := k) (by rw [← hn.out]; exact hlt))
      have hprev : ∃ q : Int, q = (rs.getD (k - 1) (0, 0)).1 ∧ (0 < k → wr.cell? ⟨g, o + (k - 1) * 2, none⟩ = some (.int .i64 q)) := by
        refine ⟨_, rfl, fun hp => ?_⟩
        obtain ⟨g', o', e1, _, _, e2, _⟩ := HX.out.at (i := k - 1) (by rw [← hn.out]; omega)
        cases e1
        exact e2
      obtain ⟨q, hq, hqc⟩ := hprev
      have HQ := Lib.hid hq
      have hne : wr.heap.size ≠ g := by omega
      have hgood : Hid ((0 ≤ (rs.getD k (0, 0)).1 ∧ (rs.getD k (0, 0)).1 ≤ 196607 ∧ 1 ≤ (rs.getD k (0, 0)).2 ∧ (rs.getD k (0, 0)).2 ≤ 1099511627776 - sz (rs.take k) ∧ ¬ (0 < k ∧ (rs.getD (k - 1) (0, 0)).1 = (rs.getD k (0, 0)).1)) → okAt rs k) := fun h => h
      unfold okAt at hbad
      rw [← hq] at hbad hgood
      generalize rs.getD k (0, 0) = r at *
      obtain ⟨cc, nn⟩ := r
      simp only at *
      clear hq
      generalize sz (rs.take k) = s at *
      go_upto_region 7 with fail
      obtain ⟨x0, x1⟩ := box_cells wr cc nn
      have hq2 : 0 < k → (wr.alloc (.cells #[.int .i64 cc, .int .i64 nn] 38)).cell? ⟨g, o + (k - 1) * 2, none⟩ = some (.int .i64 q) := fun hp => old_cell _ (hqc hp)
      have HW : Hid (Below w.heap.size w (wr.alloc (.cells #[.int .i64 cc, .int .i64 nn] 38))) := HB.out.alloc HB.out.size _
      obtain ⟨wx, hwx⟩ : ∃ wx, wx = wr.alloc (.cells #[.int .i64 cc, .int .i64 nn] 38) := ⟨_, rfl⟩
      rw [← hwx] at x0 x1 hq2 HW ⊢
      clear hwx hqc hc0 hc1 HX HB
      generalize wr.heap.size = xb at *
      by_cases c1 : cc < 0
      · have hm := hbad.out (by omega)
        have HM := Lib.hid hm
        clear hm hbad hst HO hgood
        go_quiet (fail)
        go_wp2_with fail
        go_ret
        exact ⟨by rw [HM.out]; rfl, below_drewN HW.out _⟩
      by_cases c2 : 196607 < cc
      · have hm := hbad.out (by omega)
        have HM := Lib.hid hm
        clear hm hbad hst HO hgood
        go_quiet (fail)
        go_wp2_with fail
        go_ret
        exact ⟨by rw [HM.out]; rfl, below_drewN HW.out _⟩
      by_cases c3 : nn < 1
      · have hm := hbad.out (by omega)
        have HM := Lib.hid hm
        clear hm hbad hst HO hgood
        go_quiet (fail)
        go_wp2_with fail
        go_ret
        exact ⟨by rw [HM.out]; rfl, below_drewN HW.out _⟩
      by_cases c4 : 1099511627776 - s < nn
      · have hm := hbad.out (by omega)
        have HM := Lib.hid hm
        clear hm hbad hst HO hgood
        go_quiet (fail)
        go_wp2_with fail
        go_ret
        exact ⟨by rw [HM.out]; rfl, below_drewN HW.out _⟩
      have c5 : -9223372036854775808 ≤ 1099511627776 - s - nn ∧ 1099511627776 - s - nn ≤ 9223372036854775807 := by omega
      by_cases k0 : k = 0
      · subst k0
        clear hbad hq2
        go_quiet (fail)
        go_wp2_with fail
        go_roundw
        case rel =>
          refine ⟨1, by omega, rfl, by rw [hst.out]; congr 1; omega, fun i hi => ?_, below_drewN HW.out _⟩
          obtain rfl : i = 0 := by omega
          exact hgood.out (by omega)
        case measure => simp [intOf]; omega
      · have hq3 := hq2 (by omega)
        have k2 : 0 < k := by omega
        have kd : decide (0 < k) = true := by simpa using k2
        by_cases c6 : q = cc
        · have hm := hbad.out (by omega)
          subst c6
          have HM := Lib.hid hm
          clear hm hbad hst HO hgood
          go_quiet (fail)
          go_wp2_with fail
          go_ret
          exact ⟨by rw [HM.out]; rfl, below_drewN HW.out _⟩
        · have hb6 : (q == cc) = false := by simpa using c6
          clear hbad hq2
          go_quiet (fail)
          go_wp2_with fail
          go_roundw
          case rel =>
            refine ⟨k + 1, by omega, by go_num, by rw [hst.out]; congr 1; omega, fun i hi => ?_, below_drewN HW.out _⟩
            rcases Nat.lt_or_ge i k with h | h
            · exact HO.out i h
            · obtain rfl : i = k := by omega
              exact hgood.out (by omega)
          case measure => simp [intOf]; omega
    · obtain rfl : k = n := by omega
      have hm := Lib.hid (may_all (rs := rs) (by rw [← hn.out]; exact hl) (by rw [← hn.out]; exact HO.out))
      go_wp2_with fail
      go_ret
      exact ⟨by rw [hm.out]; rfl, HB.out⟩

theorem may_far (w : World) (a : Option Addr) (n c : Nat) (hl : 65536 < n) :
    Calls Try.prog 16 #[.slice a n c] w fun e w' => e = .returned (.bool false) ∧ w = w' := by
  have hd : decide ((65536 : Int) < (n : Int)) = true := by simp; omega
  go_enter Try.func16, Try.ntmps16
  go_wp2_with fail
  go_ret
  exact ⟨rfl, rfl⟩
theorem may_any {w : World} {P : Nat → Prop} {v : Value} {rs : List Run} (h : Rr w P v rs) :
    Calls Try.prog 16 #[v] w fun e w' => e = .returned (.bool (may rs)) ∧ Below w.heap.size w w' := by
  obtain ⟨a, c, rfl, _⟩ := h.shape
  by_cases hl : rs.length ≤ 65536
  · exact may_walk w a _ c rs (h.mono fun _ _ _ => trivial) hl
  · refine (may_far w a _ c (by omega)).mono ?_
    rintro e w' ⟨rfl, rfl⟩
    exact ⟨by rw [may_long (by omega)], Below.refl _ _⟩

set_option maxHeartbeats 1000000 in
theorem size_any {w : World} {P : Nat → Prop} {v : Value} {rs : List Run} (h : Rr w P v rs) (hm : may rs = true) :
    Calls Try.prog 37 #[v] w fun e w' => e = .returned (.int .i64 (sz rs)) ∧ Below w.heap.size w w' := by
  obtain ⟨a, c, rfl, _⟩ := h.shape
  have HR := Lib.hid h
  have hM : May rs := by simpa [may] using hm
  have HM := Lib.hid hM
  have hl := hM.1
  clear h hm hM
  generalize hn : rs.length = n at *
  have Hn := Lib.hid hn
  clear hn
  go_enter Try.func37, Try.ntmps37
  go_wp2_with fail
  go_loopw [3, 8] (fun l i wr => ∃ k : Nat, k ≤ n ∧ i = .int .i64 k ∧ l = .int .i64 (sz (rs.take k)) ∧ Below w.heap.size w wr) (fun _ i _ => n - (intOf i).toNat)
  case atStart => exact ⟨0, by omega, rfl, rfl, Below.refl _ _⟩
  case round =>
    obtain ⟨k, hk, rfl, rfl, hb⟩ := hrel
    have HB := Lib.hid hb
    have HX : Hid (Rr wr P (.slice a n c) rs) := HR.out.below hb
    clear hb
    by_cases hlt : k < n
    · obtain ⟨g, o, rfl, _, hgs, hc0, hc1⟩ := HX.out.at (i := k) (by rw [Hn.out]; exact hlt)
      have hst := sz_take rs k (by rw [Hn.out]; exact hlt)
      have hb1 := HM.out.bounds (k := k) (by rw [Hn.out]; omega)
      have hb2 := HM.out.bounds (k := k + 1) (by rw [Hn.out]; omega)
      rw [hst] at hb2
      have HS := Lib.hid hst
      clear hst
      generalize rs.getD k (0, 0) = r at *
      obtain ⟨cc, nn⟩ := r
      simp only at *
      generalize sz (rs.take k) = s at *
      go_wp2_with fail
      go_roundw
      case rel => exact ⟨k + 1, by omega, by go_num, by rw [HS.out], HB.out.alloc HB.out.size _⟩
      case measure => simp [intOf]; omega
    · obtain rfl : k = n := by omega
      have hz : rs.take k = rs := List.take_of_length_le (by rw [Hn.out]; omega)
      rw [hz]
      go_wp2_with fail
      go_ret
      exact ⟨rfl, HB.out⟩

/-- Len's answer. -/
def len (rs : List Run) : Int := if may rs = true then sz rs else 0
theorem len_any {w : World} {P : Nat → Prop} {v : Value} {rs : List Run} (h : Rr w P v rs) :
    Calls Try.prog 18 #[v] w fun e w' => e = .returned (.int .i64 (len rs)) ∧ Below w.heap.size w w' := by
  have HM := Lib.hid (may_any h)
  have HR := Lib.hid h
  obtain ⟨a, c, rfl, _⟩ := h.shape
  clear h
  cases hm : may rs with
  | true =>
    have hlen : len rs = sz rs := by simp [len, hm]
    have HS := Lib.hid fun (w1 : World) (hb : Below w.heap.size w w1) => size_any (HR.out.below hb) hm
    rw [hm] at HM
    rw [hlen]
    clear hm hlen
    go_enter Try.func18, Try.ntmps18
    go_wp2_with fail
    refine HM.out.mono ?_
    rintro e w1 ⟨rfl, hb⟩
    have HB := Lib.hid hb
    clear hb
    go_wp2_with fail
    refine (HS.out _ HB.out).mono ?_
    rintro e w2 ⟨rfl, hb2⟩
    go_wp2_with fail
    go_ret
    exact ⟨rfl, HB.out.trans (hb2.mono HB.out.size)⟩
  | false =>
    have hlen : len rs = 0 := by simp [len, hm]
    rw [hm] at HM
    rw [hlen]
    clear hm hlen
    go_enter Try.func18, Try.ntmps18
    go_wp2_with fail
    refine HM.out.mono ?_
    rintro e w1 ⟨rfl, hb⟩
    go_wp2_with fail
    go_ret
    exact ⟨rfl, hb⟩
end Go.Proofs.Ytdjapppfjpgidaa
