/- The reference's stands, Index. -/
import Derived.Test.YtdjapppfjpgidaaIe
namespace Go.Proofs.Ytdjapppfjpgidaa
open Go.RowKit

/-- Does m stand in l at a place? -/
def rst (l m : List Int) (i : Int) : Bool := decide (0 ≤ i ∧ i + m.length ≤ l.length ∧ (l.drop i.toNat).take m.length = m)
theorem rst_iff {l m : List Int} {k : Nat} (hk : k ≤ l.length) : rst l m k = true ↔ m <+: l.drop k := by
  simp only [rst, decide_eq_true_eq, List.prefix_iff_eq_take, Int.toNat_natCast]
  constructor
  · rintro ⟨_, _, h⟩
    exact h.symm
  · intro h
    have hl : m.length ≤ (l.drop k).length := by rw [h]; simp; omega
    rw [List.length_drop] at hl
    exact ⟨by omega, by omega, h.symm⟩
/-- Alike up to place j. -/
def likeI (l m : List Int) (i j : Nat) : Prop := (l.drop i).take j = m.take j
theorem likeI_zero (l m : List Int) (i : Nat) : likeI l m i 0 := by simp [likeI]
theorem likeI_step {l m : List Int} {i j : Nat} (h1 : i + j < l.length) (h2 : j < m.length) (h : likeI l m i j) (he : l.getD (i + j) 0 = m.getD j 0) : likeI l m i (j + 1) := by
  unfold likeI at *
  rw [take_snoc _ j (by rw [List.length_drop]; omega), take_snoc m j h2, h]
  congr 2
  rw [← he]
  simp [List.getD_eq_getElem?_getD]
theorem likeI_all {l m : List Int} {i : Nat} (h1 : i + m.length ≤ l.length) (h : likeI l m i m.length) : rst l m i = true := by
  unfold likeI at h
  rw [List.take_length] at h
  simp only [rst, decide_eq_true_eq, Int.toNat_natCast]
  exact ⟨by omega, by omega, h⟩
theorem likeI_stop {l m : List Int} {i j : Nat} (h2 : j < m.length) (he : l.getD (i + j) 0 ≠ m.getD j 0) : rst l m i = false := by
  simp only [rst, decide_eq_false_iff_not, Int.toNat_natCast]
  rintro ⟨_, _, h⟩
  apply he
  rw [← h]
  simp [List.getD_eq_getElem?_getD, h2]

set_option maxHeartbeats 4000000 in
theorem rstands_any {w : World} {P Q : Nat → Prop} {v u : Value} {l m : List Int} (hl : RdI w P v l) (hm : RdI w Q u m) (i : Int) (hi : i ≤ 1000000) (h1 : l.length ≤ 1000000) (h2 : m.length ≤ 1000000) :
    Calls Try.prog 43 #[v, u, .int .i64 i] w fun e w' => e = .returned (.bool (rst l m i)) ∧ Below w.heap.size w w' := by
  have HL := Lib.hid hl
  have HM := Lib.hid hm
  obtain ⟨a, c, rfl, _⟩ := hl.shape
  obtain ⟨b, d, rfl, _⟩ := hm.shape
  clear hl hm
  by_cases g1 : i < 0
  · have hr : rst l m i = false := by simp [rst]; omega
    rw [hr]
    have e1 : decide (i < 0) = true := by simpa using g1
    clear hr
    go_enter Try.func43, Try.ntmps43
    go_wp2_with fail
    go_ret
    exact ⟨rfl, Below.refl _ _⟩
  have e1 : decide (i < 0) = false := by simpa using g1
  have j1 : IntKind.i64.wrap (i + (m.length : Int)) = i + (m.length : Int) := IntWalk.i64_in _ (by omega)
  by_cases g2 : (l.length : Int) < i + (m.length : Int)
  · have hr : rst l m i = false := by simp [rst]; omega
    rw [hr]
    have e2 : decide ((l.length : Int) < i + (m.length : Int)) = true := by simpa using g2
    clear hr
    go_enter Try.func43, Try.ntmps43
    go_wp2_with fail
    go_ret
    exact ⟨rfl, Below.refl _ _⟩
  have e2 : decide ((l.length : Int) < i + (m.length : Int)) = false := by simpa using g2
  obtain ⟨p, rfl⟩ : ∃ p : Nat, i = p := ⟨i.toNat, by omega⟩
  have H0 := Lib.hid (likeI_zero l m p)
  have HA := Lib.hid (likeI_all (l := l) (m := m) (i := p) (by omega))
  generalize hx : l.length = x at *
  generalize hy : m.length = y at *
  have HX := Lib.hid (And.intro hx hy)
  clear hx hy
  go_enter Try.func43, Try.ntmps43
  go_wp2_with fail
  go_loopw [7] (fun j wr => ∃ k : Nat, k ≤ y ∧ j = .int .i64 k ∧ likeI l m p k ∧ ∃ q, wr = w.drewN q) (fun j _ => y - (intOf j).toNat)
  case atStart => exact ⟨0, by omega, rfl, H0.out, 0, rfl⟩
  case round =>
    obtain ⟨k, hk, rfl, hlk, nd, rfl⟩ := hrel
    have HK := Lib.hid hlk
    clear hlk
    by_cases hlt : k < y
    · obtain ⟨g1', o1, rfl, _, _, t0⟩ := HL.out.at (i := p + k) (by rw [HX.out.1]; omega)
      obtain ⟨g2', o2, rfl, _, _, t1⟩ := HM.out.at (i := k) (by rw [HX.out.2]; exact hlt)
      have hstep := Lib.hid (likeI_step (l := l) (m := m) (i := p) (j := k) (by rw [HX.out.1]; omega) (by rw [HX.out.2]; exact hlt) HK.out)
      have hstop := Lib.hid (likeI_stop (l := l) (m := m) (i := p) (j := k) (by rw [HX.out.2]; exact hlt))
      generalize l.getD (p + k) 0 = x1 at *
      generalize m.getD k 0 = y1 at *
      have j2 : IntKind.i64.wrap ((p : Int) + (k : Int)) = (p : Int) + (k : Int) := IntWalk.i64_in _ (by omega)
      have j3 : p + k < x := by omega
      have j4 : (0 : Int) ≤ (p : Int) + (k : Int) := by omega
      have j5 : (p : Int) + (k : Int) < (x : Int) := by omega
      have j6 : ((p : Int) + (k : Int)).toNat = p + k := by omega
      by_cases he : x1 = y1
      · have hs := Lib.hid (hstep.out he)
        have hb : (x1 != y1) = false := by simpa using he
        clear hstep hstop he
        go_wp2_with fail
        go_quiet (fail)
        go_wp2_with fail
        go_roundw
        case rel => exact ⟨k + 1, by omega, by go_num, hs.out, _, rfl⟩
        case measure => simp [intOf]; omega
      · have hs := Lib.hid (hstop.out he)
        have hb : (x1 != y1) = true := by simpa using he
        clear hstep hstop he
        go_wp2_with fail
        go_quiet (fail)
        go_wp2_with fail
        go_ret
        exact ⟨by rw [hs.out]; rfl, below_drewN (below_drewN (Below.refl _ _) _) _⟩
    · obtain rfl : k = y := by omega
      have hs := Lib.hid (HA.out HK.out)
      go_wp2_with fail
      go_ret
      exact ⟨by rw [hs.out]; rfl, below_drewN (Below.refl _ _) _⟩

set_option maxHeartbeats 4000000 in
theorem rindex_any {w : World} {P Q : Nat → Prop} {va vb : Value} {s t : List Run} (hs : Rr w P va s) (ht : Rr w Q vb t) (zs : may s = true → sz s ≤ 50000) (zt : may t = true → sz t ≤ 50000) (i : Int) (hi9 : i ≤ 9223372036854775807) :
    Calls Try.prog 31 #[va, vb, .int .i64 i] w fun e w' => e = .returned (.int .i64 (indexR s t i)) ∧ Below w.heap.size w w' := by
  have HA := Lib.hid hs
  have HB := Lib.hid ht
  have M1 := Lib.hid (rmay_any hs)
  have M2 := Lib.hid fun (w1 : World) (h : Below w.heap.size w w1) => rmay_any (HB.out.below h)
  obtain ⟨aa, ca, rfl, _⟩ := hs.shape
  obtain ⟨ab, cb, rfl, _⟩ := ht.shape
  clear hs ht
  cases h1 : may s with
  | false =>
    have hr : indexR s t i = -1 := if_neg (by simp [h1])
    rw [hr]
    rw [h1] at M1
    clear hr h1 zs zt
    cases h2 : may t <;> simp only [h2] at M2 <;> clear h2
    all_goals
      go_enter Try.func31, Try.ntmps31
      go_wp2_with fail
      refine M1.out.mono ?_
      rintro e w1 ⟨rfl, hb⟩
      have HB1 := Lib.hid hb
      clear hb
      go_wp2_with fail
      refine (M2.out _ HB1.out).mono ?_
      rintro e w2 ⟨rfl, hb⟩
      have HB2 := Lib.hid (HB1.out.trans (hb.mono HB1.out.size))
      clear hb
      go_wp2_with fail
      go_ret
      exact ⟨rfl, HB2.out⟩
  | true =>
    rw [h1] at M1
    cases h2 : may t with
    | false =>
      have hr : indexR s t i = -1 := if_neg (by simp [h2])
      rw [hr]
      simp only [h2] at M2
      clear hr h1 h2 zs zt
      go_enter Try.func31, Try.ntmps31
      go_wp2_with fail
      refine M1.out.mono ?_
      rintro e w1 ⟨rfl, hb⟩
      have HB1 := Lib.hid hb
      clear hb
      go_wp2_with fail
      refine (M2.out _ HB1.out).mono ?_
      rintro e w2 ⟨rfl, hb⟩
      have HB2 := Lib.hid (HB1.out.trans (hb.mono HB1.out.size))
      clear hb
      go_wp2_with fail
      go_ret
      exact ⟨rfl, HB2.out⟩
    | true =>
      simp only [h2] at M2
      by_cases g1 : i < 0
      · have hr : indexR s t i = -1 := first_neg g1
        rw [hr]
        have e1 : decide (i < 0) = true := by simpa using g1
        clear hr h1 h2 zs zt g1
        go_enter Try.func31, Try.ntmps31
        go_wp2_with fail
        refine M1.out.mono ?_
        rintro e w1 ⟨rfl, hb⟩
        have HB1 := Lib.hid hb
        clear hb
        go_wp2_with fail
        refine (M2.out _ HB1.out).mono ?_
        rintro e w2 ⟨rfl, hb⟩
        have HB2 := Lib.hid (HB1.out.trans (hb.mono HB1.out.size))
        clear hb
        go_wp2_with fail
        go_ret
        exact ⟨rfl, HB2.out⟩
      · have e1 : decide (i < 0) = false := by simpa using g1
        have mS := may_iff.1 h1
        have mT := may_iff.1 h2
        have hz1 := zs h1
        have hz2 := zt h2
        have P1 := Lib.hid fun (w1 : World) (h : Below w.heap.size w w1) => points_any (HA.out.below h) mS (by omega)
        have P2 := Lib.hid fun (w1 : World) (h : Below w.heap.size w w1) => points_any (HB.out.below h) mT (by omega)
        have HSp := Lib.hid (index_spec mS mT (i := i) (by omega))
        have hl1 : (pts s).length ≤ 50000 := by have := mS.length; omega
        have hl2 : (pts t).length ≤ 50000 := by have := mT.length; omega
        clear h1 h2 zs zt mS mT hz1 hz2
        generalize indexR s t i = R at *
        generalize pts s = l at *
        generalize pts t = m at *
        obtain ⟨p, rfl⟩ : ∃ p : Nat, i = p := ⟨i.toNat, by omega⟩
        generalize hx : l.length = x at *
        generalize hy : m.length = y at *
        have HX := Lib.hid (And.intro hx hy)
        clear hx hy
        go_enter Try.func31, Try.ntmps31
        go_wp2_with fail
        refine M1.out.mono ?_
        rintro e w1 ⟨rfl, hb⟩
        have HB1 := Lib.hid hb
        clear hb
        go_wp2_with fail
        refine (M2.out _ HB1.out).mono ?_
        rintro e w2 ⟨rfl, hb⟩
        have HB2 := Lib.hid (HB1.out.trans (hb.mono HB1.out.size))
        clear hb
        go_wp2_with fail
        refine (P1.out _ HB2.out).mono ?_
        rintro e w3 ⟨la, lc, rfl, ho, hb⟩
        have HB3 := Lib.hid (HB2.out.trans (hb.mono HB2.out.size))
        have HL3 := Lib.hid ho.rd
        rw [HX.out.1] at HL3 ⊢
        clear hb ho
        go_wp2_with fail
        refine (P2.out _ HB3.out).mono ?_
        rintro e w4 ⟨ma, mc, rfl, ho, hb⟩
        have HB4 := Lib.hid (HB3.out.trans (hb.mono HB3.out.size))
        have HL4 := Lib.hid (HL3.out.below hb)
        have HM4 := Lib.hid ho.rd
        rw [HX.out.2] at HM4 ⊢
        clear hb ho
        go_wp2_with fail
        go_loopw [11] (fun j wr => ∃ k : Nat, p ≤ k ∧ j = .int .i64 k ∧ (∀ q : Nat, (p : Int) ≤ q → q < k → ¬ m <+: l.drop q) ∧ Below w4.heap.size w4 wr) (fun j _ => x + 1 - (intOf j).toNat)
        case atStart => exact ⟨p, by omega, rfl, fun q h1 h2 => by omega, Below.refl _ _⟩
        case round =>
          obtain ⟨k, hk, rfl, hno, hb⟩ := hrel
          have HN := Lib.hid hno
          have HB5 := Lib.hid hb
          clear hno hb
          by_cases hlt : k ≤ x
          · have e3 : decide ((k : Int) ≤ (x : Int)) = true := by simpa using hlt
            have HSt := Lib.hid (rstands_any (HL4.out.below HB5.out) (HM4.out.below HB5.out) (k : Int) (by omega) (by rw [HX.out.1]; omega) (by rw [HX.out.2]; omega))
            have HI := Lib.hid (rst_iff (l := l) (m := m) (k := k) (by rw [HX.out.1]; exact hlt))
            cases hr : rst l m k with
            | true =>
              rw [hr] at HSt
              have HR : Hid (R = k) := by
                have hp := HI.out.1 hr
                rcases HSp.out with ⟨_, h⟩ | ⟨q, e, a1, a2, a3, a4⟩
                · exact absurd hp (h k (by omega) hlt)
                · show _ = _
                  rw [e]
                  rcases Nat.lt_trichotomy q k with h | h | h
                  · exact absurd a3 (HN.out q a1 h)
                  · rw [h]
                  · exact absurd hp (a4 k (by omega) h)
              clear hr HI
              go_wp2_with fail
              refine HSt.out.mono ?_
              rintro e w6 ⟨rfl, hb⟩
              have HB6 := Lib.hid (HB5.out.trans (hb.mono HB5.out.size))
              clear hb
              go_wp2_with fail
              go_ret
              exact ⟨by rw [HR.out]; rfl, HB4.out.trans (HB6.out.mono HB4.out.size)⟩
            | false =>
              rw [hr] at HSt
              have HP : Hid (¬ m <+: l.drop k) := fun h => by rw [HI.out.2 h] at hr; cases hr
              clear hr HI
              go_wp2_with fail
              refine HSt.out.mono ?_
              rintro e w6 ⟨rfl, hb⟩
              have HB6 := Lib.hid (HB5.out.trans (hb.mono HB5.out.size))
              clear hb
              go_wp2_with fail
              go_roundw
              case rel =>
                refine ⟨k + 1, by omega, by go_num, fun q h1 h2 => ?_, HB6.out⟩
                rcases Nat.lt_or_ge q k with h | h
                · exact HN.out q h1 h
                · obtain rfl : q = k := by omega
                  exact HP.out
              case measure => simp [intOf]; omega
          · have e3 : decide ((k : Int) ≤ (x : Int)) = false := by simp; omega
            have HR : Hid (R = -1) := by
              rcases HSp.out with ⟨e, _⟩ | ⟨q, _, a1, a2, a3, _⟩
              · exact e
              · exact absurd a3 (HN.out q a1 (by omega))
            go_wp2_with fail
            go_ret
            exact ⟨by rw [HR.out]; rfl, HB4.out.trans (HB5.out.mono HB4.out.size)⟩
end Go.Proofs.Ytdjapppfjpgidaa
