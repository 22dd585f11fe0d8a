/- Walks: stands, where t has two or more runs and its first one fits. -/
import Derived.Test.YtdjapppfjpgidaaRm
namespace Go.Proofs.Ytdjapppfjpgidaa
open Go.RowKit

set_option maxHeartbeats 4000000 in
theorem stands_more {w : World} {P Q : Nat → Prop} {v u : Value} {s t : List Run} (hs : Rr w P v s) (ht : Rr w Q u t) (j k : Nat) (hj : j ≤ 65536) (hl : s.length ≤ 65536) (hl2 : t.length ≤ 65536) (hk : t.length = k + 1) (hk0 : 0 < k) (h : j + k < s.length)
    (h1 : (s.getD j (0, 0)).1 = (t.getD 0 (0, 0)).1) (h2 : ¬ (s.getD j (0, 0)).2 < (t.getD 0 (0, 0)).2) :
    Calls Try.prog 38 #[v, u, .int .i64 j] w fun e w' => e = .returned (.bool (standsR s t j)) ∧ Below w.heap.size w w' := by
  have hr : standsR s t j = (decide ((s.drop (j + 1)).take (k - 1) = (t.drop 1).take (k - 1)) && (decide ((s.getD (j + k) (0, 0)).1 = (t.getD k (0, 0)).1) && decide ((t.getD k (0, 0)).2 ≤ (s.getD (j + k) (0, 0)).2))) := by
    unfold standsR
    rw [hk, if_neg (by omega), if_neg (by omega)]
    rfl
  rw [hr]
  have HS := Lib.hid hs
  have HT := Lib.hid ht
  obtain ⟨a, c, rfl, _⟩ := hs.shape
  obtain ⟨b, d, rfl, _⟩ := ht.shape
  obtain ⟨g1, o1, rfl, _, gs1, p0, p1⟩ := hs.at (i := j) (by omega)
  obtain ⟨g2, o2, rfl, _, gs2, r0, r1⟩ := ht.at (i := 0) (by omega)
  obtain ⟨g1', o1', e1, _, _, l0, l1⟩ := hs.at (i := j + k) h
  cases e1
  obtain ⟨g2', o2', e2, _, _, m0, m1⟩ := ht.at (i := k) (by omega)
  cases e2
  simp only [Nat.zero_mul, Nat.add_zero] at r0 r1
  have HLT := Lib.hid (And.intro hk (And.intro hl hl2))
  have Hcap : Hid (s.length ≤ c ∧ t.length ≤ d) := ⟨hs.len.2, ht.len.2⟩
  have HE := Lib.hid fun (w1 : World) (hb : Below w.heap.size w w1) (n : Nat) => equalq_q ((Rr.sub (i := j + 1) (m := k - 1) (HS.out.below hb) (by omega))) ((Rr.sub (i := 1) (m := k - 1) (HT.out.below hb) (by omega))) (by simp; omega) n
  clear hr hs ht HS HT
  generalize s.length = n at *
  generalize t.length = m at *
  generalize decide ((s.drop (j + 1)).take (k - 1) = (t.drop 1).take (k - 1)) = eq at *
  generalize s.getD j (0, 0) = x at *
  generalize t.getD 0 (0, 0) = y at *
  generalize s.getD (j + k) (0, 0) = x9 at *
  generalize t.getD k (0, 0) = y9 at *
  obtain ⟨x1, x2⟩ := x
  obtain ⟨y1, y2⟩ := y
  obtain ⟨x3, x4⟩ := x9
  obtain ⟨y3, y4⟩ := y9
  simp only at *
  subst h1
  have q2 : IntKind.i64.wrap ((m : Int) - 1) = (k : Int) := by rw [IntWalk.i64_in _ (by omega)]; omega
  have q2b : (m : Int) - 1 = (k : Int) := by omega
  have q3 : IntKind.i64.wrap ((j : Int) + (k : Int)) = (j : Int) + (k : Int) := IntWalk.i64_in _ (by omega)
  have q4 : decide ((n : Int) ≤ (j : Int) + (k : Int)) = false := by simp; omega
  have q5 : (j : Int) < (n : Int) := by omega
  have q6 : ((k : Int) == 0) = false := by rw [beq_eq_false_iff_ne]; omega
  have q7 : decide (x2 < y2) = false := by simpa using h2
  have jn : j < n := by omega
  have km : k < m := by omega
  obtain ⟨r, hr⟩ : ∃ r, r = (eq && (decide (x3 = y3) && decide (y4 ≤ x4))) := ⟨_, rfl⟩
  rw [← hr]
  have HR := Lib.hid hr
  clear hr
  go_enter Try.func38, Try.ntmps38
  go_wp2_with fail
  go_quiet (fail)
  go_upto_region 6 with fail
  obtain ⟨w2, hw2⟩ : ∃ w2, w2 = w.drewN nq := ⟨_, rfl⟩
  have HB2 : Hid (Below w.heap.size w w2) := by rw [hw2]; exact below_drewN (Below.refl _ _) _
  have l0' : w2.cell? ⟨g1, o1 + (j + k) * 2, none⟩ = some (.int .i64 x3) := by rw [hw2]; exact l0
  have l1' : w2.cell? ⟨g1, o1 + (j + k) * 2 + 1, none⟩ = some (.int .i64 x4) := by rw [hw2]; exact l1
  have m0' : w2.cell? ⟨g2, o2 + k * 2, none⟩ = some (.int .i64 y3) := by rw [hw2]; exact m0
  have m1' : w2.cell? ⟨g2, o2 + k * 2 + 1, none⟩ = some (.int .i64 y4) := by rw [hw2]; exact m1
  rw [← hw2]
  clear hw2 l0 l1 m0 m1 p0 p1 r0 r1
  go_upto_region 7 with fail
  have HB3 : Hid (Below w.heap.size w (w2.alloc (.cells #[.int .i64 x3, .int .i64 x4] 38))) := HB2.out.alloc HB2.out.size _
  obtain ⟨b0, b1⟩ := box_cells w2 x3 x4
  have m0a := old_cell (.cells #[.int .i64 x3, .int .i64 x4] 38) m0'
  have m1a := old_cell (.cells #[.int .i64 x3, .int .i64 x4] 38) m1'
  obtain ⟨w3, hw3⟩ : ∃ w3, w3 = w2.alloc (.cells #[.int .i64 x3, .int .i64 x4] 38) := ⟨_, rfl⟩
  rw [← hw3] at HB3 b0 b1 m0a m1a ⊢
  generalize w2.heap.size = xb at *
  clear hw3 l0' l1' m0' m1' HB2
  obtain ⟨hc1, hc2⟩ := Hcap.out
  obtain ⟨j1, hj1⟩ : ∃ j1, j1 = j + 1 := ⟨_, rfl⟩
  obtain ⟨jk, hjk⟩ : ∃ jk, jk = j + k := ⟨_, rfl⟩
  have HEE : Hid (∀ n, Calls Try.prog 39 #[.slice (some ⟨g1, o1 + j1 * 2, none⟩) (jk - j1) (c - j1), .slice (some ⟨g2, o2 + 2, none⟩) (k - 1) (d - 1)] (w3.drewN n) fun e w' => e = .returned (.bool eq) ∧ ∃ m, w' = w3.drewN m) := by
    have h0 := HE.out w3 HB3.out
    have e1 : jk - j1 = k - 1 := by omega
    show ∀ n, _
    rw [e1, hj1]
    exact h0
  have j3 : IntKind.i64.wrap ((j : Int) + 1) = (j1 : Int) := by rw [IntWalk.i64_in _ (by omega)]; omega
  have j4 : IntKind.i64.wrap ((j : Int) + (k : Int)) = (jk : Int) := by rw [q3]; omega
  have j5 : j1 ≤ jk := by omega
  have j6 : jk ≤ c := by omega
  have j7 : c ≠ j1 := by omega
  have j8 : 1 ≤ k := by omega
  have j9 : k ≤ d := by omega
  have j10 : d ≠ 1 := by omega
  have j11 : j1 ≤ c := by omega
  have j12 : (k : Int) < (m : Int) := by omega
  clear q2 q2b q3 q4 q5 q6 q7 jn hc1 hc2 hj1 hjk h h2
  cases eq
  · have HR2 : Hid (r = false) := by show _ = _; rw [HR.out]; simp
    clear HR
    go_quiet ((go_at_call 39; exact HEE.out _))
    go_wp2_with fail
    go_ret
    exact ⟨by rw [HR2.out]; rfl, below_drewN HB3.out _⟩
  · by_cases c1 : x3 = y3
    · by_cases c2 : y4 ≤ x4
      · have HR2 : Hid (r = true) := by show _ = _; rw [HR.out]; simp [c1, c2]
        have d2 : decide (y4 ≤ x4) = true := by simpa using c2
        clear HR
        subst c1
        go_quiet ((go_at_call 39; exact HEE.out _))
        go_wp2_with fail
        go_ret
        exact ⟨by rw [HR2.out]; rfl, below_drewN HB3.out _⟩
      · have HR2 : Hid (r = false) := by show _ = _; rw [HR.out]; simp [c2]
        have d2 : decide (y4 ≤ x4) = false := by simpa using c2
        clear HR
        subst c1
        go_quiet ((go_at_call 39; exact HEE.out _))
        go_wp2_with fail
        go_ret
        exact ⟨by rw [HR2.out]; rfl, below_drewN HB3.out _⟩
    · have HR2 : Hid (r = false) := by show _ = _; rw [HR.out]; simp [c1]
      have d2 : (x3 == y3) = false := by simpa using c1
      clear HR
      go_quiet ((go_at_call 39; exact HEE.out _))
      go_wp2_with fail
      go_ret
      exact ⟨by rw [HR2.out]; rfl, below_drewN HB3.out _⟩

theorem stands_any {w : World} {P Q : Nat → Prop} {v u : Value} {s t : List Run} (hs : Rr w P v s) (ht : Rr w Q u t) (j : Nat) (hj : j ≤ 65536) (hl : s.length ≤ 65536) (hl2 : t.length ≤ 65536) (hp : 0 < t.length) :
    Calls Try.prog 38 #[v, u, .int .i64 j] w fun e w' => e = .returned (.bool (standsR s t j)) ∧ Below w.heap.size w w' := by
  by_cases h : s.length ≤ j + (t.length - 1)
  · exact stands_no1 hs ht j hj hl hl2 hp h
  by_cases h1 : (s.getD j (0, 0)).1 = (t.getD 0 (0, 0)).1
  · by_cases h2 : (s.getD j (0, 0)).2 < (t.getD 0 (0, 0)).2
    · exact stands_no2 hs ht j hj hl hl2 hp (by omega) (.inr (.inl h2))
    · by_cases h3 : t.length = 1
      · exact stands_no2 hs ht j hj hl hl2 hp (by omega) (.inr (.inr h3))
      · exact stands_more hs ht j (t.length - 1) hj hl hl2 (by omega) (by omega) (by omega) h1 h2
  · exact stands_no2 hs ht j hj hl hl2 hp (by omega) (.inl h1)
end Go.Proofs.Ytdjapppfjpgidaa
