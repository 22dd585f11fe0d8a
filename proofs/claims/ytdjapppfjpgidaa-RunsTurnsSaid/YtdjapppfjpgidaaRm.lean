/- Walks: stands. -/
import Derived.Test.YtdjapppfjpgidaaRl
namespace Go.Proofs.Ytdjapppfjpgidaa
open Go.RowKit

/-- Does t stand in s from somewhere in its run j on? -/
def standsR (s t : List Run) (j : Nat) : Bool :=
  if s.length ≤ j + (t.length - 1) ∨ (s.getD j (0, 0)).1 ≠ (t.getD 0 (0, 0)).1 ∨ (s.getD j (0, 0)).2 < (t.getD 0 (0, 0)).2 then false
  else if t.length = 1 then true
  else decide ((s.drop (j + 1)).take (t.length - 2) = (t.drop 1).take (t.length - 2)) && (decide ((s.getD (j + (t.length - 1)) (0, 0)).1 = (t.getD (t.length - 1) (0, 0)).1) && decide ((t.getD (t.length - 1) (0, 0)).2 ≤ (s.getD (j + (t.length - 1)) (0, 0)).2))

theorem Rr.sub {w : World} {P : Nat → Prop} {g o n c : Nat} {rs : List Run} (h : Rr w P (.slice (some ⟨g, o, none⟩) n c) rs) {i m : Nat} (him : i + m ≤ n) : Rr w P (.slice (some ⟨g, o + i * 2, none⟩) m (c - i)) ((rs.drop i).take m) := by
  obtain ⟨h1, h2⟩ := h.len
  have hl : ((rs.drop i).take m).length = m := by simp; omega
  refine ⟨_, c - i, by rw [hl], by rw [hl]; omega, by simp, fun k hk => ?_⟩
  rw [hl] at hk
  obtain ⟨g', o', e, p1, p2, p3, p4⟩ := h.at (i := i + k) (by omega)
  cases e
  have e2 : ((rs.drop i).take m).getD k (0, 0) = rs.getD (i + k) (0, 0) := by
    simp only [List.getD_eq_getElem?_getD]
    rw [List.getElem?_take, if_pos hk, List.getElem?_drop]
  rw [e2]
  exact ⟨g, o + i * 2, rfl, p1, p2, by rw [← p3]; congr 2; omega, by rw [← p4]; congr 2; omega⟩

set_option maxHeartbeats 2000000 in
theorem stands_no1 {w : World} {P Q : Nat → Prop} {v u : Value} {s t : List Run} (hs : Rr w P v s) (ht : Rr w Q u t) (j : Nat) (hj : j ≤ 65536) (hl : s.length ≤ 65536) (hl2 : t.length ≤ 65536) (hp : 0 < t.length) (h : s.length ≤ j + (t.length - 1)) :
    Calls Try.prog 38 #[v, u, .int .i64 j] w fun e w' => e = .returned (.bool (standsR s t j)) ∧ Below w.heap.size w w' := by
  have hr : standsR s t j = false := by rw [standsR, if_pos (.inl h)]
  rw [hr]
  obtain ⟨a, c, rfl, _⟩ := hs.shape
  obtain ⟨b, d, rfl, _⟩ := ht.shape
  clear hr hs ht
  generalize s.length = n at *
  generalize t.length = m at *
  have q1 : (n : Int) ≤ (j : Int) + ((m : Int) - 1) := by omega
  have q2 : IntKind.i64.wrap ((m : Int) - 1) = (m : Int) - 1 := IntWalk.i64_in _ (by omega)
  have q3 : IntKind.i64.wrap ((j : Int) + ((m : Int) - 1)) = (j : Int) + ((m : Int) - 1) := IntWalk.i64_in _ (by omega)
  go_enter Try.func38, Try.ntmps38
  go_wp2_with fail
  go_quiet (fail)
  go_wp2_with fail
  go_ret
  exact ⟨rfl, below_drewN (Below.refl _ _) _⟩

set_option maxHeartbeats 4000000 in
theorem stands_no2 {w : World} {P Q : Nat → Prop} {v u : Value} {s t : List Run} (hs : Rr w P v s) (ht : Rr w Q u t) (j : Nat) (hj : j ≤ 65536) (hl : s.length ≤ 65536) (hl2 : t.length ≤ 65536) (hp : 0 < t.length) (h : j + (t.length - 1) < s.length)
    (hb : (s.getD j (0, 0)).1 ≠ (t.getD 0 (0, 0)).1 ∨ (s.getD j (0, 0)).2 < (t.getD 0 (0, 0)).2 ∨ t.length = 1) :
    Calls Try.prog 38 #[v, u, .int .i64 j] w fun e w' => e = .returned (.bool (standsR s t j)) ∧ Below w.heap.size w w' := by
  have hr : standsR s t j = if (s.getD j (0, 0)).1 ≠ (t.getD 0 (0, 0)).1 ∨ (s.getD j (0, 0)).2 < (t.getD 0 (0, 0)).2 then false else true := by
    unfold standsR
    by_cases c1 : (s.getD j (0, 0)).1 ≠ (t.getD 0 (0, 0)).1 ∨ (s.getD j (0, 0)).2 < (t.getD 0 (0, 0)).2
    · rw [if_pos (.inr c1), if_pos c1]
    · rw [if_neg (by omega), if_neg c1, if_pos (by omega)]
  rw [hr]
  obtain ⟨a, c, rfl, _⟩ := hs.shape
  obtain ⟨b, d, rfl, _⟩ := ht.shape
  obtain ⟨g1, o1, rfl, _, _, p0, p1⟩ := hs.at (i := j) (by omega)
  obtain ⟨g2, o2, rfl, _, _, r0, r1⟩ := ht.at (i := 0) hp
  simp only [Nat.zero_mul, Nat.add_zero] at r0 r1
  clear hr hs ht
  generalize s.length = n at *
  generalize t.length = m at *
  generalize s.getD j (0, 0) = x at *
  generalize t.getD 0 (0, 0) = y at *
  obtain ⟨x1, x2⟩ := x
  obtain ⟨y1, y2⟩ := y
  simp only at *
  have q1 : ¬ (n : Int) ≤ (j : Int) + ((m : Int) - 1) := by omega
  have q2 : IntKind.i64.wrap ((m : Int) - 1) = (m : Int) - 1 := IntWalk.i64_in _ (by omega)
  have q3 : IntKind.i64.wrap ((j : Int) + ((m : Int) - 1)) = (j : Int) + ((m : Int) - 1) := IntWalk.i64_in _ (by omega)
  have jn : j < n := by omega
  have q4 : decide ((n : Int) ≤ (j : Int) + ((m : Int) - 1)) = false := by simpa using q1
  have q5 : (j : Int) < (n : Int) := by omega
  by_cases c1 : x1 = y1
  · subst c1
    by_cases c2 : x2 < y2
    · rw [if_pos (.inr c2)]
      clear hb h
      go_enter Try.func38, Try.ntmps38
      go_wp2_with fail
      go_quiet (fail)
      go_wp2_with fail
      go_ret
      exact ⟨rfl, below_drewN (Below.refl _ _) _⟩
    · have hm1 : m = 1 := by
        rcases hb with hb | hb | hb
        · exact absurd rfl hb
        · exact absurd hb c2
        · exact hb
      have q6 : ((m : Int) - 1 == 0) = true := by rw [beq_iff_eq]; omega
      have q7 : decide (x2 < y2) = false := by simpa using c2
      rw [if_neg (by omega)]
      clear hb h hm1
      go_enter Try.func38, Try.ntmps38
      go_wp2_with fail
      go_quiet (fail)
      go_wp2_with fail
      go_ret
      exact ⟨rfl, below_drewN (Below.refl _ _) _⟩
  · have hx : (x1 != y1) = true := by simpa using c1
    rw [if_pos (.inl c1)]
    clear hb h
    go_enter Try.func38, Try.ntmps38
    go_wp2_with fail
    go_quiet (fail)
    go_wp2_with fail
    go_ret
    exact ⟨rfl, below_drewN (Below.refl _ _) _⟩
end Go.Proofs.Ytdjapppfjpgidaa
