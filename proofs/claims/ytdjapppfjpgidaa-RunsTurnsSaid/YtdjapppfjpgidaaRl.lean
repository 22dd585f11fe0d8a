/- Walks: slices.Equal turns nothing; stands. -/
import Derived.Test.YtdjapppfjpgidaaRk
namespace Go.Proofs.Ytdjapppfjpgidaa
open Go.RowKit

theorem equalq_far (w : World) (a b : Option Addr) (n m c d : Nat) (h : n ≠ m) : Calls Try.prog 39 #[.slice a n c, .slice b m d] w fun e w' => e = .returned (.bool false) ∧ ∃ m, w' = w.drewN m := by
  have hd : ((n : Int) != (m : Int)) = true := by rw [bne_iff_ne]; omega
  go_enter Try.func39, Try.ntmps39
  go_wp2
  go_ret
  exact ⟨rfl, ⟨0, rfl⟩⟩

set_option maxHeartbeats 1000000 in
theorem equalq_near {w : World} {P Q : Nat → Prop} {a b : Option Addr} {n c d : Nat} {xs ys : List Run} (h : Rr w P (.slice a n c) xs) (k : Rr w Q (.slice b n d) ys) (hl : n ≤ 1000000000000) :
    Calls Try.prog 39 #[.slice a n c, .slice b n d] w fun e w' => e = .returned (.bool (decide (xs = ys))) ∧ ∃ m, w' = w.drewN m := by
  have HX := Lib.hid h
  have HY := Lib.hid k
  have H1 := Lib.hid h.len.1
  have H2 := Lib.hid k.len.1
  have H0 := Lib.hid (like_zero xs ys)
  have hd : ((n : Int) != (n : Int)) = false := by simp
  clear h k
  go_enter Try.func39, Try.ntmps39
  go_wp2_with fail
  go_loopw [13] (fun i wr => ∃ k : Nat, k ≤ n ∧ i = .int .i64 k ∧ like xs ys k ∧ ∃ q, wr = w.drewN q) (fun i _ => n - (intOf i).toNat)
  case atStart => exact ⟨0, by omega, rfl, H0.out, 0, rfl⟩
  case round =>
    obtain ⟨k, hk, rfl, hlk, q, rfl⟩ := hrel
    have HL := Lib.hid hlk
    clear hlk
    by_cases hlt : k < n
    · obtain ⟨g1, o1, rfl, _, _, p0, p1⟩ := HX.out.at (i := k) (by rw [← H1.out]; exact hlt)
      obtain ⟨g2, o2, rfl, _, _, r0, r1⟩ := HY.out.at (i := k) (by rw [← H2.out]; exact hlt)
      have hstep := Lib.hid (like_step (xs := xs) (ys := ys) (k := k) (by rw [← H1.out]; exact hlt) (by rw [← H2.out]; exact hlt) HL.out)
      have hstop := Lib.hid (like_stop (xs := xs) (ys := ys) (k := k))
      generalize xs.getD k (0, 0) = x at *
      generalize ys.getD k (0, 0) = y at *
      obtain ⟨x1, x2⟩ := x
      obtain ⟨y1, y2⟩ := y
      simp only at *
      by_cases he : x1 = y1
      · subst he
        by_cases he2 : x2 = y2
        · subst he2
          have hs := Lib.hid (hstep.out rfl)
          clear hstep hstop
          go_wp2_with fail
          go_quiet (fail)
          go_wp2_with fail
          go_roundw
          case rel => exact ⟨k + 1, by omega, by go_num, hs.out, _, rfl⟩
          case measure => simp [intOf]; omega
        · have hs := Lib.hid (hstop.out (by simpa using he2))
          have hb : (x2 == y2) = false := by simpa using he2
          clear hstep hstop
          go_wp2_with fail
          go_quiet (fail)
          go_wp2_with fail
          go_ret
          exact ⟨by rw [hs.out]; rfl, ⟨_, World.drewN_drewN _ _ _⟩⟩
      · have hs := Lib.hid (hstop.out (by simp [he]))
        have hb : (x1 == y1) = false := by simpa using he
        clear hstep hstop
        go_wp2_with fail
        go_quiet (fail)
        go_wp2_with fail
        go_ret
        exact ⟨by rw [hs.out]; rfl, ⟨_, World.drewN_drewN _ _ _⟩⟩
    · obtain rfl : k = n := by omega
      have hs := Lib.hid (like_all H1.out.symm H2.out.symm HL.out)
      go_wp2_with fail
      go_ret
      exact ⟨by rw [hs.out]; rfl, ⟨_, rfl⟩⟩

theorem equalq_any {w : World} {P Q : Nat → Prop} {v u : Value} {xs ys : List Run} (h : Rr w P v xs) (k : Rr w Q u ys) (hl : xs.length ≤ 1000000000000) :
    Calls Try.prog 39 #[v, u] w fun e w' => e = .returned (.bool (decide (xs = ys))) ∧ ∃ m, w' = w.drewN m := by
  obtain ⟨a, c, rfl, _⟩ := h.shape
  obtain ⟨b, d, rfl, _⟩ := k.shape
  by_cases hn : xs.length = ys.length
  · rw [← hn] at k ⊢
    exact equalq_near h k hl
  · have : decide (xs = ys) = false := by
      simp only [decide_eq_false_iff_not]
      rintro rfl
      exact hn rfl
    rw [this]
    exact equalq_far w a b _ _ c d hn


theorem equalq_q {w : World} {P Q : Nat → Prop} {v u : Value} {xs ys : List Run} (h : Rr w P v xs) (k : Rr w Q u ys) (hl : xs.length ≤ 1000000000000) (n : Nat) :
    Calls Try.prog 39 #[v, u] (w.drewN n) fun e w' => e = .returned (.bool (decide (xs = ys))) ∧ ∃ m, w' = w.drewN m :=
  (equalq_any (h.below (below_drewN (Below.refl _ _) n)) (k.below (below_drewN (Below.refl _ _) n)) hl).mono fun _ _ ⟨h1, m, h2⟩ => ⟨h1, n + m, by rw [h2, World.drewN_drewN]⟩
end Go.Proofs.Ytdjapppfjpgidaa
