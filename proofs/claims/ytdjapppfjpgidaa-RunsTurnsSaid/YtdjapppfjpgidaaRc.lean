/- Walks over package runs: Texts, slices.Equal. -/
import Derived.Test.YtdjapppfjpgidaaRb
namespace Go.Proofs.Ytdjapppfjpgidaa
open Go.RowKit

/-- Are lists alike up to place k? -/
def like (xs ys : List Run) (k : Nat) : Prop := xs.take k = ys.take k
theorem like_zero (xs ys : List Run) : like xs ys 0 := rfl
theorem like_all {xs ys : List Run} {n : Nat} (h1 : xs.length = n) (h2 : ys.length = n) (h : like xs ys n) : decide (xs = ys) = true := by
  simp only [like] at h
  rw [List.take_of_length_le (by omega), List.take_of_length_le (by omega)] at h
  simpa using h
theorem like_step {xs ys : List Run} {k : Nat} (h1 : k < xs.length) (h2 : k < ys.length) (h : like xs ys k) (he : xs.getD k (0, 0) = ys.getD k (0, 0)) : like xs ys (k + 1) := by
  simp only [like] at h ⊢
  rw [getD_snoc xs k h1, getD_snoc ys k h2, h, he]
theorem like_stop {xs ys : List Run} {k : Nat} (he : xs.getD k (0, 0) ≠ ys.getD k (0, 0)) : decide (xs = ys) = false := by
  simp only [decide_eq_false_iff_not]
  rintro rfl
  exact he rfl

theorem texts_far (w : World) (a b : Option Addr) (n m c d : Nat) (h : n ≠ m) : Calls Try.prog 12 #[.slice a n c, .slice b m d] w fun e w' => e = .returned (.bool false) ∧ Below w.heap.size w w' := by
  have hd : ((n : Int) != (m : Int)) = true := by rw [bne_iff_ne]; omega
  go_enter Try.func12, Try.ntmps12
  go_wp2
  go_ret
  exact ⟨rfl, Below.refl _ _⟩

set_option maxHeartbeats 1000000 in
theorem texts_near {w : World} {P Q : Nat → Prop} {a b : Option Addr} {n c d : Nat} {xs ys : List Run} (h : Rr w P (.slice a n c) xs) (k : Rr w Q (.slice b n d) ys) (hl : n ≤ 1000000000000) :
    Calls Try.prog 12 #[.slice a n c, .slice b n d] w fun e w' => e = .returned (.bool (decide (xs = ys))) ∧ Below w.heap.size w w' := by
  have HX := Lib.hid h
  have HY := Lib.hid k
  have H1 := Lib.hid h.len.1
  have H2 := Lib.hid k.len.1
  have H0 := Lib.hid (like_zero xs ys)
  have hd : ((n : Int) != (n : Int)) = false := by simp
  clear h k
  go_enter Try.func12, Try.ntmps12
  go_wp2_with fail
  go_loopw [5] (fun i wr => ∃ k : Nat, k ≤ n ∧ i = .int .i64 k ∧ like xs ys k ∧ ∃ q, wr = w.drewN q) (fun i _ => n - (intOf i).toNat)
  case atStart => exact ⟨0, by omega, rfl, H0.out, 0, rfl⟩
  case round =>
    obtain ⟨k, hk, rfl, hlk, q, rfl⟩ := hrel
    have HL := Lib.hid hlk
    clear hlk
    by_cases hlt : k < n
    · obtain ⟨g1, o1, rfl, _, _, p0, p1⟩ := HX.out.at (i := k) (by rw [← H1.out]; exact hlt)
      obtain ⟨g2, o2, rfl, _, _, r0, r1⟩ := HY.out.at (i := k) (by rw [← H2.out]; exact hlt)
      have hstep := Lib.hid (like_step (xs := xs) (ys := ys) (k := k) (by rw [← H1.out]; exact hlt) (by rw [← H2.out]; exact hlt) HL.out)
      have hstop := Lib.hid (like_stop (xs := xs) (ys := ys) (k := k))
      generalize xs.getD k (0, 0) = x at *
      generalize ys.getD k (0, 0) = y at *
      obtain ⟨x1, x2⟩ := x
      obtain ⟨y1, y2⟩ := y
      simp only at *
      by_cases he : x1 = y1
      · subst he
        by_cases he2 : x2 = y2
        · subst he2
          have hs := Lib.hid (hstep.out rfl)
          clear hstep hstop
          go_wp2_with fail
          go_quiet (fail)
          go_wp2_with fail
          go_roundw
          case rel => exact ⟨k + 1, by omega, by go_num, hs.out, _, rfl⟩
          case measure => simp [intOf]; omega
        · have hs := Lib.hid (hstop.out (by simpa using he2))
          have hb : (x2 == y2) = false := by simpa using he2
          clear hstep hstop
          go_wp2_with fail
          go_quiet (fail)
          go_wp2_with fail
          go_ret
          exact ⟨by rw [hs.out]; rfl, below_drewN (below_drewN (Below.refl _ _) _) _⟩
      · have hs := Lib.hid (hstop.out (by simp [he]))
        have hb : (x1 == y1) = false := by simpa using he
        clear hstep hstop
        go_wp2_with fail
        go_quiet (fail)
        go_wp2_with fail
        go_ret
        exact ⟨by rw [hs.out]; rfl, below_drewN (below_drewN (Below.refl _ _) _) _⟩
    · obtain rfl : k = n := by omega
      have hs := Lib.hid (like_all H1.out.symm H2.out.symm HL.out)
      go_wp2_with fail
      go_ret
      exact ⟨by rw [hs.out]; rfl, below_drewN (Below.refl _ _) _⟩

theorem texts_any {w : World} {P Q : Nat → Prop} {v u : Value} {xs ys : List Run} (h : Rr w P v xs) (k : Rr w Q u ys) (hl : xs.length ≤ 1000000000000) :
    Calls Try.prog 12 #[v, u] w fun e w' => e = .returned (.bool (decide (xs = ys))) ∧ Below w.heap.size w w' := by
  obtain ⟨a, c, rfl, _⟩ := h.shape
  obtain ⟨b, d, rfl, _⟩ := k.shape
  by_cases hn : xs.length = ys.length
  · rw [← hn] at k ⊢
    exact texts_near h k hl
  · have : decide (xs = ys) = false := by
      simp only [decide_eq_false_iff_not]
      rintro rfl
      exact hn rfl
    rw [this]
    exact texts_far w a b _ _ c d hn

theorem equal_far (w : World) (a b : Option Addr) (n m c d : Nat) (h : n ≠ m) : Calls Try.prog 39 #[.slice a n c, .slice b m d] w fun e w' => e = .returned (.bool false) ∧ Below w.heap.size w w' := by
  have hd : ((n : Int) != (m : Int)) = true := by rw [bne_iff_ne]; omega
  go_enter Try.func39, Try.ntmps39
  go_wp2
  go_ret
  exact ⟨rfl, Below.refl _ _⟩

set_option maxHeartbeats 1000000 in
theorem equal_near {w : World} {P Q : Nat → Prop} {a b : Option Addr} {n c d : Nat} {xs ys : List Run} (h : Rr w P (.slice a n c) xs) (k : Rr w Q (.slice b n d) ys) (hl : n ≤ 1000000000000) :
    Calls Try.prog 39 #[.slice a n c, .slice b n d] w fun e w' => e = .returned (.bool (decide (xs = ys))) ∧ Below w.heap.size w w' := by
  have HX := Lib.hid h
  have HY := Lib.hid k
  have H1 := Lib.hid h.len.1
  have H2 := Lib.hid k.len.1
  have H0 := Lib.hid (like_zero xs ys)
  have hd : ((n : Int) != (n : Int)) = false := by simp
  clear h k
  go_enter Try.func39, Try.ntmps39
  go_wp2_with fail
  go_loopw [13] (fun i wr => ∃ k : Nat, k ≤ n ∧ i = .int .i64 k ∧ like xs ys k ∧ ∃ q, wr = w.drewN q) (fun i _ => n - (intOf i).toNat)
  case atStart => exact ⟨0, by omega, rfl, H0.out, 0, rfl⟩
  case round =>
    obtain ⟨k, hk, rfl, hlk, q, rfl⟩ := hrel
    have HL := Lib.hid hlk
    clear hlk
    by_cases hlt : k < n
    · obtain ⟨g1, o1, rfl, _, _, p0, p1⟩ := HX.out.at (i := k) (by rw [← H1.out]; exact hlt)
      obtain ⟨g2, o2, rfl, _, _, r0, r1⟩ := HY.out.at (i := k) (by rw [← H2.out]; exact hlt)
      have hstep := Lib.hid (like_step (xs := xs) (ys := ys) (k := k) (by rw [← H1.out]; exact hlt) (by rw [← H2.out]; exact hlt) HL.out)
      have hstop := Lib.hid (like_stop (xs := xs) (ys := ys) (k := k))
      generalize xs.getD k (0, 0) = x at *
      generalize ys.getD k (0, 0) = y at *
      obtain ⟨x1, x2⟩ := x
      obtain ⟨y1, y2⟩ := y
      simp only at *
      by_cases he : x1 = y1
      · subst he
        by_cases he2 : x2 = y2
        · subst he2
          have hs := Lib.hid (hstep.out rfl)
          clear hstep hstop
          go_wp2_with fail
          go_quiet (fail)
          go_wp2_with fail
          go_roundw
          case rel => exact ⟨k + 1, by omega, by go_num, hs.out, _, rfl⟩
          case measure => simp [intOf]; omega
        · have hs := Lib.hid (hstop.out (by simpa using he2))
          have hb : (x2 == y2) = false := by simpa using he2
          clear hstep hstop
          go_wp2_with fail
          go_quiet (fail)
          go_wp2_with fail
          go_ret
          exact ⟨by rw [hs.out]; rfl, below_drewN (below_drewN (Below.refl _ _) _) _⟩
      · have hs := Lib.hid (hstop.out (by simp [he]))
        have hb : (x1 == y1) = false := by simpa using he
        clear hstep hstop
        go_wp2_with fail
        go_quiet (fail)
        go_wp2_with fail
        go_ret
        exact ⟨by rw [hs.out]; rfl, below_drewN (below_drewN (Below.refl _ _) _) _⟩
    · obtain rfl : k = n := by omega
      have hs := Lib.hid (like_all H1.out.symm H2.out.symm HL.out)
      go_wp2_with fail
      go_ret
      exact ⟨by rw [hs.out]; rfl, below_drewN (Below.refl _ _) _⟩

theorem equal_any {w : World} {P Q : Nat → Prop} {v u : Value} {xs ys : List Run} (h : Rr w P v xs) (k : Rr w Q u ys) (hl : xs.length ≤ 1000000000000) :
    Calls Try.prog 39 #[v, u] w fun e w' => e = .returned (.bool (decide (xs = ys))) ∧ Below w.heap.size w w' := by
  obtain ⟨a, c, rfl, _⟩ := h.shape
  obtain ⟨b, d, rfl, _⟩ := k.shape
  by_cases hn : xs.length = ys.length
  · rw [← hn] at k ⊢
    exact equal_near h k hl
  · have : decide (xs = ys) = false := by
      simp only [decide_eq_false_iff_not]
      rintro rfl
      exact hn rfl
    rw [this]
    exact equal_far w a b _ _ c d hn

theorem same_any {w : World} {P Q : Nat → Prop} {v u : Value} {xs ys : List Run} (h : Rr w P v xs) (k : Rr w Q u ys) :
    Calls Try.prog 21 #[v, u] w fun e w' => e = .returned (.bool (may xs && decide (xs = ys))) ∧ Below w.heap.size w w' := by
  have HM := Lib.hid (may_any h)
  have HX := Lib.hid h
  have HY := Lib.hid k
  obtain ⟨a, c, rfl, _⟩ := h.shape
  obtain ⟨b, d, rfl, _⟩ := k.shape
  clear h k
  cases hm : may xs with
  | true =>
    have hl : xs.length ≤ 1000000000000 := by
      have : May xs := by simpa [may] using hm
      have := this.1
      omega
    have HS := Lib.hid fun (w1 : World) (hb : Below w.heap.size w w1) => equal_any (HX.out.below hb) (HY.out.below hb) hl
    rw [hm] at HM
    clear hm
    generalize decide (xs = ys) = r at *
    go_enter Try.func21, Try.ntmps21
    go_wp2_with fail
    refine HM.out.mono ?_
    rintro e w1 ⟨rfl, hb⟩
    have HB := Lib.hid hb
    clear hb
    go_wp2_with fail
    refine (HS.out _ HB.out).mono ?_
    rintro e w2 ⟨rfl, hb2⟩
    go_wp2_with fail
    go_ret
    exact ⟨rfl, HB.out.trans (hb2.mono HB.out.size)⟩
  | false =>
    rw [hm] at HM
    clear hm
    go_enter Try.func21, Try.ntmps21
    go_wp2_with fail
    refine HM.out.mono ?_
    rintro e w1 ⟨rfl, hb⟩
    go_wp2_with fail
    go_ret
    exact ⟨rfl, hb⟩

/-- few. -/
theorem few_any (w : World) (a : Option Addr) (n c : Nat) (hl : n ≤ 65536) : Calls Try.prog 40 #[.slice a n c] w fun e w' => e = .returned (.tuple #[.slice a n c, .int .i64 0]) ∧ w = w' := by
  have hd : decide ((65536 : Int) < (n : Int)) = false := by simp; omega
  go_enter Try.func40, Try.ntmps40
  go_wp2_with fail
  go_ret2
  exact ⟨rfl, rfl⟩
theorem few_far (w : World) (a : Option Addr) (n c : Nat) (hl : 65536 < n) : Calls Try.prog 40 #[.slice a n c] w fun e w' => e = .returned (.tuple #[.slice none 0 0, .int .i64 2]) ∧ w = w' := by
  have hd : decide ((65536 : Int) < (n : Int)) = true := by simp; omega
  go_enter Try.func40, Try.ntmps40
  go_wp2_with fail
  go_ret2
  exact ⟨rfl, rfl⟩
end Go.Proofs.Ytdjapppfjpgidaa
