/- Walks: TableStacks. -/
import Derived.Test.YtngiekofaeaaoaaTq
import Derived.Deep.RegionHeld3
import Derived.StillTailTactics
namespace Go.Proofs.Ytngiekofaeaaoaa
open Go.RowKit

theorem back_len (Ls : List (List Int)) (top : List Int) : (Ls.dropLast.flatten ++ backTop Ls top).length ≤ (Ls.flatten ++ top).length := by
  rcases List.eq_nil_or_concat Ls with rfl | ⟨Ms, L, rfl⟩
  · simp [backTop]
  · simp only [List.concat_eq_append, List.dropLast_concat, backTop, List.getLast?_concat]
    simp

set_option maxRecDepth 100000 in
set_option maxHeartbeats 8000000 in
theorem stacks_walk (a : Option Addr) (len cap : Nat) (K X : Nat → Int) (w : World) (hr : Pairs w a len K X) (hlen : len ≤ 200) :
    Calls Try.prog 3 #[.slice a len cap] w fun e w' => e = .returned (.bool true) ∧ Below w.heap.size w w' := by
  have HP := Lib.hid hr
  have hd : decide ((200 : Int) < (len : Int)) = false := by simp; omega
  clear hr
  go_enter Try.func3, Try.ntmps3
  go_wp2_with fail
  refine (awake_any _).mono ?_
  rintro e w1 ⟨rfl, hb1⟩
  have T0 : Hid (HasB w (w1.alloc (.cells #[.slice none 0 0, .slice none 0 0] 27)) w1.heap.size [] []) := ⟨_, _, Stk.fresh w1 hb1.size, hb1.alloc hb1.size _⟩
  clear hb1
  go_wp2_with fail
  obtain ⟨sb, hsb⟩ : ∃ sb, sb = w1.heap.size := ⟨_, rfl⟩
  rw [← hsb] at T0 ⊢
  clear hsb
  refine (rnew_any _).mono ?_
  rintro e w2 ⟨u, rfl, h1, h2⟩
  obtain ⟨ua, uc, rfl⟩ := h1.shape
  have T1 := Lib.hid (xstart T0.out h2 h1)
  clear h1 h2 T0
  go_wp2_with fail
  obtain ⟨rb, hrb⟩ : ∃ rb, rb = w2.heap.size := ⟨_, rfl⟩
  rw [← hrb] at T1 ⊢
  clear hrb
  go_loopw [6] (fun i wr => ∃ (j : Nat) (Ls : List (List Int)) (top : List Int) (ua : Option Addr) (un uc : Nat), j ≤ len ∧ i = .int .i64 j ∧ Both w wr sb rb Ls top (Ls ++ [top]) (.slice ua un uc) ∧ un = Ls.length + 1 ∧ Ls.length ≤ j ∧ (Ls.flatten ++ top).length ≤ j) (fun i _ => len - (intOf i).toNat)
  case atStart => exact ⟨0, [], [], ua, 1, uc, by omega, rfl, T1.out, rfl, by simp, by simp⟩
  case round =>
    obtain ⟨j, Ls, top, va, vn, vc, hj, rfl, hrel, hun, hn1, hn2⟩ := hrel
    have HB := Lib.hid hrel
    have HPw : Hid (Pairs wr a len K X) := HP.out.below hrel.out
    have HN := Lib.hid (And.intro hn1 hn2)
    have HU := Lib.hid hun
    have b1 : Ls.length ≤ 200 := by omega
    have b2 : top.length ≤ 1000000 := by simp at hn2; omega
    have b3 : Ls.flatten.length + top.length ≤ 200 := by simp at hn2 ⊢; omega
    have HL := Lib.hid (And.intro b1 (And.intro b2 b3))
    clear hrel T1 hn1 hn2 hun b1 b2 b3
    by_cases hlt : j < len
    · obtain ⟨b, o, rfl, _, hc1, hc2⟩ := HPw.out j hlt
      have HP2 : Hid (∀ w3, Below w.heap.size w w3 → ∃ b' o', some (⟨b, o, none⟩ : Addr) = some ⟨b', o', none⟩ ∧ b' < w3.heap.size ∧ w3.cell? ⟨b', o' + j * 2, none⟩ = some (.int .i64 (K j)) ∧ w3.cell? ⟨b', o' + j * 2 + 1, none⟩ = some (.int .i64 (X j))) :=
        fun w3 hb3 => (HP.out.below hb3) j hlt
      generalize K j = kk at *
      generalize X j = xx at *
      by_cases h0 : kk = 0
      · subst h0
        go_wp2_with fail
        refine (xpush HB.out _ (by have := HN.out.2; omega)).mono ?_
        rintro e w3 ⟨rfl, T1⟩
        have HT1 := Lib.hid T1
        clear T1
        go_wp2_with fail
        have q1 := HT1.out.cell
        have q2 : w3.cell? ⟨b, o + j * 2 + 1, none⟩ = some (.int .i64 xx) := by
          obtain ⟨b', o', e1, _, _, e2⟩ := HP2.out w3 HT1.out.out
          cases e1
          exact e2
        clear hc1 hc2 HB HPw
        go_still_tail 6, (by kernel_rfl)
        change wpList _ _ _ _ _ w3.drew
        have HB3 := Lib.hid (HT1.out.next (below_drewN (Below.refl _ _) 1))
        clear q1 q2 HT1
        go_wp2_with fail
        refine (xrpush (Ms := Ls) (t := top) HB3.out xx (Nat.le_trans HL.out.1 (by decide)) HL.out.2.1).mono ?_
        rintro e w4 ⟨a4, n4, c4, rfl, T4⟩
        have HT4 := Lib.hid T4
        have HB4 := Lib.hid (HB3.out.next T4.2.1)
        have q1 := HB4.out.cell
        have q2 := HB4.out.frozen
        clear T4
        go_upto_region 28 with fail
        obtain ⟨wk, hwk⟩ : ∃ wk, wk = w4.setCell ⟨rb, 0, none⟩ (.slice a4 n4 c4) := ⟨_, rfl⟩
        have hfin : ∃ Ls2 top2 a2 n2 c2, Both w wk sb rb Ls2 top2 (Ls2 ++ [top2]) (.slice a2 n2 c2) ∧ n2 = Ls2.length + 1 ∧ Ls2.length ≤ j + 1 ∧ (Ls2.flatten ++ top2).length ≤ j + 1 := by
          rw [hwk]
          exact ⟨_, _, _, _, _, HT4.out.2.2 w4 (Below.refl _ _), by rw [HT4.out.1]; simp, by have := HN.out.1; omega, by have := HN.out.2; simp at this ⊢; omega⟩
        rw [← hwk]
        obtain ⟨Ls2, top2, a2, n2, c2, hfin, m1, m2, m3⟩ := hfin
        have HF := Lib.hid hfin
        clear hfin hwk q1 q2 HT4 HB4 HB3
        have HQ := Lib.hid (And.intro m1 (And.intro m2 m3))
        have q1 := HF.out.cell
        have q3 : IntKind.i64.wrap ((n2 : Int) - 1) = (Ls2.length : Int) := by
          rw [m1, IntWalk.i64_in _ (by omega)]
          omega
        have q4 : (n2 : Int) - 1 = (Ls2.length : Int) := by omega
        have q7 : wrap64 (Ls2.length : Int) = (Ls2.length : Int) := by rw [IntWalk.wrap64_in _ (by omega)]
        have q6 : ((Ls2.length : Int) != (Ls2.length : Int)) = false := by simp
        clear m1 m2 m3
        go_region_held3 (fun w' => Both w w' sb rb Ls2 top2 (Ls2 ++ [top2]) (.slice a2 n2 c2) ∧ w'.cell? ⟨rb, 0, none⟩ = some (.slice a2 n2 c2))
          (refine ⟨?_, ?_⟩ <;> first | exact Both.next HF.out (below_drewN (Below.refl _ _) 1) | exact HBx.out | exact HBx.out.cell | go_keep)
          ((first
            | (go_at_call 20; refine (xall (‹Both w _ sb rb Ls2 top2 (Ls2 ++ [top2]) (.slice a2 n2 c2) ∧ _›).1 (by have := HQ.out.2.2; omega)).mono ?_; rintro e w5 ⟨v5, rfl, r5, b5⟩; have HBx := Lib.hid ((‹Both w _ sb rb Ls2 top2 (Ls2 ++ [top2]) (.slice a2 n2 c2) ∧ _›).1.next b5))
            | (go_at_call 21; refine (xrall (‹Both w _ sb rb Ls2 top2 (Ls2 ++ [top2]) (.slice a2 n2 c2) ∧ _›).1 (by have := HQ.out.2.2; omega) (by have := HQ.out.2.1; omega)).mono ?_; rintro e w6 ⟨v6, rfl, r6, b6⟩; have HBx := Lib.hid ((‹Both w _ sb rb Ls2 top2 (Ls2 ++ [top2]) (.slice a2 n2 c2) ∧ _›).1.next b6))
            | (go_at_call 19; refine (ints_same (r5.below b6) r6 (by have := HQ.out.2.2; omega)).mono ?_; rintro e w7 ⟨rfl, b7⟩; have HBx := Lib.hid (HBx.out.next b7))
            | (go_at_call 19; refine (ints_same r5 (r6.below b5) (by have := HQ.out.2.2; omega)).mono ?_; rintro e w7 ⟨rfl, b7⟩; have HBx := Lib.hid (HBx.out.next b7))))
        all_goals
          have q5 := HBx.out.cell
          go_wp2_with fail
          go_quiet ((go_at_call 22; exact xmarks_q HBx.out _))
          go_wp2_with fail
          go_roundw
          case rel => exact ⟨j + 1, Ls2, top2, a2, n2, c2, by omega, by go_num, HBx.out.next (below_drewN (Below.refl _ _) _), HQ.out⟩
          case measure => simp [intOf]; omega
      have g0 : (kk == 0) = false := by simpa using h0
      by_cases h1 : kk = 1
      · subst h1
        go_wp2_with fail
        refine (xpop HB.out (by have := HN.out.2; omega) (Nat.le_trans HL.out.1 (by decide))).mono ?_
        rintro e w3 ⟨rfl, T1⟩
        have HT1 := Lib.hid T1
        clear T1
        have q1 := HT1.out.cell
        clear hc1 hc2 HB HPw
        go_wp2_with fail
        refine (xrpop (Ms := Ls) (t := top) HT1.out (Nat.le_trans HL.out.1 (by decide)) HL.out.2.1).mono ?_
        rintro e w4 ⟨a4, n4, c4, rfl, T4⟩
        have HT4 := Lib.hid T4
        have HB4 := Lib.hid (HT1.out.next T4.2.1)
        have q1 := HB4.out.cell
        have q2 := HB4.out.frozen
        have q3 := HB4.out.lt
        have q5 : w4.heap.size ≠ rb := by omega
        have q8 := World.frozen?_of_block (w := w4) (w' := w4.alloc (.cells #[.slice a4 n4 c4] 30)) (a := ⟨rb, 0, none⟩) (Below.heap_alloc _ _ _ q3)
        rw [q2] at q8
        clear T4 HT1
        generalize top.getLast?.getD 0 = pv at *
        generalize (!top.isEmpty) = pb at *
        go_upto_region 28 with fail
        obtain ⟨wk, hwk⟩ : ∃ wk, wk = (w4.setCell ⟨rb, 0, none⟩ (.slice a4 n4 c4)).alloc (.cells #[.slice a4 n4 c4] 30) := ⟨_, rfl⟩
        have hfin : ∃ Ls2 top2 a2 n2 c2, Both w wk sb rb Ls2 top2 (Ls2 ++ [top2]) (.slice a2 n2 c2) ∧ n2 = Ls2.length + 1 ∧ Ls2.length ≤ j + 1 ∧ (Ls2.flatten ++ top2).length ≤ j + 1 := by
          rw [hwk]
          exact ⟨_, _, _, _, _, (HT4.out.2.2 w4 (Below.refl _ _)).next ((Below.refl _ _).alloc (Nat.le_refl _) _), by rw [HT4.out.1]; simp, by have := HN.out.1; omega, by have := HN.out.2; simp at this ⊢; omega⟩
        rw [← hwk]
        obtain ⟨Ls2, top2, a2, n2, c2, hfin, m1, m2, m3⟩ := hfin
        have HF := Lib.hid hfin
        clear hfin hwk q1 q2 q3 q5 q8 HT4 HB4
        have HQ := Lib.hid (And.intro m1 (And.intro m2 m3))
        have q1 := HF.out.cell
        have q3 : IntKind.i64.wrap ((n2 : Int) - 1) = (Ls2.length : Int) := by
          rw [m1, IntWalk.i64_in _ (by omega)]
          omega
        have q4 : (n2 : Int) - 1 = (Ls2.length : Int) := by omega
        have q7 : wrap64 (Ls2.length : Int) = (Ls2.length : Int) := by rw [IntWalk.wrap64_in _ (by omega)]
        have q6 : ((Ls2.length : Int) != (Ls2.length : Int)) = false := by simp
        clear m1 m2 m3
        go_region_held3 (fun w' => Both w w' sb rb Ls2 top2 (Ls2 ++ [top2]) (.slice a2 n2 c2) ∧ w'.cell? ⟨rb, 0, none⟩ = some (.slice a2 n2 c2))
          (refine ⟨?_, ?_⟩ <;> first | exact Both.next HF.out (below_drewN (Below.refl _ _) 1) | exact HBx.out | exact HBx.out.cell | go_keep)
          ((first
            | (go_at_call 20; refine (xall (‹Both w _ sb rb Ls2 top2 (Ls2 ++ [top2]) (.slice a2 n2 c2) ∧ _›).1 (by have := HQ.out.2.2; omega)).mono ?_; rintro e w5 ⟨v5, rfl, r5, b5⟩; have HBx := Lib.hid ((‹Both w _ sb rb Ls2 top2 (Ls2 ++ [top2]) (.slice a2 n2 c2) ∧ _›).1.next b5))
            | (go_at_call 21; refine (xrall (‹Both w _ sb rb Ls2 top2 (Ls2 ++ [top2]) (.slice a2 n2 c2) ∧ _›).1 (by have := HQ.out.2.2; omega) (by have := HQ.out.2.1; omega)).mono ?_; rintro e w6 ⟨v6, rfl, r6, b6⟩; have HBx := Lib.hid ((‹Both w _ sb rb Ls2 top2 (Ls2 ++ [top2]) (.slice a2 n2 c2) ∧ _›).1.next b6))
            | (go_at_call 19; refine (ints_same (r5.below b6) r6 (by have := HQ.out.2.2; omega)).mono ?_; rintro e w7 ⟨rfl, b7⟩; have HBx := Lib.hid (HBx.out.next b7))
            | (go_at_call 19; refine (ints_same r5 (r6.below b5) (by have := HQ.out.2.2; omega)).mono ?_; rintro e w7 ⟨rfl, b7⟩; have HBx := Lib.hid (HBx.out.next b7))))
        all_goals
          have q5 := HBx.out.cell
          go_wp2_with fail
          go_quiet ((go_at_call 22; exact xmarks_q HBx.out _))
          go_wp2_with fail
          go_roundw
          case rel => exact ⟨j + 1, Ls2, top2, a2, n2, c2, by omega, by go_num, HBx.out.next (below_drewN (Below.refl _ _) _), HQ.out⟩
          case measure => simp [intOf]; omega
      have g1 : (kk == 1) = false := by simpa using h1
      by_cases h2 : kk = 2
      · subst h2
        go_wp2_with fail
        refine (xmark HB.out (Nat.le_trans HL.out.1 (by decide))).mono ?_
        rintro e w3 ⟨rfl, T1⟩
        have HT1 := Lib.hid T1
        clear T1
        have q1 := HT1.out.cell
        clear hc1 hc2 HB HPw
        go_wp2_with fail
        refine (xrmark HT1.out (by have := HL.out.1; simp; omega)).mono ?_
        rintro e w4 ⟨a4, n4, c4, rfl, T4⟩
        have HT4 := Lib.hid T4
        have HB4 := Lib.hid (HT1.out.next T4.2.1)
        have q1 := HB4.out.cell
        have q2 := HB4.out.frozen
        clear T4 HT1
        go_upto_region 28 with fail
        obtain ⟨wk, hwk⟩ : ∃ wk, wk = w4.setCell ⟨rb, 0, none⟩ (.slice a4 n4 c4) := ⟨_, rfl⟩
        have hfin : ∃ Ls2 top2 a2 n2 c2, Both w wk sb rb Ls2 top2 (Ls2 ++ [top2]) (.slice a2 n2 c2) ∧ n2 = Ls2.length + 1 ∧ Ls2.length ≤ j + 1 ∧ (Ls2.flatten ++ top2).length ≤ j + 1 := by
          rw [hwk]
          exact ⟨_, _, _, _, _, HT4.out.2.2 w4 (Below.refl _ _), by rw [HT4.out.1]; simp, by have := HN.out.1; simp; omega, by have := HN.out.2; simp at this ⊢; omega⟩
        rw [← hwk]
        obtain ⟨Ls2, top2, a2, n2, c2, hfin, m1, m2, m3⟩ := hfin
        have HF := Lib.hid hfin
        clear hfin hwk q1 q2 HT4 HB4
        have HQ := Lib.hid (And.intro m1 (And.intro m2 m3))
        have q1 := HF.out.cell
        have q3 : IntKind.i64.wrap ((n2 : Int) - 1) = (Ls2.length : Int) := by
          rw [m1, IntWalk.i64_in _ (by omega)]
          omega
        have q4 : (n2 : Int) - 1 = (Ls2.length : Int) := by omega
        have q7 : wrap64 (Ls2.length : Int) = (Ls2.length : Int) := by rw [IntWalk.wrap64_in _ (by omega)]
        have q6 : ((Ls2.length : Int) != (Ls2.length : Int)) = false := by simp
        clear m1 m2 m3
        go_region_held3 (fun w' => Both w w' sb rb Ls2 top2 (Ls2 ++ [top2]) (.slice a2 n2 c2) ∧ w'.cell? ⟨rb, 0, none⟩ = some (.slice a2 n2 c2))
          (refine ⟨?_, ?_⟩ <;> first | exact Both.next HF.out (below_drewN (Below.refl _ _) 1) | exact HBx.out | exact HBx.out.cell | go_keep)
          ((first
            | (go_at_call 20; refine (xall (‹Both w _ sb rb Ls2 top2 (Ls2 ++ [top2]) (.slice a2 n2 c2) ∧ _›).1 (by have := HQ.out.2.2; omega)).mono ?_; rintro e w5 ⟨v5, rfl, r5, b5⟩; have HBx := Lib.hid ((‹Both w _ sb rb Ls2 top2 (Ls2 ++ [top2]) (.slice a2 n2 c2) ∧ _›).1.next b5))
            | (go_at_call 21; refine (xrall (‹Both w _ sb rb Ls2 top2 (Ls2 ++ [top2]) (.slice a2 n2 c2) ∧ _›).1 (by have := HQ.out.2.2; omega) (by have := HQ.out.2.1; omega)).mono ?_; rintro e w6 ⟨v6, rfl, r6, b6⟩; have HBx := Lib.hid ((‹Both w _ sb rb Ls2 top2 (Ls2 ++ [top2]) (.slice a2 n2 c2) ∧ _›).1.next b6))
            | (go_at_call 19; refine (ints_same (r5.below b6) r6 (by have := HQ.out.2.2; omega)).mono ?_; rintro e w7 ⟨rfl, b7⟩; have HBx := Lib.hid (HBx.out.next b7))
            | (go_at_call 19; refine (ints_same r5 (r6.below b5) (by have := HQ.out.2.2; omega)).mono ?_; rintro e w7 ⟨rfl, b7⟩; have HBx := Lib.hid (HBx.out.next b7))))
        all_goals
          have q5 := HBx.out.cell
          go_wp2_with fail
          go_quiet ((go_at_call 22; exact xmarks_q HBx.out _))
          go_wp2_with fail
          go_roundw
          case rel => exact ⟨j + 1, Ls2, top2, a2, n2, c2, by omega, by go_num, HBx.out.next (below_drewN (Below.refl _ _) _), HQ.out⟩
          case measure => simp [intOf]; omega
      have g2 : (kk == 2) = false := by simpa using h2
      by_cases h3 : kk = 3
      · subst h3
        go_wp2_with fail
        refine (xback HB.out (by have := HN.out.2; omega) (Nat.le_trans HL.out.1 (by decide))).mono ?_
        rintro e w3 ⟨rfl, T1⟩
        have HT1 := Lib.hid T1
        clear T1
        have q1 := HT1.out.cell
        clear hc1 hc2 HB HPw
        go_wp2_with fail
        refine (xrback (Ms := Ls) (t := top) HT1.out (Nat.le_trans HL.out.1 (by decide))).mono ?_
        rintro e w4 ⟨a4, n4, c4, rfl, T4⟩
        have HT4 := Lib.hid T4
        have HB4 := Lib.hid (HT1.out.next T4.2.1)
        have q1 := HB4.out.cell
        have q2 := HB4.out.frozen
        have q3 := HB4.out.lt
        have q5 : w4.heap.size ≠ rb := by omega
        have q8 := World.frozen?_of_block (w := w4) (w' := w4.alloc (.cells #[.slice a4 n4 c4] 30)) (a := ⟨rb, 0, none⟩) (Below.heap_alloc _ _ _ q3)
        rw [q2] at q8
        clear T4 HT1
        generalize (!Ls.isEmpty) = pb at *
        go_upto_region 28 with fail
        obtain ⟨wk, hwk⟩ : ∃ wk, wk = (w4.setCell ⟨rb, 0, none⟩ (.slice a4 n4 c4)).alloc (.cells #[.slice a4 n4 c4] 30) := ⟨_, rfl⟩
        have hfin : ∃ Ls2 top2 a2 n2 c2, Both w wk sb rb Ls2 top2 (Ls2 ++ [top2]) (.slice a2 n2 c2) ∧ n2 = Ls2.length + 1 ∧ Ls2.length ≤ j + 1 ∧ (Ls2.flatten ++ top2).length ≤ j + 1 := by
          rw [hwk]
          exact ⟨_, _, _, _, _, (HT4.out.2.2 w4 (Below.refl _ _)).next ((Below.refl _ _).alloc (Nat.le_refl _) _), by rw [HT4.out.1]; simp, by have := HN.out.1; simp; omega, by have := HN.out.2; have h5 := back_len Ls top; omega⟩
        rw [← hwk]
        obtain ⟨Ls2, top2, a2, n2, c2, hfin, m1, m2, m3⟩ := hfin
        have HF := Lib.hid hfin
        clear hfin hwk q1 q2 q3 q5 q8 HT4 HB4
        have HQ := Lib.hid (And.intro m1 (And.intro m2 m3))
        have q1 := HF.out.cell
        have q3 : IntKind.i64.wrap ((n2 : Int) - 1) = (Ls2.length : Int) := by
          rw [m1, IntWalk.i64_in _ (by omega)]
          omega
        have q4 : (n2 : Int) - 1 = (Ls2.length : Int) := by omega
        have q7 : wrap64 (Ls2.length : Int) = (Ls2.length : Int) := by rw [IntWalk.wrap64_in _ (by omega)]
        have q6 : ((Ls2.length : Int) != (Ls2.length : Int)) = false := by simp
        clear m1 m2 m3
        go_region_held3 (fun w' => Both w w' sb rb Ls2 top2 (Ls2 ++ [top2]) (.slice a2 n2 c2) ∧ w'.cell? ⟨rb, 0, none⟩ = some (.slice a2 n2 c2))
          (refine ⟨?_, ?_⟩ <;> first | exact Both.next HF.out (below_drewN (Below.refl _ _) 1) | exact HBx.out | exact HBx.out.cell | go_keep)
          ((first
            | (go_at_call 20; refine (xall (‹Both w _ sb rb Ls2 top2 (Ls2 ++ [top2]) (.slice a2 n2 c2) ∧ _›).1 (by have := HQ.out.2.2; omega)).mono ?_; rintro e w5 ⟨v5, rfl, r5, b5⟩; have HBx := Lib.hid ((‹Both w _ sb rb Ls2 top2 (Ls2 ++ [top2]) (.slice a2 n2 c2) ∧ _›).1.next b5))
            | (go_at_call 21; refine (xrall (‹Both w _ sb rb Ls2 top2 (Ls2 ++ [top2]) (.slice a2 n2 c2) ∧ _›).1 (by have := HQ.out.2.2; omega) (by have := HQ.out.2.1; omega)).mono ?_; rintro e w6 ⟨v6, rfl, r6, b6⟩; have HBx := Lib.hid ((‹Both w _ sb rb Ls2 top2 (Ls2 ++ [top2]) (.slice a2 n2 c2) ∧ _›).1.next b6))
            | (go_at_call 19; refine (ints_same (r5.below b6) r6 (by have := HQ.out.2.2; omega)).mono ?_; rintro e w7 ⟨rfl, b7⟩; have HBx := Lib.hid (HBx.out.next b7))
            | (go_at_call 19; refine (ints_same r5 (r6.below b5) (by have := HQ.out.2.2; omega)).mono ?_; rintro e w7 ⟨rfl, b7⟩; have HBx := Lib.hid (HBx.out.next b7))))
        all_goals
          have q5 := HBx.out.cell
          go_wp2_with fail
          go_quiet ((go_at_call 22; exact xmarks_q HBx.out _))
          go_wp2_with fail
          go_roundw
          case rel => exact ⟨j + 1, Ls2, top2, a2, n2, c2, by omega, by go_num, HBx.out.next (below_drewN (Below.refl _ _) _), HQ.out⟩
          case measure => simp [intOf]; omega
      have g3 : (kk == 3) = false := by simpa using h3
      have h9 : True := trivial
      · clear h9
        go_upto_region 28 with fail
        obtain ⟨wk, hwk⟩ : ∃ wk, wk = wr := ⟨_, rfl⟩
        have hfin : ∃ Ls2 top2 a2 n2 c2, Both w wk sb rb Ls2 top2 (Ls2 ++ [top2]) (.slice a2 n2 c2) ∧ n2 = Ls2.length + 1 ∧ Ls2.length ≤ j + 1 ∧ (Ls2.flatten ++ top2).length ≤ j + 1 := by
          rw [hwk]
          exact ⟨_, _, _, _, _, HB.out, HU.out, by have := HN.out.1; omega, by have := HN.out.2; omega⟩
        rw [← hwk]
        obtain ⟨Ls2, top2, a2, n2, c2, hfin, m1, m2, m3⟩ := hfin
        have HF := Lib.hid hfin
        clear hfin hwk HB HPw hc1 hc2
        have HQ := Lib.hid (And.intro m1 (And.intro m2 m3))
        have q1 := HF.out.cell
        have q3 : IntKind.i64.wrap ((n2 : Int) - 1) = (Ls2.length : Int) := by
          rw [m1, IntWalk.i64_in _ (by omega)]
          omega
        have q4 : (n2 : Int) - 1 = (Ls2.length : Int) := by omega
        have q7 : wrap64 (Ls2.length : Int) = (Ls2.length : Int) := by rw [IntWalk.wrap64_in _ (by omega)]
        have q6 : ((Ls2.length : Int) != (Ls2.length : Int)) = false := by simp
        clear m1 m2 m3
        go_region_held3 (fun w' => Both w w' sb rb Ls2 top2 (Ls2 ++ [top2]) (.slice a2 n2 c2) ∧ w'.cell? ⟨rb, 0, none⟩ = some (.slice a2 n2 c2))
          (refine ⟨?_, ?_⟩ <;> first | exact Both.next HF.out (below_drewN (Below.refl _ _) 1) | exact HBx.out | exact HBx.out.cell | go_keep)
          ((first
            | (go_at_call 20; refine (xall (‹Both w _ sb rb Ls2 top2 (Ls2 ++ [top2]) (.slice a2 n2 c2) ∧ _›).1 (by have := HQ.out.2.2; omega)).mono ?_; rintro e w5 ⟨v5, rfl, r5, b5⟩; have HBx := Lib.hid ((‹Both w _ sb rb Ls2 top2 (Ls2 ++ [top2]) (.slice a2 n2 c2) ∧ _›).1.next b5))
            | (go_at_call 21; refine (xrall (‹Both w _ sb rb Ls2 top2 (Ls2 ++ [top2]) (.slice a2 n2 c2) ∧ _›).1 (by have := HQ.out.2.2; omega) (by have := HQ.out.2.1; omega)).mono ?_; rintro e w6 ⟨v6, rfl, r6, b6⟩; have HBx := Lib.hid ((‹Both w _ sb rb Ls2 top2 (Ls2 ++ [top2]) (.slice a2 n2 c2) ∧ _›).1.next b6))
            | (go_at_call 19; refine (ints_same (r5.below b6) r6 (by have := HQ.out.2.2; omega)).mono ?_; rintro e w7 ⟨rfl, b7⟩; have HBx := Lib.hid (HBx.out.next b7))
            | (go_at_call 19; refine (ints_same r5 (r6.below b5) (by have := HQ.out.2.2; omega)).mono ?_; rintro e w7 ⟨rfl, b7⟩; have HBx := Lib.hid (HBx.out.next b7))))
        all_goals
          have q5 := HBx.out.cell
          go_wp2_with fail
          go_quiet ((go_at_call 22; exact xmarks_q HBx.out _))
          go_wp2_with fail
          go_roundw
          case rel => exact ⟨j + 1, Ls2, top2, a2, n2, c2, by omega, by go_num, HBx.out.next (below_drewN (Below.refl _ _) _), HQ.out⟩
          case measure => simp [intOf]; omega
    · obtain rfl : j = len := by omega
      go_wp2_with fail
      go_ret
      exact ⟨rfl, HB.out.out⟩

theorem stacks_long (a : Option Addr) (len cap : Nat) (w : World) (hlen : 200 < len) :
    Calls Try.prog 3 #[.slice a len cap] w fun e w' => e = .returned (.bool true) ∧ Below w.heap.size w w' := by
  have hd : decide ((200 : Int) < (len : Int)) = true := by simp; omega
  go_enter Try.func3, Try.ntmps3
  go_wp2_with fail
  refine (awake_any _).mono ?_
  rintro e w1 ⟨rfl, hb1⟩
  go_wp2_with fail
  go_ret
  exact ⟨rfl, hb1⟩

theorem stacks_all (a : Option Addr) (len cap : Nat) (K X : Nat → Int) (w : World) (hr : Pairs w a len K X) :
    Calls Try.prog 3 #[.slice a len cap] w fun e w' => e = .returned (.bool true) ∧ Below w.heap.size w w' := by
  by_cases hlen : len ≤ 200
  · exact stacks_walk a len cap K X w hr hlen
  · exact stacks_long a len cap w (by omega)
end Go.Proofs.Ytngiekofaeaaoaa
