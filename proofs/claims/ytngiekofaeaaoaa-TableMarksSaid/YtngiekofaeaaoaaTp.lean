/- Walks: TableMarks. -/
import Derived.Test.YtngiekofaeaaoaaTo
import Derived.Test.YtngiekofaeaaoaaTm
namespace Go.Proofs.Ytngiekofaeaaoaa
open Go.RowKit

/-- A row reads as the numbers that came in. -/
theorem same_arg {w w' : World} {P : Nat → Prop} {v : Value} {a : Option Addr} {len : Nat} {zs : List Int} (cap : Nat) (hr : Arg w a len zs) (hc : len ≤ cap) (hb : Below w.heap.size w w') (h : Rd w' P v (ints zs)) (hl : zs.length ≤ 1000000) :
    Calls Try.prog 19 #[v, .slice a len cap] w' fun e w'' => e = .returned (.bool true) ∧ ∃ n, w'' = w'.drewN n := by
  have hr' := hr.below hb
  by_cases hp : 0 < len
  · obtain ⟨b, o, rfl, hbs, _⟩ := hr'.cell 0 hp
    have hR : Rd w' (fun _ => True) (.slice (some ⟨b, o, none⟩) len cap) (ints zs) := by
      refine .inr ⟨b, o, cap, by rw [ints_length, hr.hlen], by rw [ints_length, hr.hlen]; exact hc, trivial, hbs, fun j hj => ?_⟩
      rw [ints_length, hr.hlen] at hj
      obtain ⟨b', o', e1, _, e2⟩ := hr'.cell j hj
      cases e1
      rw [e2, ints_get _ _ (by rw [hr.hlen]; exact hj)]
    have := ints_any w' h hR hl
    simpa using this
  · have e0 : zs = [] := List.eq_nil_of_length_eq_zero (by have := hr.hlen; omega)
    have e1 : len = 0 := by omega
    subst e0 e1
    obtain ⟨g, d, rfl⟩ := h.shape
    exact ints_zero w' g a d cap

set_option maxRecDepth 100000 in
set_option maxHeartbeats 4000000 in
theorem marks_walk (a : Option Addr) (len cap : Nat) (zs : List Int) (a2 : Option Addr) (len2 cap2 : Nat) (K X : Nat → Int) (w : World) (hr : Arg w a len zs) (hlc : len ≤ cap) (hr2 : Pairs w a2 len2 K X) (hlen : len ≤ 200) (hlen2 : len2 ≤ 200) :
    Calls Try.prog 4 #[.slice a len cap, .slice a2 len2 cap2] w fun e w' => e = .returned (.bool true) ∧ Below w.heap.size w w' := by
  have HA := Lib.hid hr
  have HP := Lib.hid hr2
  have hd : decide ((200 : Int) < (len : Int)) = false := by simp; omega
  have hd2 : decide ((200 : Int) < (len2 : Int)) = false := by simp; omega
  clear hr hr2
  go_enter Try.func4, Try.ntmps4
  go_wp2_with fail
  refine (awake_any _).mono ?_
  rintro e w1 ⟨rfl, hb1⟩
  have T0 : Hid (HasB w (w1.alloc (.cells #[.slice none 0 0, .slice none 0 0] 27)) w1.heap.size [] []) := ⟨_, _, Stk.fresh w1 hb1.size, hb1.alloc hb1.size _⟩
  clear hb1
  go_wp2_with fail
  obtain ⟨sb, hsb⟩ : ∃ sb, sb = w1.heap.size := ⟨_, rfl⟩
  rw [← hsb] at T0 ⊢
  clear hsb
  go_loopw [7] (fun i wr => ∃ j : Nat, j ≤ len ∧ i = .int .i64 j ∧ HasB w wr sb [] (zs.take j)) (fun i _ => len - (intOf i).toNat)
  case atStart => exact ⟨0, by omega, rfl, T0.out⟩
  case round =>
    obtain ⟨j, hj, rfl, hrel⟩ := hrel
    have HB := Lib.hid hrel
    have hAw : Hid (Arg wr a len zs) := HA.out.below hrel.out
    clear hrel T0
    by_cases hlt : j < len
    · obtain ⟨b, o, rfl, _, hc⟩ := hAw.out.cell j hlt
      have hsn := Lib.hid (getD_snoc zs j (by rw [HA.out.hlen]; exact hlt))
      go_wp2_with fail
      refine (bpush w _ HB.out _ (by simp; omega)).mono ?_
      rintro e w2 ⟨rfl, T1⟩
      have HT1 := Lib.hid T1
      clear T1
      go_wp2_with fail
      go_roundw
      case rel => exact ⟨j + 1, by omega, by go_num, by rw [hsn.out]; exact HT1.out⟩
      case measure => simp [intOf]; omega
    · obtain rfl : j = len := by omega
      have HX : Hid (HasB w wr sb [] zs) := by
        have := HB.out
        rwa [List.take_of_length_le (by rw [HA.out.hlen]; omega)] at this
      have HZ := Lib.hid HA.out.hlen
      clear HB hAw
      go_wp2_with fail
      refine (bmark w _ HX.out (by simp)).mono ?_
      rintro e w2 ⟨rfl, T1⟩
      have HT1 := Lib.hid T1
      clear T1 HX
      go_wp2_with fail
      obtain ⟨wo, rfl⟩ : ∃ wo : World, wo = wr := ⟨_, rfl⟩
      go_loopw [8] (fun i wr => ∃ (k : Nat) (Ls : List (List Int)) (top : List Int), k ≤ len2 ∧ i = .int .i64 k ∧ HasB w wr sb (zs :: Ls) top ∧ Ls.length ≤ k ∧ (Ls.flatten ++ top).length ≤ k) (fun i _ => len2 - (intOf i).toNat)
      case atStart => exact ⟨0, [], [], by omega, rfl, HT1.out, by simp, by simp⟩
      case round =>
        obtain ⟨k, Ls, top, hk, rfl, hrel, hn1, hn2⟩ := hrel
        have HB := Lib.hid hrel
        have hAw : Hid (Pairs wr a2 len2 K X) := HP.out.below hrel.out
        have hz : (((zs :: Ls).flatten ++ top).length ≤ 1000000) := by
          have := HZ.out
          simp at hn2 ⊢
          omega
        have HN := Lib.hid (And.intro hn1 (And.intro hn2 hz))
        clear hrel HT1 hn1 hn2 hz
        by_cases hlt : k < len2
        · obtain ⟨b, o, rfl, _, hc1, hc2⟩ := hAw.out k hlt
          generalize K k = kk at *
          generalize X k = xx at *
          by_cases h0 : kk = 0
          · subst h0
            go_wp2_with fail
            refine (bpush w _ HB.out _ HN.out.2.2).mono ?_
            rintro e w3 ⟨rfl, T1⟩
            have HT1 := Lib.hid T1
            clear T1
            go_wp2_with fail
            go_roundw
            case rel => exact ⟨k + 1, Ls, top ++ [xx], by omega, by go_num, HT1.out, by have := HN.out.1; omega, by have := HN.out.2.1; simp at this ⊢; omega⟩
            case measure => simp [intOf]; omega
          have g0 : (kk == 0) = false := by simpa using h0
          by_cases h1 : kk = 1
          · subst h1
            go_wp2_with fail
            refine (bpop w _ HB.out HN.out.2.2 (by have := HN.out.1; simp; omega)).mono ?_
            rintro e w3 ⟨rfl, T1⟩
            have HT1 := Lib.hid T1
            clear T1
            go_wp2_with fail
            go_roundw
            case rel => exact ⟨k + 1, Ls, top.dropLast, by omega, by go_num, HT1.out, by have := HN.out.1; omega, by have := HN.out.2.1; simp at this ⊢; omega⟩
            case measure => simp [intOf]; omega
          have g1 : (kk == 1) = false := by simpa using h1
          by_cases h2 : kk = 2
          · subst h2
            go_wp2_with fail
            refine (bmark w _ HB.out (by have := HN.out.1; simp; omega)).mono ?_
            rintro e w3 ⟨rfl, T1⟩
            have HT1 := Lib.hid T1
            clear T1
            go_wp2_with fail
            go_roundw
            case rel => exact ⟨k + 1, Ls ++ [top], [], by omega, by go_num, HT1.out, by have := HN.out.1; simp; omega, by have := HN.out.2.1; simp at this ⊢; omega⟩
            case measure => simp [intOf]; omega
          have g2 : (kk == 2) = false := by simpa using h2
          go_wp2_with fail
          go_roundw
          case rel => exact ⟨k + 1, Ls, top, by omega, by go_num, HB.out, by have := HN.out.1; omega, by have := HN.out.2.1; omega⟩
          case measure => simp [intOf]; omega
        · obtain rfl : k = len2 := by omega
          clear hAw HP
          go_wp2_with fail
          obtain ⟨wo2, rfl⟩ : ∃ wo2 : World, wo2 = wr := ⟨_, rfl⟩
          go_loopw [9] (fun _ wr => ∃ (Ls : List (List Int)) (top : List Int), HasB w wr sb (zs :: Ls) top ∧ Ls.length ≤ 1000 ∧ ((zs :: Ls).flatten ++ top).length ≤ 1000000) (fun _ wr => marksAt wr sb)
          case atStart => exact ⟨Ls, top, HB.out, by have := HN.out.1; omega, HN.out.2.2⟩
          case round =>
            clear HB HN
            obtain ⟨Ls, top, hrel, hn1, hn2⟩ := hrel
            have HB := Lib.hid hrel
            have HN := Lib.hid hn2
            have HK := Lib.hid (marksAt_stk hrel)
            clear hrel hn2
            go_wp2_with fail
            refine (bmarks w _ HB.out).mono ?_
            rintro e w3 ⟨rfl, rfl⟩
            rcases List.eq_nil_or_concat Ls with rfl | ⟨Ms, L, rfl⟩
            · go_wp2_with fail
              refine (bback w _ (Ls := []) HB.out (by simpa using HN.out) (by simp)).mono ?_
              rintro e w3 ⟨rfl, T1⟩
              have HT1 := Lib.hid T1
              clear T1 HB
              go_wp2_with fail
              refine (bback0 w _ HT1.out).mono ?_
              rintro e w4 ⟨rfl, rfl⟩
              go_wp2_with fail
              refine (ball w _ HT1.out (by have := HN.out; simp at this ⊢; omega)).mono ?_
              rintro e w4 ⟨v, rfl, h1, h2⟩
              have K1 := Lib.hid (And.intro h1 h2)
              have K2 := Lib.hid (HT1.out.below0 h2)
              clear h1 h2
              go_wp2_with fail
              refine (same_arg cap HA.out hlc K2.out.out K1.out.1 (by have := HN.out; simp at this ⊢; omega)).mono ?_
              rintro e w5 ⟨rfl, nq, rfl⟩
              go_wp2_with fail
              refine (bmarks w _ (K2.out.below0 (below_drewN (Below.refl _ _) nq))).mono ?_
              rintro e w6 ⟨rfl, rfl⟩
              go_wp2_with fail
              go_ret
              exact ⟨rfl, below_drewN K2.out.out nq⟩
            · simp only [List.concat_eq_append] at *
              have hg : decide (1 < (((zs :: (Ms ++ [L])).length : Nat) : Int)) = true := by simp; omega
              have hl1 : (((zs :: (Ms ++ [L])).length : Nat) : Int) = Ms.length + 2 := by simp; omega
              rw [hl1] at hg ⊢
              go_wp2_with fail
              refine (bmarks w _ HB.out).mono ?_
              rintro e w3 ⟨rfl, rfl⟩
              rw [hl1]
              go_wp2_with fail
              refine (bback w _ (Ls := zs :: Ms) (L := L) HB.out (by have := HN.out; simpa using this) (by simp at hn1 ⊢; omega)).mono ?_
              rintro e w3 ⟨rfl, T1⟩
              have HT1 := Lib.hid T1
              have HK1 := Lib.hid (marksAt_stk T1)
              have hl2 : (((zs :: Ms).length : Nat) : Int) = Ms.length + 1 := by simp
              clear T1 HB
              go_wp2_with fail
              refine (bmarks w _ HT1.out).mono ?_
              rintro e w4 ⟨rfl, rfl⟩
              rw [hl2]
              have hq : ((Ms.length : Int) + 1 != (Ms.length : Int) + 2 - 1) = false := by simp; omega
              have hn3 : Ms.length ≤ 1000 := by simp at hn1; omega
              go_wp2_with fail
              go_roundw
              case rel => exact ⟨Ms, L, HT1.out, hn3, by have := HN.out; simp at this ⊢; omega⟩
              case measure => rw [HK.out, HK1.out]; simp

theorem marks_long (a : Option Addr) (len cap : Nat) (a2 : Option Addr) (len2 cap2 : Nat) (w : World) (hlen : 200 < len ∨ 200 < len2) :
    Calls Try.prog 4 #[.slice a len cap, .slice a2 len2 cap2] w fun e w' => e = .returned (.bool true) ∧ Below w.heap.size w w' := by
  by_cases h : 200 < len
  · have hd : decide ((200 : Int) < (len : Int)) = true := by simp; omega
    go_enter Try.func4, Try.ntmps4
    go_wp2_with fail
    refine (awake_any _).mono ?_
    rintro e w1 ⟨rfl, hb1⟩
    go_wp2_with fail
    go_ret
    exact ⟨rfl, hb1⟩
  · have hd : decide ((200 : Int) < (len : Int)) = false := by simp; omega
    have hd2 : decide ((200 : Int) < (len2 : Int)) = true := by simp; omega
    go_enter Try.func4, Try.ntmps4
    go_wp2_with fail
    refine (awake_any _).mono ?_
    rintro e w1 ⟨rfl, hb1⟩
    go_wp2_with fail
    go_ret
    exact ⟨rfl, hb1⟩

theorem marks_all (a : Option Addr) (len cap : Nat) (zs : List Int) (a2 : Option Addr) (len2 cap2 : Nat) (K X : Nat → Int) (w : World)
    (h : (a = none ∧ len = 0 ∧ cap = 0 ∧ zs = []) ∨ ∃ x, a = some x ∧ len ≤ cap ∧ cap ≤ maxLen ∧ zs.length = cap ∧ (∀ i, i < zs.length → w.cell? (x.add i) = some (.int .i64 (zs.getD i 0))) ∧ ∀ n ∈ zs, (Lit.int .i64 n).wf = true) (hP : Pairs w a2 len2 K X) :
    Calls Try.prog 4 #[.slice a len cap, .slice a2 len2 cap2] w fun e w' => e = .returned (.bool true) ∧ Below w.heap.size w w' := by
  by_cases hlen : len ≤ 200 ∧ len2 ≤ 200
  · refine marks_walk a len cap _ a2 len2 cap2 K X w (Arg.of h) ?_ hP hlen.1 hlen.2
    rcases h with ⟨_, rfl, rfl, _⟩ | ⟨x, _, h1, _⟩
    · exact Nat.le_refl _
    · exact h1
  · exact marks_long a len cap a2 len2 cap2 w (by omega)
end Go.Proofs.Ytngiekofaeaaoaa
