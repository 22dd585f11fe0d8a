/- Concat and Replace once more: their answer is the caller's own, and may be written. -/
import Derived.Test.YtdjapppfjpgidaaIj
namespace Go.Proofs.Ytdjapppfjpgidaa
open Go.RowKit

/-- Runs and an error's number are answered, the runs in new memory that may be written. -/
def NewRO (w : World) (r : List Run × Int) (e : Ending) (w' : World) : Prop := ∃ a c, e = .returned (.tuple #[.slice a r.1.length c, .int .i64 r.2]) ∧ Own2 w' w.heap.size (.slice a r.1.length c) r.1 ∧ Below w.heap.size w w'
theorem newRO_nil {w w' : World} (z : Int) (hb : Below w.heap.size w w') : NewRO w ([], z) (.returned (.tuple #[.slice none 0 0, .int .i64 z])) w' := ⟨none, 0, rfl, Own2.nil _ _, hb⟩
theorem fewO_any {w w1 : World} {a : Option Addr} {c : Nat} {rs : List Run} (h : Own2 w1 w.heap.size (.slice a rs.length c) rs) (hb : Below w.heap.size w w1) :
    Calls Try.prog 40 #[.slice a rs.length c] w1 (NewRO w (fewR rs)) := by
  by_cases hl : rs.length ≤ 65536
  · rw [fewR, if_pos hl]
    refine (few_any w1 a _ c hl).mono ?_
    rintro e w' ⟨rfl, rfl⟩
    exact ⟨a, c, rfl, h, hb⟩
  · rw [fewR, if_neg hl]
    refine (few_far w1 a _ c (by omega)).mono ?_
    rintro e w' ⟨rfl, rfl⟩
    exact newRO_nil 2 hb

set_option maxHeartbeats 2000000 in
theorem concat_own {w : World} {P Q : Nat → Prop} {va vb : Value} {xs ys : List Run} (ha : Rr w P va xs) (hb : Rr w Q vb ys) :
    Calls Try.prog 23 #[va, vb] w (NewRO w (concatR xs ys)) := by
  have HA := Lib.hid ha
  have HB := Lib.hid hb
  obtain ⟨aa, ca, rfl, _⟩ := ha.shape
  obtain ⟨ab, cb, rfl, _⟩ := hb.shape
  have M1 := Lib.hid (may_any ha)
  have M2 := Lib.hid fun (w1 : World) (h : Below w.heap.size w w1) => may_any (HB.out.below h)
  clear ha hb
  cases h1 : may xs with
  | false =>
    have hc : concatR xs ys = ([], 1) := by simp [concatR, h1]
    rw [hc]
    rw [h1] at M1
    clear hc h1
    go_enter Try.func23, Try.ntmps23
    go_wp2_with fail
    refine M1.out.mono ?_
    rintro e w1 ⟨rfl, hb1⟩
    go_wp2_with fail
    go_ret2
    exact newRO_nil 1 hb1
  | true =>
    cases h2 : may ys with
    | false =>
      have hc : concatR xs ys = ([], 1) := by simp [concatR, h2]
      rw [hc]
      rw [h1] at M1
      simp only [h2] at M2
      clear hc h1 h2
      go_enter Try.func23, Try.ntmps23
      go_wp2_with fail
      refine M1.out.mono ?_
      rintro e w1 ⟨rfl, hb1⟩
      have B1 := Lib.hid hb1
      clear hb1
      go_wp2_with fail
      refine (M2.out _ B1.out).mono ?_
      rintro e w2 ⟨rfl, hb2⟩
      have B2 := Lib.hid (B1.out.trans (hb2.mono B1.out.size))
      clear hb2
      go_wp2_with fail
      go_ret2
      exact newRO_nil 1 B2.out
    | true =>
      have S1 := Lib.hid fun (w1 : World) (h : Below w.heap.size w w1) => size_any (HA.out.below h) h1
      have S2 := Lib.hid fun (w1 : World) (h : Below w.heap.size w w1) => size_any (HB.out.below h) h2
      have J := Lib.hid fun (w1 : World) (h : Below w.heap.size w w1) => joined_any (HA.out.below h) (HB.out.below h) (by have := (may_iff.1 h1).1; omega) (by have := (may_iff.1 h2).1; omega) (may_iff.1 h1).each (may_iff.1 h2).each
      have z1 := (may_iff.1 h1).size
      have z2 := (may_iff.1 h2).size
      have hc : Hid (concatR xs ys = if 1099511627776 < sz xs + sz ys then ([], 2) else fewR (join xs ys)) := by show _ = _; rw [concatR, if_pos ⟨h1, h2⟩]
      rw [h1] at M1
      simp only [h2] at M2
      clear h1 h2
      rw [hc.out]
      clear hc
      generalize sz xs = p at *
      generalize sz ys = q at *
      by_cases hq : 1099511627776 < p + q
      · rw [if_pos hq]
        go_enter Try.func23, Try.ntmps23
        go_wp2_with fail
        refine M1.out.mono ?_
        rintro e w1 ⟨rfl, hb1⟩
        have B1 := Lib.hid hb1
        clear hb1
        go_wp2_with fail
        refine (M2.out _ B1.out).mono ?_
        rintro e w2 ⟨rfl, hb2⟩
        have B2 := Lib.hid (B1.out.trans (hb2.mono B1.out.size))
        clear hb2
        go_wp2_with fail
        refine (S1.out _ B2.out).mono ?_
        rintro e w3 ⟨rfl, hb3⟩
        have B3 := Lib.hid (B2.out.trans (hb3.mono B2.out.size))
        clear hb3
        go_wp2_with fail
        refine (S2.out _ B3.out).mono ?_
        rintro e w4 ⟨rfl, hb4⟩
        have B4 := Lib.hid (B3.out.trans (hb4.mono B3.out.size))
        clear hb4
        go_wp2_with fail
        go_ret2
        exact newRO_nil 2 B4.out
      · rw [if_neg hq]
        go_enter Try.func23, Try.ntmps23
        go_wp2_with fail
        refine M1.out.mono ?_
        rintro e w1 ⟨rfl, hb1⟩
        have B1 := Lib.hid hb1
        clear hb1
        go_wp2_with fail
        refine (M2.out _ B1.out).mono ?_
        rintro e w2 ⟨rfl, hb2⟩
        have B2 := Lib.hid (B1.out.trans (hb2.mono B1.out.size))
        clear hb2
        go_wp2_with fail
        refine (S1.out _ B2.out).mono ?_
        rintro e w3 ⟨rfl, hb3⟩
        have B3 := Lib.hid (B2.out.trans (hb3.mono B2.out.size))
        clear hb3
        go_wp2_with fail
        refine (S2.out _ B3.out).mono ?_
        rintro e w4 ⟨rfl, hb4⟩
        have B4 := Lib.hid (B3.out.trans (hb4.mono B3.out.size))
        clear hb4
        go_wp2_with fail
        refine (J.out _ B4.out).mono ?_
        rintro e w5 ⟨ra, rc, rfl, ho, hb5⟩
        have B5 := Lib.hid (B4.out.trans (hb5.mono B4.out.size))
        have R5 : Hid (Own2 w5 w.heap.size (.slice ra (join xs ys).length rc) (join xs ys)) := ho.wider B4.out.size
        clear ho hb5
        go_wp2_with fail
        refine (fewO_any R5.out B5.out).mono ?_
        rintro e w6 ⟨ra6, rc6, rfl, r6, b6⟩
        have H6 := Lib.hid (And.intro r6 b6)
        clear r6 b6
        go_wp2_with fail
        go_ret2
        exact ⟨ra6, rc6, rfl, H6.out.1, H6.out.2⟩
set_option maxHeartbeats 2000000 in
theorem replace_nown {w : World} {P Q R : Nat → Prop} {vs vt vu : Value} {s t u : List Run} (hs : Rr w P vs s) (ht : Rr w Q vt t) (hu : Rr w R vu u) (h : ¬ (may s = true ∧ may t = true ∧ may u = true)) :
    Calls Try.prog 25 #[vs, vt, vu] w (NewRO w ([], 1)) := by
  have HS := Lib.hid hs
  have HT := Lib.hid ht
  have HU := Lib.hid hu
  have M1 := Lib.hid fun (w1 : World) (h : Below w.heap.size w w1) => may_any (HS.out.below h)
  have M2 := Lib.hid fun (w1 : World) (h : Below w.heap.size w w1) => may_any (HT.out.below h)
  have M3 := Lib.hid fun (w1 : World) (h : Below w.heap.size w w1) => may_any (HU.out.below h)
  obtain ⟨aa, ca, rfl, _⟩ := hs.shape
  obtain ⟨ab, cb, rfl, _⟩ := ht.shape
  obtain ⟨ac, cc, rfl, _⟩ := hu.shape
  clear hs ht hu
  cases h1 : may s with
  | false =>
    simp only [h1] at M1
    clear h h1
    go_enter Try.func25, Try.ntmps25
    go_wp2_with fail
    refine (M1.out _ (Below.refl _ _)).mono ?_
    rintro e w1 ⟨rfl, hb⟩
    have HB := Lib.hid hb
    clear hb
    go_wp2_with fail
    go_ret2
    exact newRO_nil 1 HB.out
  | true =>
    cases h2 : may t with
    | false =>
      simp only [h1] at M1
      simp only [h2] at M2
      clear h h1 h2
      go_enter Try.func25, Try.ntmps25
      go_wp2_with fail
      refine (M1.out _ (Below.refl _ _)).mono ?_
      rintro e w1 ⟨rfl, hb⟩
      have HB := Lib.hid hb
      clear hb
      go_wp2_with fail
      refine (M2.out _ HB.out).mono ?_
      rintro e w2 ⟨rfl, hb⟩
      have HB2 := Lib.hid (HB.out.trans (hb.mono HB.out.size))
      clear hb
      go_wp2_with fail
      go_ret2
      exact newRO_nil 1 HB2.out
    | true =>
      have h3 : may u = false := by
        cases h3 : may u with
        | false => rfl
        | true => exact absurd ⟨h1, h2, h3⟩ h
      simp only [h1] at M1
      simp only [h2] at M2
      simp only [h3] at M3
      clear h h1 h2 h3
      go_enter Try.func25, Try.ntmps25
      go_wp2_with fail
      refine (M1.out _ (Below.refl _ _)).mono ?_
      rintro e w1 ⟨rfl, hb⟩
      have HB := Lib.hid hb
      clear hb
      go_wp2_with fail
      refine (M2.out _ HB.out).mono ?_
      rintro e w2 ⟨rfl, hb⟩
      have HB2 := Lib.hid (HB.out.trans (hb.mono HB.out.size))
      clear hb
      go_wp2_with fail
      refine (M3.out _ HB2.out).mono ?_
      rintro e w3 ⟨rfl, hb⟩
      have HB3 := Lib.hid (HB2.out.trans (hb.mono HB2.out.size))
      clear hb
      go_wp2_with fail
      go_ret2
      exact newRO_nil 1 HB3.out

set_option maxHeartbeats 4000000 in
theorem replace_own {w : World} {P Q R : Nat → Prop} {vs vt vu : Value} {s t u : List Run} (hs : Rr w P vs s) (ht : Rr w Q vt t) (hu : Rr w R vu u) :
    Calls Try.prog 25 #[vs, vt, vu] w (NewRO w (replaceR s t u)) := by
  by_cases hm : may s = true ∧ may t = true ∧ may u = true
  · rw [replaceR, if_pos hm]
    obtain ⟨h1, h2, h3⟩ := hm
    have HS := Lib.hid hs
    have HT := Lib.hid ht
    have HU := Lib.hid hu
    have M1 := Lib.hid fun (w1 : World) (h : Below w.heap.size w w1) => may_any (HS.out.below h)
    have M2 := Lib.hid fun (w1 : World) (h : Below w.heap.size w w1) => may_any (HT.out.below h)
    have M3 := Lib.hid fun (w1 : World) (h : Below w.heap.size w w1) => may_any (HU.out.below h)
    have S1 := Lib.hid fun (w1 : World) (h : Below w.heap.size w w1) => size_any (HS.out.below h) h1
    have S2 := Lib.hid fun (w1 : World) (h : Below w.heap.size w w1) => size_any (HT.out.below h) h2
    have S3 := Lib.hid fun (w1 : World) (h : Below w.heap.size w w1) => size_any (HU.out.below h) h3
    have IX := Lib.hid fun (w1 : World) (h : Below w.heap.size w w1) => index_call (HS.out.below h) (HT.out.below h) 0
    have z1 := (may_iff.1 h1).size
    have z2 := (may_iff.1 h2).size
    have z3 := (may_iff.1 h3).size
    have bx := index_bound (may_iff.1 h1) (may_iff.1 h2)
    have HM := Lib.hid (And.intro (may_iff.1 h1) (And.intro (may_iff.1 h2) (may_iff.1 h3)))
    have CL := Lib.hid fun (w1 : World) (h : Below w.heap.size w w1) => clone_any (HS.out.below h) (by have := HM.out.1.1; omega)
    have U1 := Lib.hid fun (w1 : World) (h : Below w.heap.size w w1) => substr_any (HS.out.below h) 0 (indexR s t 0) (by omega)
    have U2 := Lib.hid fun (w1 : World) (h : Below w.heap.size w w1) => substr_any (HS.out.below h) (indexR s t 0 + sz t) (sz s) (by omega)
    have y1 := may_substr HM.out.1 0 (indexR s t 0)
    have y2 := may_substr HM.out.1 (indexR s t 0 + sz t) (sz s)
    have Y := Lib.hid (And.intro y1 y2)
    obtain ⟨aa, ca, rfl, _⟩ := hs.shape
    obtain ⟨ab, cb, rfl, _⟩ := ht.shape
    obtain ⟨ac, cc, rfl, _⟩ := hu.shape
    simp only [h1] at M1
    simp only [h2] at M2
    simp only [h3] at M3
    clear hs ht hu h1 h2 h3 y1 y2
    generalize substr s 0 (indexR s t 0) = p1 at *
    generalize substr s (indexR s t 0 + sz t) (sz s) = p2 at *
    generalize indexR s t 0 = k at *
    generalize sz s = A at *
    generalize sz t = B at *
    generalize sz u = C at *
    by_cases hk : k < 0
    · rw [if_pos hk]
      have g1 : decide (k < 0) = true := by simpa using hk
      go_enter Try.func25, Try.ntmps25
      go_wp2_with fail
      refine (M1.out _ (Below.refl _ _)).mono ?_
      rintro e w1 ⟨rfl, hb⟩
      have HB := Lib.hid hb
      clear hb
      go_wp2_with fail
      refine (M2.out _ HB.out).mono ?_
      rintro e w2 ⟨rfl, hb⟩
      have HB2 := Lib.hid (HB.out.trans (hb.mono HB.out.size))
      clear hb
      go_wp2_with fail
      refine (M3.out _ HB2.out).mono ?_
      rintro e w3 ⟨rfl, hb⟩
      have HB3 := Lib.hid (HB2.out.trans (hb.mono HB2.out.size))
      clear hb
      go_wp2_with fail
      refine (IX.out _ HB3.out).mono ?_
      rintro e w4 ⟨rfl, hb⟩
      have HB4 := Lib.hid (HB3.out.trans (hb.mono HB3.out.size))
      clear hb
      go_wp2_with fail
      refine (CL.out _ HB4.out).mono ?_
      rintro e w5 ⟨ra, rc, rfl, ho, hb⟩
      have HB5 := Lib.hid (HB4.out.trans (hb.mono HB4.out.size))
      have HO : Hid (Own2 w5 w.heap.size (.slice ra s.length rc) s) := ho.wider HB4.out.size
      clear hb ho
      go_wp2_with fail
      go_ret2
      exact ⟨ra, rc, rfl, HO.out, HB5.out⟩
    · rw [if_neg hk]
      have g1 : decide (k < 0) = false := by simpa using hk
      have q1 : IntKind.i64.wrap (A - B) = A - B := IntWalk.i64_in _ (by omega)
      have q2 : IntKind.i64.wrap (A - B + C) = A - B + C := IntWalk.i64_in _ (by omega)
      have q3 : IntKind.i64.wrap (k + B) = k + B := IntWalk.i64_in _ (by omega)
      by_cases hl : 1099511627776 < A - B + C
      · rw [if_pos hl]
        have g2 : decide (1099511627776 < A - B + C) = true := by simpa using hl
        go_enter Try.func25, Try.ntmps25
        go_wp2_with fail
        refine (M1.out _ (Below.refl _ _)).mono ?_
        rintro e w1 ⟨rfl, hb⟩
        have HB := Lib.hid hb
        clear hb
        go_wp2_with fail
        refine (M2.out _ HB.out).mono ?_
        rintro e w2 ⟨rfl, hb⟩
        have HB2 := Lib.hid (HB.out.trans (hb.mono HB.out.size))
        clear hb
        go_wp2_with fail
        refine (M3.out _ HB2.out).mono ?_
        rintro e w3 ⟨rfl, hb⟩
        have HB3 := Lib.hid (HB2.out.trans (hb.mono HB2.out.size))
        clear hb
        go_wp2_with fail
        refine (IX.out _ HB3.out).mono ?_
        rintro e w4 ⟨rfl, hb⟩
        have HB4 := Lib.hid (HB3.out.trans (hb.mono HB3.out.size))
        clear hb
        go_wp2_with fail
        refine (S1.out _ HB4.out).mono ?_
        rintro e w5 ⟨rfl, hb⟩
        have HB5 := Lib.hid (HB4.out.trans (hb.mono HB4.out.size))
        clear hb
        go_wp2_with fail
        refine (S2.out _ HB5.out).mono ?_
        rintro e w6 ⟨rfl, hb⟩
        have HB6 := Lib.hid (HB5.out.trans (hb.mono HB5.out.size))
        clear hb
        go_wp2_with fail
        refine (S3.out _ HB6.out).mono ?_
        rintro e w7 ⟨rfl, hb⟩
        have HB7 := Lib.hid (HB6.out.trans (hb.mono HB6.out.size))
        clear hb
        go_wp2_with fail
        go_ret2
        exact newRO_nil 2 HB7.out
      · rw [if_neg hl]
        have g2 : decide (1099511627776 < A - B + C) = false := by simpa using hl
        go_enter Try.func25, Try.ntmps25
        go_wp2_with fail
        refine (M1.out _ (Below.refl _ _)).mono ?_
        rintro e w1 ⟨rfl, hb⟩
        have HB := Lib.hid hb
        clear hb
        go_wp2_with fail
        refine (M2.out _ HB.out).mono ?_
        rintro e w2 ⟨rfl, hb⟩
        have HB2 := Lib.hid (HB.out.trans (hb.mono HB.out.size))
        clear hb
        go_wp2_with fail
        refine (M3.out _ HB2.out).mono ?_
        rintro e w3 ⟨rfl, hb⟩
        have HB3 := Lib.hid (HB2.out.trans (hb.mono HB2.out.size))
        clear hb
        go_wp2_with fail
        refine (IX.out _ HB3.out).mono ?_
        rintro e w4 ⟨rfl, hb⟩
        have HB4 := Lib.hid (HB3.out.trans (hb.mono HB3.out.size))
        clear hb
        go_wp2_with fail
        refine (S1.out _ HB4.out).mono ?_
        rintro e w5 ⟨rfl, hb⟩
        have HB5 := Lib.hid (HB4.out.trans (hb.mono HB4.out.size))
        clear hb
        go_wp2_with fail
        refine (S2.out _ HB5.out).mono ?_
        rintro e w6 ⟨rfl, hb⟩
        have HB6 := Lib.hid (HB5.out.trans (hb.mono HB5.out.size))
        clear hb
        go_wp2_with fail
        refine (S3.out _ HB6.out).mono ?_
        rintro e w7 ⟨rfl, hb⟩
        have HB7 := Lib.hid (HB6.out.trans (hb.mono HB6.out.size))
        clear hb
        go_wp2_with fail
        refine (U1.out _ HB7.out).mono ?_
        rintro e w8 ⟨ra8, rc8, rfl, hr8, hb⟩
        have HB8 := Lib.hid (HB7.out.trans (hb.mono HB7.out.size))
        have HR8 := Lib.hid hr8
        clear hb hr8
        go_wp2_with fail
        refine (joined_any HR8.out (HU.out.below HB8.out) (by have := Y.out.1.1; omega) (by have := HM.out.2.2.1; omega) Y.out.1.each HM.out.2.2.each).mono ?_
        rintro e w9 ⟨ra9, rc9, rfl, ho9, hb⟩
        have HB9 := Lib.hid (HB8.out.trans (hb.mono HB8.out.size))
        have HO9 := Lib.hid ho9
        clear hb ho9
        go_wp2_with fail
        refine (S2.out _ HB9.out).mono ?_
        rintro e w10 ⟨rfl, hb⟩
        have HB10 := Lib.hid (HB9.out.trans (hb.mono HB9.out.size))
        have HO10 := Lib.hid (HO9.out.below hb)
        clear hb
        go_wp2_with fail
        refine (S1.out _ HB10.out).mono ?_
        rintro e w11 ⟨rfl, hb⟩
        have HB11 := Lib.hid (HB10.out.trans (hb.mono HB10.out.size))
        have HO11 := Lib.hid (HO10.out.below hb)
        clear hb
        go_wp2_with fail
        refine (U2.out _ HB11.out).mono ?_
        rintro e w12 ⟨ra12, rc12, rfl, hr12, hb⟩
        have HB12 := Lib.hid (HB11.out.trans (hb.mono HB11.out.size))
        have HO12 := Lib.hid (HO11.out.below hb)
        have HR12 := Lib.hid hr12
        clear hb hr12
        go_wp2_with fail
        refine (joined_any HO12.out.rr HR12.out (by have := Y.out.1.1; have := HM.out.2.2.1; have := join_len p1 u; omega) (by have := Y.out.2.1; omega) (each_big (canon_join Y.out.1.canon HM.out.2.2.canon) (by rw [sz_join Y.out.1.canon HM.out.2.2.canon]; have := Y.out.1.size; have := HM.out.2.2.size; omega)) Y.out.2.each).mono ?_
        rintro e w13 ⟨ra13, rc13, rfl, ho13, hb⟩
        have HB13 := Lib.hid (HB12.out.trans (hb.mono HB12.out.size))
        have HR13 : Hid (Own2 w13 w.heap.size (.slice ra13 (join (join p1 u) p2).length rc13) (join (join p1 u) p2)) := ho13.wider HB12.out.size
        clear hb ho13
        go_wp2_with fail
        refine (fewO_any HR13.out HB13.out).mono ?_
        rintro e w14 ⟨ra14, rc14, rfl, r14, b14⟩
        have H14 := Lib.hid (And.intro r14 b14)
        clear r14 b14
        go_wp2_with fail
        go_ret2
        exact ⟨ra14, rc14, rfl, H14.out.1, H14.out.2⟩
  · rw [replaceR, if_neg hm]
    exact replace_nown hs ht hu hm

/-- On small texts the two Concats answer alike. -/
theorem turns_concat {a b : List Run} (la : a.length ≤ 300) (lb : b.length ≤ 300) (za : may a = true → sz a ≤ 300) (zb : may b = true → sz b ≤ 300) : concatR a b = rconcatR a b := by
  by_cases hm : may a = true ∧ may b = true
  · rw [rconcatR, if_pos hm]
    exact concat_ok (may_iff.1 hm.1) (may_iff.1 hm.2) (by have := za hm.1; have := zb hm.2; omega) (by omega)
  · rw [rconcatR, if_neg hm, concatR, if_neg hm]
/-- .. and the two Replaces. -/
theorem turns_replace {s t u : List Run} (ls : s.length ≤ 300) (lu : u.length ≤ 300) (zs : may s = true → sz s ≤ 300) (zu : may u = true → sz u ≤ 300) : replaceR s t u = rreplaceR s t u := by
  by_cases hm : may s = true ∧ may t = true ∧ may u = true
  · obtain ⟨h1, h2, h3⟩ := hm
    rw [rreplaceR, if_pos ⟨h1, h2, h3⟩]
    have mS := may_iff.1 h1
    have mT := may_iff.1 h2
    have mU := may_iff.1 h3
    split
    · rename_i h
      exact replaced_none mS mT mU h
    · rename_i h
      have z1 := zs h1
      have z3 := zu h3
      have z2 := mT.size
      obtain ⟨x, r, f1, f2, f3, _⟩ := replaced_some mS mT mU h (by omega) ls lu
      rw [f3]
      have m1 := may_substr mS 0 (indexR s t 0)
      have m2 := may_substr mS (indexR s t 0 + sz t) (sz s)
      obtain ⟨_, g2, g3, _⟩ := first_here mS mT (i := 0) (by omega)
      have k1 := substr_len s 0 (indexR s t 0)
      have k2 := substr_len s (indexR s t 0 + sz t) (sz s)
      have j1 := join_len (substr s 0 (indexR s t 0)) u
      have y1 := sz_substr mS (i := 0) (m := indexR s t 0) (Int.le_refl 0)
      have y2 := sz_substr mS (i := indexR s t 0 + sz t) (m := sz s) (by omega)
      have hl := mS.length
      have ma := may_join m1 mU (by omega) (by omega)
      have sa := sz_join m1.canon mU.canon
      rw [concat_ok m1 mU (by omega) (by omega)] at f1
      obtain rfl : join (substr s 0 (indexR s t 0)) u = x := (Prod.mk.injEq _ _ _ _ ▸ f1).1
      rw [concat_ok ma m2 (by omega) (by omega)] at f2
      exact f2.symm ▸ rfl
  · rw [rreplaceR, if_neg hm, replaceR, if_neg hm]
end Go.Proofs.Ytdjapppfjpgidaa
