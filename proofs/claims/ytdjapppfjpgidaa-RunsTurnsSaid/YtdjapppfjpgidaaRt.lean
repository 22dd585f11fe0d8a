/- Walks: Replace. -/
import Derived.Test.YtdjapppfjpgidaaRs
namespace Go.Proofs.Ytdjapppfjpgidaa
open Go.RowKit

/-- Replace's answer. -/
def replaceR (s t u : List Run) : List Run × Int :=
  if may s = true ∧ may t = true ∧ may u = true then
    (if indexR s t 0 < 0 then (s, 0) else if 1099511627776 < sz s - sz t + sz u then ([], 2)
      else fewR (join (join (substr s 0 (indexR s t 0)) u) (substr s (indexR s t 0 + sz t) (sz s))))
  else ([], 1)

theorem index_bound {s t : List Run} (hs : May s) (ht : May t) : -1 ≤ indexR s t 0 ∧ indexR s t 0 ≤ 1099511627776 := by
  have hb := hs.size
  have hl := hs.length
  rcases index_spec hs ht (i := 0) (by omega) with ⟨h, _⟩ | ⟨q, h, _, h2, _⟩
  · omega
  · omega
theorem each_big {a : List Run} (h : Canon a) (hz : sz a ≤ 4398046511104) : ∀ r ∈ a, 0 ≤ r.2 ∧ r.2 ≤ 4398046511104 := fun r hr => by have := h.each r hr; omega

set_option maxHeartbeats 2000000 in
theorem replace_no {w : World} {P Q R : Nat → Prop} {vs vt vu : Value} {s t u : List Run} (hs : Rr w P vs s) (ht : Rr w Q vt t) (hu : Rr w R vu u) (h : ¬ (may s = true ∧ may t = true ∧ may u = true)) :
    Calls Try.prog 25 #[vs, vt, vu] w (NewRE w ([], 1)) := by
  have HS := Lib.hid hs
  have HT := Lib.hid ht
  have HU := Lib.hid hu
  have M1 := Lib.hid fun (w1 : World) (h : Below w.heap.size w w1) => may_any (HS.out.below h)
  have M2 := Lib.hid fun (w1 : World) (h : Below w.heap.size w w1) => may_any (HT.out.below h)
  have M3 := Lib.hid fun (w1 : World) (h : Below w.heap.size w w1) => may_any (HU.out.below h)
  obtain ⟨aa, ca, rfl, _⟩ := hs.shape
  obtain ⟨ab, cb, rfl, _⟩ := ht.shape
  obtain ⟨ac, cc, rfl, _⟩ := hu.shape
  clear hs ht hu
  cases h1 : may s with
  | false =>
    simp only [h1] at M1
    clear h h1
    go_enter Try.func25, Try.ntmps25
    go_wp2_with fail
    refine (M1.out _ (Below.refl _ _)).mono ?_
    rintro e w1 ⟨rfl, hb⟩
    have HB := Lib.hid hb
    clear hb
    go_wp2_with fail
    go_ret2
    exact newRE_nil 1 HB.out
  | true =>
    cases h2 : may t with
    | false =>
      simp only [h1] at M1
      simp only [h2] at M2
      clear h h1 h2
      go_enter Try.func25, Try.ntmps25
      go_wp2_with fail
      refine (M1.out _ (Below.refl _ _)).mono ?_
      rintro e w1 ⟨rfl, hb⟩
      have HB := Lib.hid hb
      clear hb
      go_wp2_with fail
      refine (M2.out _ HB.out).mono ?_
      rintro e w2 ⟨rfl, hb⟩
      have HB2 := Lib.hid (HB.out.trans (hb.mono HB.out.size))
      clear hb
      go_wp2_with fail
      go_ret2
      exact newRE_nil 1 HB2.out
    | true =>
      have h3 : may u = false := by
        cases h3 : may u with
        | false => rfl
        | true => exact absurd ⟨h1, h2, h3⟩ h
      simp only [h1] at M1
      simp only [h2] at M2
      simp only [h3] at M3
      clear h h1 h2 h3
      go_enter Try.func25, Try.ntmps25
      go_wp2_with fail
      refine (M1.out _ (Below.refl _ _)).mono ?_
      rintro e w1 ⟨rfl, hb⟩
      have HB := Lib.hid hb
      clear hb
      go_wp2_with fail
      refine (M2.out _ HB.out).mono ?_
      rintro e w2 ⟨rfl, hb⟩
      have HB2 := Lib.hid (HB.out.trans (hb.mono HB.out.size))
      clear hb
      go_wp2_with fail
      refine (M3.out _ HB2.out).mono ?_
      rintro e w3 ⟨rfl, hb⟩
      have HB3 := Lib.hid (HB2.out.trans (hb.mono HB2.out.size))
      clear hb
      go_wp2_with fail
      go_ret2
      exact newRE_nil 1 HB3.out

set_option maxHeartbeats 4000000 in
theorem replace_any {w : World} {P Q R : Nat → Prop} {vs vt vu : Value} {s t u : List Run} (hs : Rr w P vs s) (ht : Rr w Q vt t) (hu : Rr w R vu u) :
    Calls Try.prog 25 #[vs, vt, vu] w (NewRE w (replaceR s t u)) := by
  by_cases hm : may s = true ∧ may t = true ∧ may u = true
  · rw [replaceR, if_pos hm]
    obtain ⟨h1, h2, h3⟩ := hm
    have HS := Lib.hid hs
    have HT := Lib.hid ht
    have HU := Lib.hid hu
    have M1 := Lib.hid fun (w1 : World) (h : Below w.heap.size w w1) => may_any (HS.out.below h)
    have M2 := Lib.hid fun (w1 : World) (h : Below w.heap.size w w1) => may_any (HT.out.below h)
    have M3 := Lib.hid fun (w1 : World) (h : Below w.heap.size w w1) => may_any (HU.out.below h)
    have S1 := Lib.hid fun (w1 : World) (h : Below w.heap.size w w1) => size_any (HS.out.below h) h1
    have S2 := Lib.hid fun (w1 : World) (h : Below w.heap.size w w1) => size_any (HT.out.below h) h2
    have S3 := Lib.hid fun (w1 : World) (h : Below w.heap.size w w1) => size_any (HU.out.below h) h3
    have IX := Lib.hid fun (w1 : World) (h : Below w.heap.size w w1) => index_call (HS.out.below h) (HT.out.below h) 0
    have z1 := (may_iff.1 h1).size
    have z2 := (may_iff.1 h2).size
    have z3 := (may_iff.1 h3).size
    have bx := index_bound (may_iff.1 h1) (may_iff.1 h2)
    have HM := Lib.hid (And.intro (may_iff.1 h1) (And.intro (may_iff.1 h2) (may_iff.1 h3)))
    have CL := Lib.hid fun (w1 : World) (h : Below w.heap.size w w1) => clone_any (HS.out.below h) (by have := HM.out.1.1; omega)
    have U1 := Lib.hid fun (w1 : World) (h : Below w.heap.size w w1) => substr_any (HS.out.below h) 0 (indexR s t 0) (by omega)
    have U2 := Lib.hid fun (w1 : World) (h : Below w.heap.size w w1) => substr_any (HS.out.below h) (indexR s t 0 + sz t) (sz s) (by omega)
    have y1 := may_substr HM.out.1 0 (indexR s t 0)
    have y2 := may_substr HM.out.1 (indexR s t 0 + sz t) (sz s)
    have Y := Lib.hid (And.intro y1 y2)
    obtain ⟨aa, ca, rfl, _⟩ := hs.shape
    obtain ⟨ab, cb, rfl, _⟩ := ht.shape
    obtain ⟨ac, cc, rfl, _⟩ := hu.shape
    simp only [h1] at M1
    simp only [h2] at M2
    simp only [h3] at M3
    clear hs ht hu h1 h2 h3 y1 y2
    generalize substr s 0 (indexR s t 0) = p1 at *
    generalize substr s (indexR s t 0 + sz t) (sz s) = p2 at *
    generalize indexR s t 0 = k at *
    generalize sz s = A at *
    generalize sz t = B at *
    generalize sz u = C at *
    by_cases hk : k < 0
    · rw [if_pos hk]
      have g1 : decide (k < 0) = true := by simpa using hk
      go_enter Try.func25, Try.ntmps25
      go_wp2_with fail
      refine (M1.out _ (Below.refl _ _)).mono ?_
      rintro e w1 ⟨rfl, hb⟩
      have HB := Lib.hid hb
      clear hb
      go_wp2_with fail
      refine (M2.out _ HB.out).mono ?_
      rintro e w2 ⟨rfl, hb⟩
      have HB2 := Lib.hid (HB.out.trans (hb.mono HB.out.size))
      clear hb
      go_wp2_with fail
      refine (M3.out _ HB2.out).mono ?_
      rintro e w3 ⟨rfl, hb⟩
      have HB3 := Lib.hid (HB2.out.trans (hb.mono HB2.out.size))
      clear hb
      go_wp2_with fail
      refine (IX.out _ HB3.out).mono ?_
      rintro e w4 ⟨rfl, hb⟩
      have HB4 := Lib.hid (HB3.out.trans (hb.mono HB3.out.size))
      clear hb
      go_wp2_with fail
      refine (CL.out _ HB4.out).mono ?_
      rintro e w5 ⟨ra, rc, rfl, ho, hb⟩
      have HB5 := Lib.hid (HB4.out.trans (hb.mono HB4.out.size))
      have HO : Hid (Rr w5 (fun k => w.heap.size ≤ k) (.slice ra s.length rc) s) := ho.rr.mono fun k _ e => Nat.le_trans HB4.out.size e
      clear hb ho
      go_wp2_with fail
      go_ret2
      exact ⟨ra, rc, rfl, HO.out, HB5.out⟩
    · rw [if_neg hk]
      have g1 : decide (k < 0) = false := by simpa using hk
      have q1 : IntKind.i64.wrap (A - B) = A - B := IntWalk.i64_in _ (by omega)
      have q2 : IntKind.i64.wrap (A - B + C) = A - B + C := IntWalk.i64_in _ (by omega)
      have q3 : IntKind.i64.wrap (k + B) = k + B := IntWalk.i64_in _ (by omega)
      by_cases hl : 1099511627776 < A - B + C
      · rw [if_pos hl]
        have g2 : decide (1099511627776 < A - B + C) = true := by simpa using hl
        go_enter Try.func25, Try.ntmps25
        go_wp2_with fail
        refine (M1.out _ (Below.refl _ _)).mono ?_
        rintro e w1 ⟨rfl, hb⟩
        have HB := Lib.hid hb
        clear hb
        go_wp2_with fail
        refine (M2.out _ HB.out).mono ?_
        rintro e w2 ⟨rfl, hb⟩
        have HB2 := Lib.hid (HB.out.trans (hb.mono HB.out.size))
        clear hb
        go_wp2_with fail
        refine (M3.out _ HB2.out).mono ?_
        rintro e w3 ⟨rfl, hb⟩
        have HB3 := Lib.hid (HB2.out.trans (hb.mono HB2.out.size))
        clear hb
        go_wp2_with fail
        refine (IX.out _ HB3.out).mono ?_
        rintro e w4 ⟨rfl, hb⟩
        have HB4 := Lib.hid (HB3.out.trans (hb.mono HB3.out.size))
        clear hb
        go_wp2_with fail
        refine (S1.out _ HB4.out).mono ?_
        rintro e w5 ⟨rfl, hb⟩
        have HB5 := Lib.hid (HB4.out.trans (hb.mono HB4.out.size))
        clear hb
        go_wp2_with fail
        refine (S2.out _ HB5.out).mono ?_
        rintro e w6 ⟨rfl, hb⟩
        have HB6 := Lib.hid (HB5.out.trans (hb.mono HB5.out.size))
        clear hb
        go_wp2_with fail
        refine (S3.out _ HB6.out).mono ?_
        rintro e w7 ⟨rfl, hb⟩
        have HB7 := Lib.hid (HB6.out.trans (hb.mono HB6.out.size))
        clear hb
        go_wp2_with fail
        go_ret2
        exact newRE_nil 2 HB7.out
      · rw [if_neg hl]
        have g2 : decide (1099511627776 < A - B + C) = false := by simpa using hl
        go_enter Try.func25, Try.ntmps25
        go_wp2_with fail
        refine (M1.out _ (Below.refl _ _)).mono ?_
        rintro e w1 ⟨rfl, hb⟩
        have HB := Lib.hid hb
        clear hb
        go_wp2_with fail
        refine (M2.out _ HB.out).mono ?_
        rintro e w2 ⟨rfl, hb⟩
        have HB2 := Lib.hid (HB.out.trans (hb.mono HB.out.size))
        clear hb
        go_wp2_with fail
        refine (M3.out _ HB2.out).mono ?_
        rintro e w3 ⟨rfl, hb⟩
        have HB3 := Lib.hid (HB2.out.trans (hb.mono HB2.out.size))
        clear hb
        go_wp2_with fail
        refine (IX.out _ HB3.out).mono ?_
        rintro e w4 ⟨rfl, hb⟩
        have HB4 := Lib.hid (HB3.out.trans (hb.mono HB3.out.size))
        clear hb
        go_wp2_with fail
        refine (S1.out _ HB4.out).mono ?_
        rintro e w5 ⟨rfl, hb⟩
        have HB5 := Lib.hid (HB4.out.trans (hb.mono HB4.out.size))
        clear hb
        go_wp2_with fail
        refine (S2.out _ HB5.out).mono ?_
        rintro e w6 ⟨rfl, hb⟩
        have HB6 := Lib.hid (HB5.out.trans (hb.mono HB5.out.size))
        clear hb
        go_wp2_with fail
        refine (S3.out _ HB6.out).mono ?_
        rintro e w7 ⟨rfl, hb⟩
        have HB7 := Lib.hid (HB6.out.trans (hb.mono HB6.out.size))
        clear hb
        go_wp2_with fail
        refine (U1.out _ HB7.out).mono ?_
        rintro e w8 ⟨ra8, rc8, rfl, hr8, hb⟩
        have HB8 := Lib.hid (HB7.out.trans (hb.mono HB7.out.size))
        have HR8 := Lib.hid hr8
        clear hb hr8
        go_wp2_with fail
        refine (joined_any HR8.out (HU.out.below HB8.out) (by have := Y.out.1.1; omega) (by have := HM.out.2.2.1; omega) Y.out.1.each HM.out.2.2.each).mono ?_
        rintro e w9 ⟨ra9, rc9, rfl, ho9, hb⟩
        have HB9 := Lib.hid (HB8.out.trans (hb.mono HB8.out.size))
        have HO9 := Lib.hid ho9
        clear hb ho9
        go_wp2_with fail
        refine (S2.out _ HB9.out).mono ?_
        rintro e w10 ⟨rfl, hb⟩
        have HB10 := Lib.hid (HB9.out.trans (hb.mono HB9.out.size))
        have HO10 := Lib.hid (HO9.out.below hb)
        clear hb
        go_wp2_with fail
        refine (S1.out _ HB10.out).mono ?_
        rintro e w11 ⟨rfl, hb⟩
        have HB11 := Lib.hid (HB10.out.trans (hb.mono HB10.out.size))
        have HO11 := Lib.hid (HO10.out.below hb)
        clear hb
        go_wp2_with fail
        refine (U2.out _ HB11.out).mono ?_
        rintro e w12 ⟨ra12, rc12, rfl, hr12, hb⟩
        have HB12 := Lib.hid (HB11.out.trans (hb.mono HB11.out.size))
        have HO12 := Lib.hid (HO11.out.below hb)
        have HR12 := Lib.hid hr12
        clear hb hr12
        go_wp2_with fail
        refine (joined_any HO12.out.rr HR12.out (by have := Y.out.1.1; have := HM.out.2.2.1; have := join_len p1 u; omega) (by have := Y.out.2.1; omega) (each_big (canon_join Y.out.1.canon HM.out.2.2.canon) (by rw [sz_join Y.out.1.canon HM.out.2.2.canon]; have := Y.out.1.size; have := HM.out.2.2.size; omega)) Y.out.2.each).mono ?_
        rintro e w13 ⟨ra13, rc13, rfl, ho13, hb⟩
        have HB13 := Lib.hid (HB12.out.trans (hb.mono HB12.out.size))
        have HR13 : Hid (Rr w13 (fun k => w.heap.size ≤ k) (.slice ra13 (join (join p1 u) p2).length rc13) (join (join p1 u) p2)) := ho13.rr.mono fun k _ e => Nat.le_trans HB12.out.size e
        clear hb ho13
        go_wp2_with fail
        refine (fewR_any HR13.out HB13.out).mono ?_
        rintro e w14 ⟨ra14, rc14, rfl, r14, b14⟩
        have H14 := Lib.hid (And.intro r14 b14)
        clear r14 b14
        go_wp2_with fail
        go_ret2
        exact ⟨ra14, rc14, rfl, H14.out.1, H14.out.2⟩
  · rw [replaceR, if_neg hm]
    exact replace_no hs ht hu hm
end Go.Proofs.Ytdjapppfjpgidaa
