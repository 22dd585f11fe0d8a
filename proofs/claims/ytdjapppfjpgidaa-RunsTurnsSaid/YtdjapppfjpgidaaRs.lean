/- Walks: Contains, Prefix, Suffix, Replace. -/
import Derived.Test.YtdjapppfjpgidaaPb
namespace Go.Proofs.Ytdjapppfjpgidaa
open Go.RowKit

theorem index_call {w : World} {P Q : Nat → Prop} {va vb : Value} {s t : List Run} (hs : Rr w P va s) (ht : Rr w Q vb t) (i : Int) :
    Calls Try.prog 20 #[va, vb, .int .i64 i] w fun e W' => e = .returned (.int .i64 (indexR s t i)) ∧ Below w.heap.size w W' :=
  index_any hs ht i fun h => may_substr (may_iff.1 h) _ _

def containsR (s t : List Run) : Bool := decide (0 ≤ indexR s t 0)
theorem contains_any {w : World} {P Q : Nat → Prop} {va vb : Value} {s t : List Run} (hs : Rr w P va s) (ht : Rr w Q vb t) :
    Calls Try.prog 22 #[va, vb] w fun e W' => e = .returned (.bool (containsR s t)) ∧ Below w.heap.size w W' := by
  have HI := Lib.hid (index_call hs ht 0)
  obtain ⟨aa, ca, rfl, _⟩ := hs.shape
  obtain ⟨ab, cb, rfl, _⟩ := ht.shape
  unfold containsR
  clear hs ht
  generalize indexR s t 0 = k at *
  go_enter Try.func22, Try.ntmps22
  go_wp2_with fail
  refine HI.out.mono ?_
  rintro e w1 ⟨rfl, hb⟩
  have HB := Lib.hid hb
  clear hb
  go_wp2_with fail
  go_ret
  exact ⟨rfl, HB.out⟩

def prefixR (a s : List Run) : Bool := may a && (may s && decide (a = substr s 0 (sz a)))
set_option maxHeartbeats 2000000 in
theorem prefix_any {w : World} {P Q : Nat → Prop} {va vs : Value} {a s : List Run} (ha : Rr w P va a) (hs : Rr w Q vs s) :
    Calls Try.prog 27 #[va, vs] w fun e W' => e = .returned (.bool (prefixR a s)) ∧ Below w.heap.size w W' := by
  have HA := Lib.hid ha
  have HS := Lib.hid hs
  have M1 := Lib.hid (may_any ha)
  have M2 := Lib.hid fun (w1 : World) (h : Below w.heap.size w w1) => may_any (HS.out.below h)
  obtain ⟨aa, ca, rfl, _⟩ := ha.shape
  obtain ⟨ab, cb, rfl, _⟩ := hs.shape
  clear ha hs
  unfold prefixR
  cases h1 : may a with
  | false =>
    simp only [h1] at M1
    clear h1
    simp only [Bool.false_and]
    go_enter Try.func27, Try.ntmps27
    go_wp2_with fail
    refine M1.out.mono ?_
    rintro e w1 ⟨rfl, hb⟩
    have HB := Lib.hid hb
    clear hb
    go_wp2_with fail
    go_ret
    exact ⟨rfl, HB.out⟩
  | true =>
    have S1 := Lib.hid fun (w1 : World) (h : Below w.heap.size w w1) => size_any (HA.out.below h) h1
    have z1 := (may_iff.1 h1).size
    have HL1 : Hid (a.length ≤ 1000000000000) := by show _ ≤ _; have := (may_iff.1 h1).1; omega
    simp only [h1] at M1
    clear h1
    cases h2 : may s with
    | false =>
      simp only [h2] at M2
      clear h2
      simp only [Bool.false_and, Bool.and_false]
      go_enter Try.func27, Try.ntmps27
      go_wp2_with fail
      refine M1.out.mono ?_
      rintro e w1 ⟨rfl, hb⟩
      have HB := Lib.hid hb
      clear hb
      go_wp2_with fail
      refine (M2.out _ HB.out).mono ?_
      rintro e w2 ⟨rfl, hb⟩
      have HB2 := Lib.hid (HB.out.trans (hb.mono HB.out.size))
      clear hb
      go_wp2_with fail
      go_ret
      exact ⟨rfl, HB2.out⟩
    | true =>
      simp only [h2] at M2
      clear h2
      simp only [Bool.true_and]
      have SU := Lib.hid fun (w1 : World) (h : Below w.heap.size w w1) => substr_any (HS.out.below h) 0 (sz a) (by omega)
      generalize sz a = A at *
      generalize hr : substr s 0 A = r at *
      go_enter Try.func27, Try.ntmps27
      go_wp2_with fail
      refine M1.out.mono ?_
      rintro e w1 ⟨rfl, hb⟩
      have HB := Lib.hid hb
      clear hb
      go_wp2_with fail
      refine (M2.out _ HB.out).mono ?_
      rintro e w2 ⟨rfl, hb⟩
      have HB2 := Lib.hid (HB.out.trans (hb.mono HB.out.size))
      clear hb
      go_wp2_with fail
      refine (S1.out _ HB2.out).mono ?_
      rintro e w3 ⟨rfl, hb⟩
      have HB3 := Lib.hid (HB2.out.trans (hb.mono HB2.out.size))
      clear hb
      go_wp2_with fail
      refine (SU.out _ HB3.out).mono ?_
      rintro e w4 ⟨ra, rc, rfl, hr4, hb⟩
      have HB4 := Lib.hid (HB3.out.trans (hb.mono HB3.out.size))
      have HR4 := Lib.hid hr4
      clear hb hr4
      go_wp2_with fail
      refine (equal_any (HA.out.below HB4.out) HR4.out HL1.out).mono ?_
      rintro e w5 ⟨rfl, hb⟩
      have HB5 := Lib.hid (HB4.out.trans (hb.mono HB4.out.size))
      clear hb
      go_wp2_with fail
      go_ret
      exact ⟨rfl, HB5.out⟩

def suffixR (a s : List Run) : Bool := may a && (may s && (decide (sz a ≤ sz s) && decide (a = substr s (sz s - sz a) (sz a))))
set_option maxHeartbeats 2000000 in
theorem suffix_any {w : World} {P Q : Nat → Prop} {va vs : Value} {a s : List Run} (ha : Rr w P va a) (hs : Rr w Q vs s) :
    Calls Try.prog 29 #[va, vs] w fun e W' => e = .returned (.bool (suffixR a s)) ∧ Below w.heap.size w W' := by
  have HA := Lib.hid ha
  have HS := Lib.hid hs
  have M1 := Lib.hid (may_any ha)
  have M2 := Lib.hid fun (w1 : World) (h : Below w.heap.size w w1) => may_any (HS.out.below h)
  obtain ⟨aa, ca, rfl, _⟩ := ha.shape
  obtain ⟨ab, cb, rfl, _⟩ := hs.shape
  clear ha hs
  unfold suffixR
  cases h1 : may a with
  | false =>
    simp only [h1] at M1
    clear h1
    simp only [Bool.false_and]
    go_enter Try.func29, Try.ntmps29
    go_wp2_with fail
    refine M1.out.mono ?_
    rintro e w1 ⟨rfl, hb⟩
    have HB := Lib.hid hb
    clear hb
    go_wp2_with fail
    go_ret
    exact ⟨rfl, HB.out⟩
  | true =>
    have S1 := Lib.hid fun (w1 : World) (h : Below w.heap.size w w1) => size_any (HA.out.below h) h1
    have z1 := (may_iff.1 h1).size
    have HL1 : Hid (a.length ≤ 1000000000000) := by show _ ≤ _; have := (may_iff.1 h1).1; omega
    simp only [h1] at M1
    clear h1
    cases h2 : may s with
    | false =>
      simp only [h2] at M2
      clear h2
      simp only [Bool.false_and, Bool.and_false]
      go_enter Try.func29, Try.ntmps29
      go_wp2_with fail
      refine M1.out.mono ?_
      rintro e w1 ⟨rfl, hb⟩
      have HB := Lib.hid hb
      clear hb
      go_wp2_with fail
      refine (M2.out _ HB.out).mono ?_
      rintro e w2 ⟨rfl, hb⟩
      have HB2 := Lib.hid (HB.out.trans (hb.mono HB.out.size))
      clear hb
      go_wp2_with fail
      go_ret
      exact ⟨rfl, HB2.out⟩
    | true =>
      have S2 := Lib.hid fun (w1 : World) (h : Below w.heap.size w w1) => size_any (HS.out.below h) h2
      have z2 := (may_iff.1 h2).size
      simp only [h2] at M2
      clear h2
      simp only [Bool.true_and]
      have SU := Lib.hid fun (w1 : World) (h : Below w.heap.size w w1) => substr_any (HS.out.below h) (sz s - sz a) (sz a) (by omega)
      generalize sz a = A at *
      generalize sz s = B at *
      generalize hr : substr s (B - A) A = r at *
      have q1 : IntKind.i64.wrap (B - A) = B - A := IntWalk.i64_in _ (by omega)
      cases h3 : decide (A ≤ B) with
      | false =>
        have g3 : decide (B < A) = true := by simp at h3 ⊢; omega
        clear h3
        simp only [Bool.false_and]
        go_enter Try.func29, Try.ntmps29
        go_wp2_with fail
        refine M1.out.mono ?_
        rintro e w1 ⟨rfl, hb⟩
        have HB := Lib.hid hb
        clear hb
        go_wp2_with fail
        refine (M2.out _ HB.out).mono ?_
        rintro e w2 ⟨rfl, hb⟩
        have HB2 := Lib.hid (HB.out.trans (hb.mono HB.out.size))
        clear hb
        go_wp2_with fail
        refine (S1.out _ HB2.out).mono ?_
        rintro e w3 ⟨rfl, hb⟩
        have HB3 := Lib.hid (HB2.out.trans (hb.mono HB2.out.size))
        clear hb
        go_wp2_with fail
        refine (S2.out _ HB3.out).mono ?_
        rintro e w4 ⟨rfl, hb⟩
        have HB4 := Lib.hid (HB3.out.trans (hb.mono HB3.out.size))
        clear hb
        go_wp2_with fail
        go_ret
        exact ⟨rfl, HB4.out⟩
      | true =>
        have g3 : decide (B < A) = false := by simp at h3 ⊢; omega
        clear h3
        simp only [Bool.true_and]
        go_enter Try.func29, Try.ntmps29
        go_wp2_with fail
        refine M1.out.mono ?_
        rintro e w1 ⟨rfl, hb⟩
        have HB := Lib.hid hb
        clear hb
        go_wp2_with fail
        refine (M2.out _ HB.out).mono ?_
        rintro e w2 ⟨rfl, hb⟩
        have HB2 := Lib.hid (HB.out.trans (hb.mono HB.out.size))
        clear hb
        go_wp2_with fail
        refine (S1.out _ HB2.out).mono ?_
        rintro e w3 ⟨rfl, hb⟩
        have HB3 := Lib.hid (HB2.out.trans (hb.mono HB2.out.size))
        clear hb
        go_wp2_with fail
        refine (S2.out _ HB3.out).mono ?_
        rintro e w4 ⟨rfl, hb⟩
        have HB4 := Lib.hid (HB3.out.trans (hb.mono HB3.out.size))
        clear hb
        go_wp2_with fail
        refine (S2.out _ HB4.out).mono ?_
        rintro e w5 ⟨rfl, hb⟩
        have HB5 := Lib.hid (HB4.out.trans (hb.mono HB4.out.size))
        clear hb
        go_wp2_with fail
        refine (S1.out _ HB5.out).mono ?_
        rintro e w6 ⟨rfl, hb⟩
        have HB6 := Lib.hid (HB5.out.trans (hb.mono HB5.out.size))
        clear hb
        go_wp2_with fail
        refine (S1.out _ HB6.out).mono ?_
        rintro e w7 ⟨rfl, hb⟩
        have HB7 := Lib.hid (HB6.out.trans (hb.mono HB6.out.size))
        clear hb
        go_wp2_with fail
        refine (SU.out _ HB7.out).mono ?_
        rintro e w8 ⟨ra, rc, rfl, hr8, hb⟩
        have HB8 := Lib.hid (HB7.out.trans (hb.mono HB7.out.size))
        have HR8 := Lib.hid hr8
        clear hb hr8
        go_wp2_with fail
        refine (equal_any (HA.out.below HB8.out) HR8.out HL1.out).mono ?_
        rintro e w9 ⟨rfl, hb⟩
        have HB9 := Lib.hid (HB8.out.trans (hb.mono HB8.out.size))
        clear hb
        go_wp2_with fail
        go_ret
        exact ⟨rfl, HB9.out⟩
end Go.Proofs.Ytdjapppfjpgidaa
