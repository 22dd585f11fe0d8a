/- Walks: Concat. -/
import Derived.Test.YtdjapppfjpgidaaRj
namespace Go.Proofs.Ytdjapppfjpgidaa
open Go.RowKit Go.Shelf

/-- few's answer. -/
def fewR (rs : List Run) : List Run × Int := if rs.length ≤ 65536 then (rs, 0) else ([], 2)
/-- Concat's answer. -/
def concatR (a b : List Run) : List Run × Int :=
  if may a = true ∧ may b = true then (if 1099511627776 < sz a + sz b then ([], 2) else fewR (join a b)) else ([], 1)
/-- Runs and an error's number are answered, the runs in new memory. -/
def NewRE (w : World) (r : List Run × Int) (e : Ending) (w' : World) : Prop := ∃ a c, e = .returned (.tuple #[.slice a r.1.length c, .int .i64 r.2]) ∧ Rr w' (fun k => w.heap.size ≤ k) (.slice a r.1.length c) r.1 ∧ Below w.heap.size w w'
theorem newRE_nil {w w' : World} (z : Int) (hb : Below w.heap.size w w') : NewRE w ([], z) (.returned (.tuple #[.slice none 0 0, .int .i64 z])) w' := ⟨none, 0, rfl, Rr.nil _ _, hb⟩

theorem fewR_any {w w1 : World} {a : Option Addr} {c : Nat} {rs : List Run} (h : Rr w1 (fun k => w.heap.size ≤ k) (.slice a rs.length c) rs) (hb : Below w.heap.size w w1) :
    Calls Try.prog 40 #[.slice a rs.length c] w1 (NewRE w (fewR rs)) := by
  by_cases hl : rs.length ≤ 65536
  · rw [fewR, if_pos hl]
    refine (few_any w1 a _ c hl).mono ?_
    rintro e w' ⟨rfl, rfl⟩
    exact ⟨a, c, rfl, h, hb⟩
  · rw [fewR, if_neg hl]
    refine (few_far w1 a _ c (by omega)).mono ?_
    rintro e w' ⟨rfl, rfl⟩
    exact newRE_nil 2 hb

theorem May.each {rs : List Run} (h : May rs) : ∀ r ∈ rs, 0 ≤ r.2 ∧ r.2 ≤ 4398046511104 := by
  intro r hr
  obtain ⟨i, hi⟩ := List.mem_iff_getElem?.1 hr
  have hl := (List.getElem?_eq_some_iff.1 hi).1
  have ho := h.2 i hl
  have hb := h.bounds (k := i) (by omega)
  unfold okAt at ho
  rw [List.getD_eq_getElem?_getD, hi] at ho
  simp only [Option.getD_some] at ho
  omega
theorem may_iff {rs : List Run} : may rs = true ↔ May rs := by simp [may]

set_option maxHeartbeats 2000000 in
theorem concat_call {w : World} {P Q : Nat → Prop} {va vb : Value} {xs ys : List Run} (ha : Rr w P va xs) (hb : Rr w Q vb ys) :
    Calls Try.prog 23 #[va, vb] w (NewRE w (concatR xs ys)) := by
  have HA := Lib.hid ha
  have HB := Lib.hid hb
  obtain ⟨aa, ca, rfl, _⟩ := ha.shape
  obtain ⟨ab, cb, rfl, _⟩ := hb.shape
  have M1 := Lib.hid (may_any ha)
  have M2 := Lib.hid fun (w1 : World) (h : Below w.heap.size w w1) => may_any (HB.out.below h)
  clear ha hb
  cases h1 : may xs with
  | false =>
    have hc : concatR xs ys = ([], 1) := by simp [concatR, h1]
    rw [hc]
    rw [h1] at M1
    clear hc h1
    go_enter Try.func23, Try.ntmps23
    go_wp2_with fail
    refine M1.out.mono ?_
    rintro e w1 ⟨rfl, hb1⟩
    go_wp2_with fail
    go_ret2
    exact newRE_nil 1 hb1
  | true =>
    cases h2 : may ys with
    | false =>
      have hc : concatR xs ys = ([], 1) := by simp [concatR, h2]
      rw [hc]
      rw [h1] at M1
      simp only [h2] at M2
      clear hc h1 h2
      go_enter Try.func23, Try.ntmps23
      go_wp2_with fail
      refine M1.out.mono ?_
      rintro e w1 ⟨rfl, hb1⟩
      have B1 := Lib.hid hb1
      clear hb1
      go_wp2_with fail
      refine (M2.out _ B1.out).mono ?_
      rintro e w2 ⟨rfl, hb2⟩
      have B2 := Lib.hid (B1.out.trans (hb2.mono B1.out.size))
      clear hb2
      go_wp2_with fail
      go_ret2
      exact newRE_nil 1 B2.out
    | true =>
      have S1 := Lib.hid fun (w1 : World) (h : Below w.heap.size w w1) => size_any (HA.out.below h) h1
      have S2 := Lib.hid fun (w1 : World) (h : Below w.heap.size w w1) => size_any (HB.out.below h) h2
      have J := Lib.hid fun (w1 : World) (h : Below w.heap.size w w1) => joined_any (HA.out.below h) (HB.out.below h) (by have := (may_iff.1 h1).1; omega) (by have := (may_iff.1 h2).1; omega) (may_iff.1 h1).each (may_iff.1 h2).each
      have z1 := (may_iff.1 h1).size
      have z2 := (may_iff.1 h2).size
      have hc : Hid (concatR xs ys = if 1099511627776 < sz xs + sz ys then ([], 2) else fewR (join xs ys)) := by show _ = _; rw [concatR, if_pos ⟨h1, h2⟩]
      rw [h1] at M1
      simp only [h2] at M2
      clear h1 h2
      rw [hc.out]
      clear hc
      generalize sz xs = p at *
      generalize sz ys = q at *
      by_cases hq : 1099511627776 < p + q
      · rw [if_pos hq]
        go_enter Try.func23, Try.ntmps23
        go_wp2_with fail
        refine M1.out.mono ?_
        rintro e w1 ⟨rfl, hb1⟩
        have B1 := Lib.hid hb1
        clear hb1
        go_wp2_with fail
        refine (M2.out _ B1.out).mono ?_
        rintro e w2 ⟨rfl, hb2⟩
        have B2 := Lib.hid (B1.out.trans (hb2.mono B1.out.size))
        clear hb2
        go_wp2_with fail
        refine (S1.out _ B2.out).mono ?_
        rintro e w3 ⟨rfl, hb3⟩
        have B3 := Lib.hid (B2.out.trans (hb3.mono B2.out.size))
        clear hb3
        go_wp2_with fail
        refine (S2.out _ B3.out).mono ?_
        rintro e w4 ⟨rfl, hb4⟩
        have B4 := Lib.hid (B3.out.trans (hb4.mono B3.out.size))
        clear hb4
        go_wp2_with fail
        go_ret2
        exact newRE_nil 2 B4.out
      · rw [if_neg hq]
        go_enter Try.func23, Try.ntmps23
        go_wp2_with fail
        refine M1.out.mono ?_
        rintro e w1 ⟨rfl, hb1⟩
        have B1 := Lib.hid hb1
        clear hb1
        go_wp2_with fail
        refine (M2.out _ B1.out).mono ?_
        rintro e w2 ⟨rfl, hb2⟩
        have B2 := Lib.hid (B1.out.trans (hb2.mono B1.out.size))
        clear hb2
        go_wp2_with fail
        refine (S1.out _ B2.out).mono ?_
        rintro e w3 ⟨rfl, hb3⟩
        have B3 := Lib.hid (B2.out.trans (hb3.mono B2.out.size))
        clear hb3
        go_wp2_with fail
        refine (S2.out _ B3.out).mono ?_
        rintro e w4 ⟨rfl, hb4⟩
        have B4 := Lib.hid (B3.out.trans (hb4.mono B3.out.size))
        clear hb4
        go_wp2_with fail
        refine (J.out _ B4.out).mono ?_
        rintro e w5 ⟨ra, rc, rfl, ho, hb5⟩
        have B5 := Lib.hid (B4.out.trans (hb5.mono B4.out.size))
        have R5 : Hid (Rr w5 (fun k => w.heap.size ≤ k) (.slice ra (join xs ys).length rc) (join xs ys)) := ho.rr.mono fun k _ e => Nat.le_trans B4.out.size e
        clear ho hb5
        go_wp2_with fail
        refine (fewR_any R5.out B5.out).mono ?_
        rintro e w6 ⟨ra6, rc6, rfl, r6, b6⟩
        have H6 := Lib.hid (And.intro r6 b6)
        clear r6 b6
        go_wp2_with fail
        go_ret2
        exact ⟨ra6, rc6, rfl, H6.out.1, H6.out.2⟩
end Go.Proofs.Ytdjapppfjpgidaa
