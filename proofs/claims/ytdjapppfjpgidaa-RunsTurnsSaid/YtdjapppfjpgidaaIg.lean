/- The reference's Concat, Prefix, Suffix. -/
import Derived.Test.YtdjapppfjpgidaaIf
namespace Go.Proofs.Ytdjapppfjpgidaa
open Go.RowKit

theorem rle_join {a b : List Run} (ha : Canon a) (hb : Canon b) : rle (pts a ++ pts b) = join a b := by
  rw [← pts_join ha.nonneg hb.nonneg, rle_pts (canon_join ha hb)]
theorem prefix_rst {a s : List Run} (ha : May a) (hs : May s) : prefixR a s = rst (pts s) (pts a) 0 := by
  have hl := ha.length
  have hp := pts_substr hs (i := 0) (m := sz a) (Int.le_refl 0)
  have e : (sz a).toNat = (pts a).length := by omega
  rw [e] at hp
  rw [prefixR, may_iff.2 ha, may_iff.2 hs, Bool.true_and, Bool.true_and, rst]
  refine decide_eq_decide.2 ⟨fun h => ?_, fun ⟨_, _, h⟩ => ?_⟩
  · rw [← h] at hp
    have := congrArg List.length hp
    simp only [Int.toNat_zero, List.drop_zero, List.length_take] at this
    exact ⟨Int.le_refl 0, by omega, hp.symm⟩
  · exact canon_uniq ha.canon (may_substr hs _ _).canon (by rw [hp, h])
theorem suffix_rst {a s : List Run} (ha : May a) (hs : May s) : suffixR a s = rst (pts s) (pts a) (((pts s).length : Int) - ((pts a).length : Int)) := by
  have hl := ha.length
  have hl2 := hs.length
  rw [suffixR, may_iff.2 ha, may_iff.2 hs, Bool.true_and, Bool.true_and, rst, hl, hl2]
  by_cases h : sz a ≤ sz s
  · rw [decide_eq_true h, Bool.true_and]
    have hp := pts_substr hs (i := sz s - sz a) (m := sz a) (by omega)
    have e : (sz a).toNat = (pts a).length := by omega
    rw [e] at hp
    refine decide_eq_decide.2 ⟨fun h => ?_, fun ⟨_, _, h⟩ => ?_⟩
    · rw [← h] at hp
      exact ⟨by omega, by omega, hp.symm⟩
    · exact canon_uniq ha.canon (may_substr hs _ _).canon (by rw [hp, h])
  · rw [decide_eq_false h, Bool.false_and]
    exact (decide_eq_false (fun h2 => h (by omega))).symm

/-- The reference's Concat. -/
def rconcatR (a b : List Run) : List Run × Int := if may a = true ∧ may b = true then (join a b, 0) else ([], 1)

set_option maxHeartbeats 4000000 in
theorem rconcat_any {w : World} {P Q : Nat → Prop} {va vb : Value} {a b : List Run} (ha : Rr w P va a) (hb : Rr w Q vb b) (za : may a = true → sz a ≤ 20000) (zb : may b = true → sz b ≤ 20000) :
    Calls Try.prog 24 #[va, vb] w (NewRE w (rconcatR a b)) := by
  have HA := Lib.hid ha
  have HB := Lib.hid hb
  have M1 := Lib.hid (rmay_any ha)
  have M2 := Lib.hid fun (w1 : World) (h : Below w.heap.size w w1) => rmay_any (HB.out.below h)
  obtain ⟨aa, ca, rfl, _⟩ := ha.shape
  obtain ⟨ab, cb, rfl, _⟩ := hb.shape
  clear ha hb
  by_cases hm : may a = true ∧ may b = true
  · rw [rconcatR, if_pos hm]
    obtain ⟨h1, h2⟩ := hm
    have mA := may_iff.1 h1
    have mB := may_iff.1 h2
    have z1 := za h1
    have z2 := zb h2
    rw [h1] at M1
    simp only [h2] at M2
    have P1 := Lib.hid fun (w1 : World) (h : Below w.heap.size w w1) => points_any (HA.out.below h) mA (by omega)
    have P2 := Lib.hid fun (w1 : World) (h : Below w.heap.size w w1) => points_any (HB.out.below h) mB (by omega)
    have l1 : (pts a).length ≤ 20000 := by have := mA.length; omega
    have l2 : (pts b).length ≤ 20000 := by have := mB.length; omega
    have HT : Hid (∀ (w1 : World) (P1 : Nat → Prop) (v1 : Value), RdI w1 P1 v1 (pts a ++ pts b) → Calls Try.prog 35 #[v1] w1 (NewR w1 (join a b))) := fun w1 P1 v1 h => by
      have := text_any h (fun x hx => (List.mem_append.1 hx).elim (may_codes mA x) (may_codes mB x)) (by rw [List.length_append]; omega)
      rwa [rle_join mA.canon mB.canon] at this
    have HLn : Hid ((pts a).length + (pts b).length ≤ 1000000000000) := by show _ ≤ _; omega
    clear h1 h2 mA mB z1 z2 za zb
    generalize join a b = r at *
    generalize pts a = l at *
    generalize pts b = m at *
    clear l1 l2
    go_enter Try.func24, Try.ntmps24
    go_wp2_with fail
    refine M1.out.mono ?_
    rintro e w1 ⟨rfl, hb⟩
    have HB1 := Lib.hid hb
    clear hb
    go_wp2_with fail
    refine (M2.out _ HB1.out).mono ?_
    rintro e w2 ⟨rfl, hb⟩
    have HB2 := Lib.hid (HB1.out.trans (hb.mono HB1.out.size))
    clear hb
    go_wp2_with fail
    refine (P1.out _ HB2.out).mono ?_
    rintro e w3 ⟨la, lc, rfl, ho, hb⟩
    have HB3 := Lib.hid (HB2.out.trans (hb.mono HB2.out.size))
    have HO3 := Lib.hid ho
    have Z3 := Lib.hid hb.size
    clear hb ho
    go_wp2_with fail
    refine (P2.out _ HB3.out).mono ?_
    rintro e w4 ⟨ma, mc, rfl, ho, hb⟩
    have HB4 := Lib.hid (HB3.out.trans (hb.mono HB3.out.size))
    have HO4 := Lib.hid (HO3.out.below hb)
    have HM4 := Lib.hid ho.rd
    have HZ : Hid (w2.heap.size ≤ w4.heap.size) := Nat.le_trans Z3.out hb.size
    clear hb ho
    go_wp2_with (at_builtin; refine iapp_wp rfl (.tmp 19) (.tmp 21) rfl w2.heap.size (.slice la l.length lc) _ rfl rfl HO4.out HM4.out HLn.out HZ.out ?_; intro r3 n3 c3 w5 hn3 ho3 hg3 hl3; replace hn3 := Lib.hid hn3)
    have HB5 : Hid (Below w.heap.size w w5) := HB4.out.grown hg3 HB4.out.size (fun k e => Nat.le_trans HB2.out.size (HO4.out.lt e).2)
    refine (HT.out _ _ _ ho3.rd).mono ?_
    rintro e w6 ⟨ra, rc, rfl, hr, hb⟩
    have HB6 := Lib.hid (HB5.out.trans (hb.mono HB5.out.size))
    have HR6 : Hid (Rr w6 (fun k => w.heap.size ≤ k) (.slice ra r.length rc) r) := hr.mono fun k _ e => Nat.le_trans HB5.out.size e
    clear hr hb ho3 hg3 hl3
    go_wp2_with fail
    go_ret2
    exact ⟨ra, rc, rfl, HR6.out, HB6.out⟩
  · rw [rconcatR, if_neg hm]
    clear za zb
    cases h1 : may a <;> cases h2 : may b <;> simp only [h1] at M1 <;> simp only [h2] at M2
    case true.true => exact absurd ⟨h1, h2⟩ hm
    all_goals
      clear hm h1 h2
      go_enter Try.func24, Try.ntmps24
      go_wp2_with fail
      refine M1.out.mono ?_
      rintro e w1 ⟨rfl, hb⟩
      have HB1 := Lib.hid hb
      clear hb
      go_wp2_with fail
      refine (M2.out _ HB1.out).mono ?_
      rintro e w2 ⟨rfl, hb⟩
      have HB2 := Lib.hid (HB1.out.trans (hb.mono HB1.out.size))
      clear hb
      go_wp2_with fail
      go_ret2
      exact newRE_nil 1 HB2.out

set_option maxHeartbeats 4000000 in
theorem rprefix_any {w : World} {P Q : Nat → Prop} {va vb : Value} {a b : List Run} (ha : Rr w P va a) (hb : Rr w Q vb b) (za : may a = true → sz a ≤ 20000) (zb : may b = true → sz b ≤ 20000) :
    Calls Try.prog 28 #[va, vb] w fun e w' => e = .returned (.bool (prefixR a b)) ∧ Below w.heap.size w w' := by
  have HA := Lib.hid ha
  have HB := Lib.hid hb
  have M1 := Lib.hid (rmay_any ha)
  have M2 := Lib.hid fun (w1 : World) (h : Below w.heap.size w w1) => rmay_any (HB.out.below h)
  obtain ⟨aa, ca, rfl, _⟩ := ha.shape
  obtain ⟨ab, cb, rfl, _⟩ := hb.shape
  clear ha hb
  by_cases hm : may a = true ∧ may b = true
  · obtain ⟨h1, h2⟩ := hm
    have mA := may_iff.1 h1
    have mB := may_iff.1 h2
    have z1 := za h1
    have z2 := zb h2
    rw [h1] at M1
    simp only [h2] at M2
    rw [prefix_rst mA mB]
    have P1 := Lib.hid fun (w1 : World) (h : Below w.heap.size w w1) => points_any (HA.out.below h) mA (by omega)
    have P2 := Lib.hid fun (w1 : World) (h : Below w.heap.size w w1) => points_any (HB.out.below h) mB (by omega)
    have l1 : (pts a).length ≤ 20000 := by have := mA.length; omega
    have l2 : (pts b).length ≤ 20000 := by have := mB.length; omega
    have RS : Hid (∀ (w1 : World) (P1 P2 : Nat → Prop) (v1 v2 : Value), RdI w1 P1 v1 (pts b) → RdI w1 P2 v2 (pts a) → Calls Try.prog 43 #[v1, v2, .int .i64 0] w1 fun e w' => e = .returned (.bool (rst (pts b) (pts a) 0)) ∧ Below w1.heap.size w1 w') := fun w1 P1 P2 v1 v2 h1 h2 => rstands_any h1 h2 0 (by omega) (by omega) (by omega)
    clear h1 h2 mA mB z1 z2 za zb l1 l2
    generalize rst (pts b) (pts a) 0 = r at *
    generalize pts a = l at *
    generalize pts b = m at *
    go_enter Try.func28, Try.ntmps28
    go_wp2_with fail
    refine M1.out.mono ?_
    rintro e w1 ⟨rfl, hb⟩
    have HB1 := Lib.hid hb
    clear hb
    go_wp2_with fail
    refine (M2.out _ HB1.out).mono ?_
    rintro e w2 ⟨rfl, hb⟩
    have HB2 := Lib.hid (HB1.out.trans (hb.mono HB1.out.size))
    clear hb
    go_wp2_with fail
    refine (P2.out _ HB2.out).mono ?_
    rintro e w3 ⟨la, lc, rfl, ho, hb⟩
    have HB3 := Lib.hid (HB2.out.trans (hb.mono HB2.out.size))
    have HL3 := Lib.hid ho.rd
    clear hb ho
    go_wp2_with fail
    refine (P1.out _ HB3.out).mono ?_
    rintro e w4 ⟨ma, mc, rfl, ho, hb⟩
    have HB4 := Lib.hid (HB3.out.trans (hb.mono HB3.out.size))
    have HL4 := Lib.hid (HL3.out.below hb)
    have HM4 := Lib.hid ho.rd
    clear hb ho
    go_wp2_with fail
    refine (RS.out _ _ _ _ _ HL4.out HM4.out).mono ?_
    rintro e w5 ⟨rfl, hb⟩
    have HB5 := Lib.hid (HB4.out.trans (hb.mono HB4.out.size))
    clear hb
    go_wp2_with fail
    go_ret
    exact ⟨rfl, HB5.out⟩
  · have hr : prefixR a b = false := by
      cases h1 : may a <;> cases h2 : may b <;> simp [prefixR, h1, h2]
      exact absurd ⟨h1, h2⟩ hm
    rw [hr]
    clear za zb hr
    cases h1 : may a <;> cases h2 : may b <;> simp only [h1] at M1 <;> simp only [h2] at M2
    case true.true => exact absurd ⟨h1, h2⟩ hm
    all_goals
      clear hm h1 h2
      go_enter Try.func28, Try.ntmps28
      go_wp2_with fail
      refine M1.out.mono ?_
      rintro e w1 ⟨rfl, hb⟩
      have HB1 := Lib.hid hb
      clear hb
      go_wp2_with fail
      refine (M2.out _ HB1.out).mono ?_
      rintro e w2 ⟨rfl, hb⟩
      have HB2 := Lib.hid (HB1.out.trans (hb.mono HB1.out.size))
      clear hb
      go_wp2_with fail
      go_ret
      exact ⟨rfl, HB2.out⟩

set_option maxHeartbeats 4000000 in
theorem rsuffix_any {w : World} {P Q : Nat → Prop} {va vb : Value} {a b : List Run} (ha : Rr w P va a) (hb : Rr w Q vb b) (za : may a = true → sz a ≤ 20000) (zb : may b = true → sz b ≤ 20000) :
    Calls Try.prog 30 #[va, vb] w fun e w' => e = .returned (.bool (suffixR a b)) ∧ Below w.heap.size w w' := by
  have HA := Lib.hid ha
  have HB := Lib.hid hb
  have M1 := Lib.hid (rmay_any ha)
  have M2 := Lib.hid fun (w1 : World) (h : Below w.heap.size w w1) => rmay_any (HB.out.below h)
  obtain ⟨aa, ca, rfl, _⟩ := ha.shape
  obtain ⟨ab, cb, rfl, _⟩ := hb.shape
  clear ha hb
  by_cases hm : may a = true ∧ may b = true
  · obtain ⟨h1, h2⟩ := hm
    have mA := may_iff.1 h1
    have mB := may_iff.1 h2
    have z1 := za h1
    have z2 := zb h2
    rw [h1] at M1
    simp only [h2] at M2
    rw [suffix_rst mA mB]
    have P1 := Lib.hid fun (w1 : World) (h : Below w.heap.size w w1) => points_any (HA.out.below h) mA (by omega)
    have P2 := Lib.hid fun (w1 : World) (h : Below w.heap.size w w1) => points_any (HB.out.below h) mB (by omega)
    have l1 : (pts a).length ≤ 20000 := by have := mA.length; omega
    have l2 : (pts b).length ≤ 20000 := by have := mB.length; omega
    have RS : Hid (∀ (w1 : World) (P1 P2 : Nat → Prop) (v1 v2 : Value), RdI w1 P1 v1 (pts b) → RdI w1 P2 v2 (pts a) → Calls Try.prog 43 #[v1, v2, .int .i64 (((pts b).length : Int) - ((pts a).length : Int))] w1 fun e w' => e = .returned (.bool (rst (pts b) (pts a) (((pts b).length : Int) - ((pts a).length : Int)))) ∧ Below w1.heap.size w1 w') := fun w1 P1 P2 v1 v2 h1 h2 => rstands_any h1 h2 _ (by omega) (by omega) (by omega)
    have j1 : IntKind.i64.wrap (((pts b).length : Int) - ((pts a).length : Int)) = ((pts b).length : Int) - ((pts a).length : Int) := IntWalk.i64_in _ (by omega)
    clear h1 h2 mA mB z1 z2 za zb l1 l2
    generalize rst (pts b) (pts a) (((pts b).length : Int) - ((pts a).length : Int)) = r at *
    generalize pts a = l at *
    generalize pts b = m at *
    go_enter Try.func30, Try.ntmps30
    go_wp2_with fail
    refine M1.out.mono ?_
    rintro e w1 ⟨rfl, hb⟩
    have HB1 := Lib.hid hb
    clear hb
    go_wp2_with fail
    refine (M2.out _ HB1.out).mono ?_
    rintro e w2 ⟨rfl, hb⟩
    have HB2 := Lib.hid (HB1.out.trans (hb.mono HB1.out.size))
    clear hb
    go_wp2_with fail
    refine (P2.out _ HB2.out).mono ?_
    rintro e w3 ⟨la, lc, rfl, ho, hb⟩
    have HB3 := Lib.hid (HB2.out.trans (hb.mono HB2.out.size))
    have HL3 := Lib.hid ho.rd
    clear hb ho
    go_wp2_with fail
    refine (P1.out _ HB3.out).mono ?_
    rintro e w4 ⟨ma, mc, rfl, ho, hb⟩
    have HB4 := Lib.hid (HB3.out.trans (hb.mono HB3.out.size))
    have HL4 := Lib.hid (HL3.out.below hb)
    have HM4 := Lib.hid ho.rd
    clear hb ho
    go_wp2_with fail
    refine (RS.out _ _ _ _ _ HL4.out HM4.out).mono ?_
    rintro e w5 ⟨rfl, hb⟩
    have HB5 := Lib.hid (HB4.out.trans (hb.mono HB4.out.size))
    clear hb
    go_wp2_with fail
    go_ret
    exact ⟨rfl, HB5.out⟩
  · have hr : suffixR a b = false := by
      cases h1 : may a <;> cases h2 : may b <;> simp [suffixR, h1, h2]
      exact absurd ⟨h1, h2⟩ hm
    rw [hr]
    clear za zb hr
    cases h1 : may a <;> cases h2 : may b <;> simp only [h1] at M1 <;> simp only [h2] at M2
    case true.true => exact absurd ⟨h1, h2⟩ hm
    all_goals
      clear hm h1 h2
      go_enter Try.func30, Try.ntmps30
      go_wp2_with fail
      refine M1.out.mono ?_
      rintro e w1 ⟨rfl, hb⟩
      have HB1 := Lib.hid hb
      clear hb
      go_wp2_with fail
      refine (M2.out _ HB1.out).mono ?_
      rintro e w2 ⟨rfl, hb⟩
      have HB2 := Lib.hid (HB1.out.trans (hb.mono HB1.out.size))
      clear hb
      go_wp2_with fail
      go_ret
      exact ⟨rfl, HB2.out⟩
end Go.Proofs.Ytdjapppfjpgidaa
