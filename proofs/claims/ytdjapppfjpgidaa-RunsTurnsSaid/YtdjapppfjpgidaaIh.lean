/- The reference's Replace. -/
import Derived.Test.YtdjapppfjpgidaaIg
namespace Go.Proofs.Ytdjapppfjpgidaa
open Go.RowKit

/-- The reference's Replace. -/
def rreplaceR (s t u : List Run) : List Run × Int :=
  if may s = true ∧ may t = true ∧ may u = true then
    (if indexR s t 0 < 0 then (s, 0) else (join (join (substr s 0 (indexR s t 0)) u) (substr s (indexR s t 0 + sz t) (sz s)), 0))
  else ([], 1)
/-- Runs and an error's number are answered. -/
def OldRE (w : World) (r : List Run × Int) (e : Ending) (w' : World) : Prop := ∃ a c, e = .returned (.tuple #[.slice a r.1.length c, .int .i64 r.2]) ∧ Rr w' (fun _ => True) (.slice a r.1.length c) r.1 ∧ Below w.heap.size w w'
theorem RdI.init {w : World} {P : Nat → Prop} {g o n c : Nat} {xs : List Int} (h : RdI w P (.slice (some ⟨g, o, none⟩) n c) xs) {k : Nat} (hk : k ≤ n) : RdI w P (.slice (some ⟨g, o, none⟩) k c) (xs.take k) := by
  have := h.sub (i := 0) (m := k) (by omega)
  simpa using this
theorem RdI.tail {w : World} {P : Nat → Prop} {g o n c : Nat} {xs : List Int} (h : RdI w P (.slice (some ⟨g, o, none⟩) n c) xs) {k : Nat} (hk : k ≤ n) : RdI w P (.slice (some ⟨g, o + k, none⟩) (n - k) (c - k)) (xs.drop k) := by
  have := h.sub (i := k) (m := n - k) (by omega)
  rwa [List.take_of_length_le (by rw [List.length_drop, ← h.len.1]; exact Nat.le_refl _)] at this
theorem RdI.empty (w : World) (P : Nat → Prop) (g o c : Nat) : RdI w P (.slice (some ⟨g, o, none⟩) 0 c) [] := ⟨_, c, rfl, by simp, by simp, fun i hi => by simp at hi⟩
theorem rle_replace {s t u : List Run} (hs : May s) (ht : May t) (hu : May u) {k : Nat} (_hk : k + (pts t).length ≤ (pts s).length) :
    rle ((pts s).take k ++ pts u ++ (pts s).drop (k + (pts t).length)) = join (join (substr s 0 k) u) (substr s (k + sz t) (sz s)) := by
  have h1 := may_substr hs 0 k
  have h2 := may_substr hs (k + sz t) (sz s)
  have c1 := canon_join h1.canon hu.canon
  have hl := ht.length
  have hl2 := hs.length
  have e : pts (join (join (substr s 0 k) u) (substr s (k + sz t) (sz s))) = (pts s).take k ++ pts u ++ (pts s).drop (k + (pts t).length) := by
    have e1 := pts_substr hs (i := 0) (m := k) (Int.le_refl 0)
    have e2 := pts_substr hs (i := k + sz t) (m := sz s) (by omega)
    rw [List.take_of_length_le (by rw [List.length_drop]; omega)] at e2
    have e3 : ((k : Int) + sz t).toNat = k + (pts t).length := by omega
    rw [e3] at e2
    simp only [Int.toNat_zero, List.drop_zero, Int.toNat_natCast] at e1
    rw [pts_join c1.nonneg h2.canon.nonneg, pts_join h1.canon.nonneg hu.canon.nonneg, e1, e2]
  rw [← e, rle_pts (canon_join c1 h2.canon)]

set_option maxHeartbeats 4000000 in
theorem rreplace_no {w : World} {P Q R : Nat → Prop} {va vb vc : Value} {s t u : List Run} (ha : Rr w P va s) (hb : Rr w Q vb t) (hc : Rr w R vc u) (hm : ¬ (may s = true ∧ may t = true ∧ may u = true)) :
    Calls Try.prog 26 #[va, vb, vc] w (OldRE w ([], 1)) := by
  have HB := Lib.hid hb
  have HC := Lib.hid hc
  have M1 := Lib.hid (rmay_any ha)
  have M2 := Lib.hid fun (w1 : World) (h : Below w.heap.size w w1) => rmay_any (HB.out.below h)
  have M3 := Lib.hid fun (w1 : World) (h : Below w.heap.size w w1) => rmay_any (HC.out.below h)
  obtain ⟨aa, ca, rfl, _⟩ := ha.shape
  obtain ⟨ab, cb, rfl, _⟩ := hb.shape
  obtain ⟨ac, cc, rfl, _⟩ := hc.shape
  clear ha hb hc
  cases h1 : may s <;> cases h2 : may t <;> cases h3 : may u <;> simp only [h1] at M1 <;> simp only [h2] at M2 <;> simp only [h3] at M3
  case true.true.true => exact absurd ⟨h1, h2, h3⟩ hm
  all_goals
    clear hm h1 h2 h3
    go_enter Try.func26, Try.ntmps26
    go_wp2_with fail
    refine M1.out.mono ?_
    rintro e w1 ⟨rfl, hb⟩
    have HB1 := Lib.hid hb
    clear hb
    go_wp2_with fail
    refine (M2.out _ HB1.out).mono ?_
    rintro e w2 ⟨rfl, hb⟩
    have HB2 := Lib.hid (HB1.out.trans (hb.mono HB1.out.size))
    clear hb
    go_wp2_with fail
    refine (M3.out _ HB2.out).mono ?_
    rintro e w3 ⟨rfl, hb⟩
    have HB3 := Lib.hid (HB2.out.trans (hb.mono HB2.out.size))
    clear hb
    go_wp2_with fail
    go_ret2
    exact ⟨none, 0, rfl, Rr.nil _ _, HB3.out⟩

set_option maxHeartbeats 8000000 in
theorem rreplace_any {w : World} {P Q R : Nat → Prop} {va vb vc : Value} {s t u : List Run} (ha : Rr w P va s) (hb : Rr w Q vb t) (hc : Rr w R vc u) (za : may s = true → sz s ≤ 10000) (zb : may t = true → sz t ≤ 10000) (zc : may u = true → sz u ≤ 10000) :
    Calls Try.prog 26 #[va, vb, vc] w (OldRE w (rreplaceR s t u)) := by
  by_cases hm : may s = true ∧ may t = true ∧ may u = true
  · rw [rreplaceR, if_pos hm]
    obtain ⟨h1, h2, h3⟩ := hm
    have HA := Lib.hid ha
    have HB := Lib.hid hb
    have HC := Lib.hid hc
    have mS := may_iff.1 h1
    have mT := may_iff.1 h2
    have mU := may_iff.1 h3
    have z1 := za h1
    have z2 := zb h2
    have z3 := zc h3
    have M1 := Lib.hid (rmay_any ha)
    have M2 := Lib.hid fun (w1 : World) (h : Below w.heap.size w w1) => rmay_any (HB.out.below h)
    have M3 := Lib.hid fun (w1 : World) (h : Below w.heap.size w w1) => rmay_any (HC.out.below h)
    rw [h1] at M1
    simp only [h2] at M2
    simp only [h3] at M3
    have IX := Lib.hid fun (w1 : World) (h : Below w.heap.size w w1) => rindex_any (HA.out.below h) (HB.out.below h) (fun _ => by omega) (fun _ => by omega) 0 (by omega)
    have P1 := Lib.hid fun (w1 : World) (h : Below w.heap.size w w1) => points_any (HA.out.below h) mS (by omega)
    have P2 := Lib.hid fun (w1 : World) (h : Below w.heap.size w w1) => points_any (HB.out.below h) mT (by omega)
    have P3 := Lib.hid fun (w1 : World) (h : Below w.heap.size w w1) => points_any (HC.out.below h) mU (by omega)
    have l1 : (pts s).length ≤ 10000 := by have := mS.length; omega
    have l2 : (pts t).length ≤ 10000 := by have := mT.length; omega
    have l3 : (pts u).length ≤ 10000 := by have := mU.length; omega
    obtain ⟨aa, ca, rfl, _⟩ := ha.shape
    obtain ⟨ab, cb, rfl, _⟩ := hb.shape
    obtain ⟨ac, cc, rfl, _⟩ := hc.shape
    rcases index_spec mS mT (i := 0) (Int.le_refl 0) with ⟨hk, _⟩ | ⟨k, hk, _, hkl, _⟩
    · rw [hk] at IX ⊢
      rw [if_pos (by omega)]
      clear ha hb hc h1 h2 h3 mS mT mU z1 z2 z3 za zb zc hk
      generalize pts s = l at *
      clear l1 l2 l3 P2 P3
      go_enter Try.func26, Try.ntmps26
      go_wp2_with fail
      refine M1.out.mono ?_
      rintro e w1 ⟨rfl, hb⟩
      have HB1 := Lib.hid hb
      clear hb
      go_wp2_with fail
      refine (M2.out _ HB1.out).mono ?_
      rintro e w2 ⟨rfl, hb⟩
      have HB2 := Lib.hid (HB1.out.trans (hb.mono HB1.out.size))
      clear hb
      go_wp2_with fail
      refine (M3.out _ HB2.out).mono ?_
      rintro e w3 ⟨rfl, hb⟩
      have HB3 := Lib.hid (HB2.out.trans (hb.mono HB2.out.size))
      clear hb
      go_wp2_with fail
      refine (P1.out _ HB3.out).mono ?_
      rintro e w4 ⟨la, lc, rfl, ho, hb⟩
      have HB4 := Lib.hid (HB3.out.trans (hb.mono HB3.out.size))
      clear hb ho
      go_wp2_with fail
      refine (IX.out _ HB4.out).mono ?_
      rintro e w5 ⟨rfl, hb⟩
      have HB5 := Lib.hid (HB4.out.trans (hb.mono HB4.out.size))
      clear hb
      go_wp2_with fail
      go_ret2
      exact ⟨aa, ca, rfl, (HA.out.below HB5.out).mono fun _ _ _ => trivial, HB5.out⟩
    · rw [hk] at IX ⊢
      rw [if_neg (by omega)]
      have HE := rle_replace mS mT mU hkl
      have HT : Hid (∀ (w1 : World) (P1 : Nat → Prop) (v1 : Value), RdI w1 P1 v1 ((pts s).take k ++ pts u ++ (pts s).drop (k + (pts t).length)) → Calls Try.prog 35 #[v1] w1 (NewR w1 (join (join (substr s 0 k) u) (substr s (k + sz t) (sz s))))) := fun w1 P1 v1 h => by
        have := text_any h (fun x hx => (List.mem_append.1 hx).elim (fun hx => (List.mem_append.1 hx).elim (fun hx => may_codes mS x (List.mem_of_mem_take hx)) (may_codes mU x)) (fun hx => may_codes mS x (List.mem_of_mem_drop hx))) (by simp only [List.length_append, List.length_take, List.length_drop]; omega)
        rwa [HE] at this
      clear ha hb hc h1 h2 h3 mS mT mU z1 z2 z3 za zb zc hk HE
      generalize join (join (substr s 0 k) u) (substr s (k + sz t) (sz s)) = r at *
      generalize pts s = l at *
      generalize pts t = m at *
      generalize pts u = v at *
      generalize hx : l.length = x at *
      generalize hy : m.length = y at *
      have HX := Lib.hid (And.intro hx hy)
      clear hx hy
      obtain ⟨d, hd⟩ : ∃ d, d = k + y := ⟨_, rfl⟩
      rw [← hd] at hkl HT
      have j1 : IntKind.i64.wrap ((k : Int) + (y : Int)) = (d : Int) := by rw [IntWalk.i64_in _ (by omega)]; omega
      have k9 : k ≤ d := by omega
      have HD0 := Lib.hid hd
      clear hd
      go_enter Try.func26, Try.ntmps26
      go_wp2_with fail
      refine M1.out.mono ?_
      rintro e w1 ⟨rfl, hb⟩
      have HB1 := Lib.hid hb
      clear hb
      go_wp2_with fail
      refine (M2.out _ HB1.out).mono ?_
      rintro e w2 ⟨rfl, hb⟩
      have HB2 := Lib.hid (HB1.out.trans (hb.mono HB1.out.size))
      clear hb
      go_wp2_with fail
      refine (M3.out _ HB2.out).mono ?_
      rintro e w3 ⟨rfl, hb⟩
      have HB3 := Lib.hid (HB2.out.trans (hb.mono HB2.out.size))
      clear hb
      go_wp2_with fail
      refine (P1.out _ HB3.out).mono ?_
      rintro e w4 ⟨la, lc, rfl, ho, hb⟩
      have HB4 := Lib.hid (HB3.out.trans (hb.mono HB3.out.size))
      have HL4 := Lib.hid ho.rd
      have HOc := Lib.hid ho.cases
      clear hb ho
      rw [HX.out.1] at HL4 ⊢
      go_wp2_with fail
      refine (IX.out _ HB4.out).mono ?_
      rintro e w5 ⟨rfl, hb⟩
      have HB5 := Lib.hid (HB4.out.trans (hb.mono HB4.out.size))
      have HL5 := Lib.hid (HL4.out.below hb)
      clear hb HL4
      rcases HOc.out with ⟨e1, e2⟩ | ⟨g, cap, cur, e1, _, _, hcap, _⟩
      · subst e2
        have hx0 := HX.out.1
        have hx1 : x = 0 := by simpa using hx0.symm
        clear hx0
        obtain ⟨rfl, rfl⟩ : la = none ∧ lc = 0 := by injection e1 with a b c; exact ⟨a, c⟩
        obtain rfl : d = 0 := by omega
        obtain rfl : k = 0 := by omega
        obtain rfl : y = 0 := by have := HD0.out; omega
        subst hx1
        have HT1 : Hid (RdI w5 (fun _ => True) (.slice none 0 0) (([] : List Int).take 0)) := RdI.nil _ _
        have HLn1 : Hid (([] : List Int).length + (([] : List Int).take 0).length ≤ 1000000000000) := by show _ ≤ _; simp
        have HN0 := Lib.hid (OwnI.nil w5 w5.heap.size)
        have HZ5 : Hid (w5.heap.size ≤ w5.heap.size) := Nat.le_refl _
        clear e1 HOc
        go_wp2_with (at_builtin; refine iapp_wp rfl (.const (.slice none 0 0)) (.tmp 40) rfl w5.heap.size (.slice none 0 0) _ rfl rfl HN0.out HT1.out HLn1.out HZ5.out ?_; intro r3 n3 c3 w6 hn3 ho3 hg3 hl3; replace hn3 := Lib.hid hn3; replace ho3 := Lib.hid ho3; replace hg3 := Lib.hid hg3; clear hl3)
        have D6 : Hid (Below w5.heap.size w5 w6) := (Below.refl _ _).grown hg3.out (Nat.le_refl _) (fun k e => by simp [Value.ownBlock] at e)
        have HB6 := Lib.hid (HB5.out.trans (D6.out.mono HB5.out.size))
        refine (P3.out _ HB6.out).mono ?_
        rintro e w7 ⟨va, vd, rfl, ho, hb⟩
        have D7 := Lib.hid (D6.out.trans (hb.mono D6.out.size))
        have HO7 := Lib.hid (ho3.out.below hb)
        have HV7 := Lib.hid ho.rd
        have Z7 := Lib.hid D7.out.size
        clear hb ho
        have HLn2 : Hid (([] ++ ([] : List Int).take 0).length + v.length ≤ 1000000000000) := by show _ ≤ _; simp; omega
        go_wp2_with (at_builtin; refine iapp_wp rfl (.tmp 42) (.tmp 44) rfl w5.heap.size (.slice r3 n3 c3) _ rfl rfl HO7.out HV7.out HLn2.out Z7.out ?_; intro r4 n4 c4 w8 hn4 ho4 hg4 hl4; replace hn4 := Lib.hid hn4; replace ho4 := Lib.hid ho4; replace hg4 := Lib.hid hg4; clear hl4)
        have D8 : Hid (Below w5.heap.size w5 w8) := D7.out.grown hg4.out D7.out.size (fun k e => (HO7.out.lt e).2)
        have HB8 := Lib.hid (HB5.out.trans (D8.out.mono HB5.out.size))
        refine (P2.out _ HB8.out).mono ?_
        rintro e w9 ⟨ma, mc, rfl, ho, hb⟩
        have D9 := Lib.hid (D8.out.trans (hb.mono D8.out.size))
        have HO9 := Lib.hid (ho4.out.below hb)
        have HL9 := Lib.hid (HL5.out.below D9.out)
        have Z9 := Lib.hid D9.out.size
        clear hb ho
        rw [HX.out.2]
        have HLn3 : Hid (([] ++ ([] : List Int).take 0 ++ v).length + (([] : List Int).drop 0).length ≤ 1000000000000) := by show _ ≤ _; simp; omega
        have HSrc : Hid (RdI w9 (fun _ => True) (.slice none 0 0) (([] : List Int).drop 0)) := RdI.nil _ _
        go_wp2_with (at_builtin; refine iapp_wp rfl (.tmp 46) (.tmp 53) rfl w5.heap.size (.slice r4 n4 c4) _ rfl rfl HO9.out HSrc.out HLn3.out Z9.out ?_; intro r5 n5 c5 w10 hn5 ho5 hg5 hl5; replace hn5 := Lib.hid hn5; replace ho5 := Lib.hid ho5; replace hg5 := Lib.hid hg5; clear hl5)
        have D10 : Hid (Below w5.heap.size w5 w10) := D9.out.grown hg5.out D9.out.size (fun k e => (HO9.out.lt e).2)
        have HB10 := Lib.hid (HB5.out.trans (D10.out.mono HB5.out.size))
        refine (HT.out _ _ _ ho5.out.rd).mono ?_
        rintro e w11 ⟨ra, rc, rfl, hr, hb⟩
        have HB11 := Lib.hid (HB10.out.trans (hb.mono HB10.out.size))
        have HR11 : Hid (Rr w11 (fun _ => True) (.slice ra r.length rc) r) := hr.mono fun _ _ _ => trivial
        clear hr hb
        go_wp2_with fail
        go_ret2
        exact ⟨ra, rc, rfl, HR11.out, HB11.out⟩
      · obtain ⟨rfl, rfl⟩ : la = some ⟨g, 0, none⟩ ∧ lc = cap := by injection e1 with e1 _ e3; exact ⟨e1, e3⟩
        rw [HX.out.1] at hcap
        have k1 : k ≤ lc := by omega
        have k2 : k ≤ x := by omega
        have HT1 := Lib.hid (HL5.out.init k2)
        have HLn1 : Hid (([] : List Int).length + (l.take k).length ≤ 1000000000000) := by show _ ≤ _; simp; omega
        have HN0 := Lib.hid (OwnI.nil w5 w5.heap.size)
        have HZ5 : Hid (w5.heap.size ≤ w5.heap.size) := Nat.le_refl _
        clear e1 HOc
        go_wp2_with (at_builtin; refine iapp_wp rfl (.const (.slice none 0 0)) (.tmp 40) rfl w5.heap.size (.slice none 0 0) _ rfl rfl HN0.out HT1.out HLn1.out HZ5.out ?_; intro r3 n3 c3 w6 hn3 ho3 hg3 hl3; replace hn3 := Lib.hid hn3; replace ho3 := Lib.hid ho3; replace hg3 := Lib.hid hg3; clear hl3)
        have D6 : Hid (Below w5.heap.size w5 w6) := (Below.refl _ _).grown hg3.out (Nat.le_refl _) (fun k e => by simp [Value.ownBlock] at e)
        have HB6 := Lib.hid (HB5.out.trans (D6.out.mono HB5.out.size))
        refine (P3.out _ HB6.out).mono ?_
        rintro e w7 ⟨va, vd, rfl, ho, hb⟩
        have D7 := Lib.hid (D6.out.trans (hb.mono D6.out.size))
        have HO7 := Lib.hid (ho3.out.below hb)
        have HV7 := Lib.hid ho.rd
        have Z7 := Lib.hid D7.out.size
        clear hb ho
        have HLn2 : Hid (([] ++ l.take k).length + v.length ≤ 1000000000000) := by show _ ≤ _; simp; omega
        go_wp2_with (at_builtin; refine iapp_wp rfl (.tmp 42) (.tmp 44) rfl w5.heap.size (.slice r3 n3 c3) _ rfl rfl HO7.out HV7.out HLn2.out Z7.out ?_; intro r4 n4 c4 w8 hn4 ho4 hg4 hl4; replace hn4 := Lib.hid hn4; replace ho4 := Lib.hid ho4; replace hg4 := Lib.hid hg4; clear hl4)
        have D8 : Hid (Below w5.heap.size w5 w8) := D7.out.grown hg4.out D7.out.size (fun k e => (HO7.out.lt e).2)
        have HB8 := Lib.hid (HB5.out.trans (D8.out.mono HB5.out.size))
        refine (P2.out _ HB8.out).mono ?_
        rintro e w9 ⟨ma, mc, rfl, ho, hb⟩
        have D9 := Lib.hid (D8.out.trans (hb.mono D8.out.size))
        have HO9 := Lib.hid (ho4.out.below hb)
        have HL9 := Lib.hid (HL5.out.below D9.out)
        have Z9 := Lib.hid D9.out.size
        clear hb ho
        rw [HX.out.2]
        have HLn3 : Hid (([] ++ l.take k ++ v).length + (l.drop d).length ≤ 1000000000000) := by show _ ≤ _; have := HX.out.1; simp; omega
        have q1 : d ≤ lc := by omega
        have q2 : d ≤ x := by omega
        have q0 : x ≤ lc := hcap
        have q5 : (x : Int) ≤ 9223372036854775807 := by omega
        by_cases hdc : lc = d
        · have HD : Hid (l.drop d = []) := by show _ = _; exact List.drop_eq_nil_of_le (by rw [HX.out.1]; omega)
          have hxd : x = d := by omega
          have HSrc := Lib.hid (RdI.empty w9 (fun _ => True) g 0 0)
          rw [HD.out] at HLn3 HT
          clear HL9
          subst hxd
          subst hdc
          go_wp2_with (at_builtin; refine iapp_wp rfl (.tmp 46) (.tmp 53) rfl w5.heap.size (.slice r4 n4 c4) _ rfl rfl HO9.out HSrc.out HLn3.out Z9.out ?_; intro r5 n5 c5 w10 hn5 ho5 hg5 hl5; replace hn5 := Lib.hid hn5; replace ho5 := Lib.hid ho5; replace hg5 := Lib.hid hg5; clear hl5)
          have D10 : Hid (Below w5.heap.size w5 w10) := D9.out.grown hg5.out D9.out.size (fun k e => (HO9.out.lt e).2)
          have HB10 := Lib.hid (HB5.out.trans (D10.out.mono HB5.out.size))
          refine (HT.out _ _ _ ho5.out.rd).mono ?_
          rintro e w11 ⟨ra, rc, rfl, hr, hb⟩
          have HB11 := Lib.hid (HB10.out.trans (hb.mono HB10.out.size))
          have HR11 : Hid (Rr w11 (fun _ => True) (.slice ra r.length rc) r) := hr.mono fun _ _ _ => trivial
          clear hr hb
          go_wp2_with fail
          go_ret2
          exact ⟨ra, rc, rfl, HR11.out, HB11.out⟩
        · have HSrc := Lib.hid (HL9.out.tail q2)
          simp only [Nat.zero_add] at HSrc
          go_wp2_with (at_builtin; refine iapp_wp rfl (.tmp 46) (.tmp 53) rfl w5.heap.size (.slice r4 n4 c4) _ rfl rfl HO9.out HSrc.out HLn3.out Z9.out ?_; intro r5 n5 c5 w10 hn5 ho5 hg5 hl5; replace hn5 := Lib.hid hn5; replace ho5 := Lib.hid ho5; replace hg5 := Lib.hid hg5; clear hl5)
          have D10 : Hid (Below w5.heap.size w5 w10) := D9.out.grown hg5.out D9.out.size (fun k e => (HO9.out.lt e).2)
          have HB10 := Lib.hid (HB5.out.trans (D10.out.mono HB5.out.size))
          refine (HT.out _ _ _ ho5.out.rd).mono ?_
          rintro e w11 ⟨ra, rc, rfl, hr, hb⟩
          have HB11 := Lib.hid (HB10.out.trans (hb.mono HB10.out.size))
          have HR11 : Hid (Rr w11 (fun _ => True) (.slice ra r.length rc) r) := hr.mono fun _ _ _ => trivial
          clear hr hb
          go_wp2_with fail
          go_ret2
          exact ⟨ra, rc, rfl, HR11.out, HB11.out⟩
  · rw [rreplaceR, if_neg hm]
    exact rreplace_no ha hb hc hm
end Go.Proofs.Ytdjapppfjpgidaa
