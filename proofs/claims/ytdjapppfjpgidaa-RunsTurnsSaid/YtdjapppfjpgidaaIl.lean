/- The walk of RunsTurns. -/
import Derived.Test.YtdjapppfjpgidaaIk
namespace Go.Proofs.Ytdjapppfjpgidaa
open Go.RowKit

theorem rconcat_len {a b : List Run} (la : a.length ≤ 300) (lb : b.length ≤ 300) : (rconcatR a b).1.length ≤ 600 := by
  unfold rconcatR
  split
  · have := join_len a b
    simp only
    omega
  · simp
theorem rreplace_len {s t u : List Run} (ls : s.length ≤ 300) (lu : u.length ≤ 300) : (rreplaceR s t u).1.length ≤ 1000 := by
  unfold rreplaceR
  split
  · split
    · simp only; omega
    · have h1 := join_len (substr s 0 (indexR s t 0)) u
      have h2 := join_len (join (substr s 0 (indexR s t 0)) u) (substr s (indexR s t 0 + sz t) (sz s))
      have h3 := substr_len s 0 (indexR s t 0)
      have h4 := substr_len s (indexR s t 0 + sz t) (sz s)
      simp only
      omega
  · simp

/-- One run's number is set to nought. -/
theorem zero_one {w : World} {B : Nat} {a : Option Addr} {n c : Nat} {xs : List Run} (h : Own2 w B (.slice a n c) xs) {k : Nat} (hk : k < n) :
    ∃ g z, a = some ⟨g, 0, none⟩ ∧ B ≤ g ∧ g < w.heap.size ∧ w.cell? ⟨g, k * 2 + 1, none⟩ = some (.int .i64 z) ∧ w.frozen? ⟨g, k * 2 + 1, none⟩ = false ∧
      ∃ ys, ys.length = xs.length ∧ Own2 (w.setCell ⟨g, k * 2 + 1, none⟩ (.int .i64 0)) B (.slice a n c) ys := by
  have hn : n = xs.length := h.rr.len.1
  rcases h.cases with ⟨e, h0⟩ | ⟨g, cap, cur, e, _⟩
  · rw [h0] at hn
    simp at hn
    omega
  · injection e with e1 _ _
    subst e1
    obtain ⟨_, _, _, h1, h2, h3, _, h4⟩ := h.cell
    have h5 := h3 (k * 2 + 1) (by omega)
    rw [(flat_get xs k (by omega)).2] at h5
    exact ⟨g, _, rfl, h1, h2, h5, h4 _, _, by simp, h.setN (by omega) 0⟩

set_option maxHeartbeats 8000000 in
theorem turns_all {w : World} {P Q R : Nat → Prop} {aa ab ac : Option Addr} {ca cb cc : Nat} {s t u : List Run} (hs : Rr w P (.slice aa s.length ca) s) (ht : Rr w Q (.slice ab t.length cb) t) (hu : Rr w R (.slice ac u.length cc) u) :
    Calls Try.prog 5 #[.slice aa s.length ca, .slice ab t.length cb, .slice ac u.length cc] w fun e w' => e = .returned (.bool true) ∧ Below w.heap.size w w' := by
  have HB0 : Hid (Below w.heap.size w w) := Below.refl _ _
  have HS := Lib.hid hs
  have HT := Lib.hid ht
  have HU := Lib.hid hu
  have SM := Lib.hid fun (w1 : World) (h : Below w.heap.size w w1) => small3_any (HS.out.below h) (HT.out.below h) (HU.out.below h)
  cases hsm : (smallR s 300 && (smallR t 300 && smallR u 300)) with
  | false =>
    simp only [hsm] at SM
    clear hs ht hu hsm
    go_enter Try.func5, Try.ntmps5
    go_wp2_with fail
    refine (awake_any _).mono ?_
    rintro e w1 ⟨rfl, hb⟩
    have HB1 := Lib.hid (HB0.out.trans (hb.mono HB0.out.size))
    clear hb HB0
    go_wp2_with fail
    refine (SM.out _ HB1.out).mono ?_
    rintro e w2 ⟨rfl, hb⟩
    have HB2 := Lib.hid (HB1.out.trans (hb.mono HB1.out.size))
    clear hb HB1
    go_wp2_with fail
    go_ret
    exact ⟨rfl, HB2.out⟩
  | true =>
    simp only [hsm] at SM
    obtain ⟨hsm1, hsm4⟩ := Bool.and_eq_true_iff.1 hsm
    obtain ⟨hsm2, hsm3⟩ := Bool.and_eq_true_iff.1 hsm4
    obtain ⟨l1, z1⟩ := small_of hsm1
    obtain ⟨l2, z2⟩ := small_of hsm2
    obtain ⟨l3, z3⟩ := small_of hsm3
    have CT : Hid (∀ w1, Below w.heap.size w w1 → Calls Try.prog 23 #[.slice aa s.length ca, .slice ab t.length cb] w1 (NewRO w1 (rconcatR s t))) := fun w1 h => by
      have := concat_own (HS.out.below h) (HT.out.below h); rwa [turns_concat l1 l2 z1 z2] at this
    have RP : Hid (∀ w1, Below w.heap.size w w1 → Calls Try.prog 25 #[.slice aa s.length ca, .slice ab t.length cb, .slice ac u.length cc] w1 (NewRO w1 (rreplaceR s t u))) := fun w1 h => by
      have := replace_own (HS.out.below h) (HT.out.below h) (HU.out.below h); rwa [turns_replace l1 l3 z1 z3] at this
    have RC : Hid (∀ (w1 : World) (P1 : Nat → Prop) (v1 : Value), Below w.heap.size w w1 → Rr w1 P1 v1 s → Calls Try.prog 24 #[v1, .slice ab t.length cb] w1 (NewRE w1 (rconcatR s t))) := fun w1 P1 v1 h h1 =>
      rconcat_any h1 (HT.out.below h) (fun h => by have := z1 h; omega) (fun h => by have := z2 h; omega)
    have RR : Hid (∀ (w1 : World) (P1 : Nat → Prop) (v1 : Value), Below w.heap.size w w1 → Rr w1 P1 v1 s → Calls Try.prog 26 #[v1, .slice ab t.length cb, .slice ac u.length cc] w1 (OldRE w1 (rreplaceR s t u))) := fun w1 P1 v1 h h1 =>
      rreplace_any h1 (HT.out.below h) (HU.out.below h) (fun h => by have := z1 h; omega) (fun h => by have := z2 h; omega) (fun h => by have := z3 h; omega)
    have q1 := rconcat_len l1 l2
    have q2 := rreplace_len (t := t) l1 l3
    have HLs : Hid (([] : List Run).length + s.length ≤ 1000000000000) := by show _ ≤ _; simp; omega
    have l0 : Hid (s.length ≤ 1000000000000) := by show _ ≤ _; omega
    clear hs ht hu hsm hsm1 hsm2 hsm3 hsm4 z1 z2 z3 l1 l2 l3
    generalize rconcatR s t = r1 at *
    generalize rreplaceR s t u = r2 at *
    obtain ⟨xs, e1⟩ := r1
    obtain ⟨ys, e2⟩ := r2
    simp only at q1 q2
    have Q1 : Hid (xs.length ≤ 1000000000000) := by show _ ≤ _; omega
    have Q2 : Hid (ys.length ≤ 1000000000000) := by show _ ≤ _; omega
    generalize hn1 : xs.length = n1 at *
    generalize hn2 : ys.length = n2 at *
    have HN := Lib.hid (And.intro hn1 hn2)
    clear hn1 hn2
    go_enter Try.func5, Try.ntmps5
    go_wp2_with fail
    refine (awake_any _).mono ?_
    rintro e w1 ⟨rfl, hb⟩
    have HB1 := Lib.hid hb
    clear hb
    go_wp2_with fail
    refine (SM.out _ HB1.out).mono ?_
    rintro e w2 ⟨rfl, hb⟩
    have HB2 := Lib.hid (HB1.out.trans (hb.mono HB1.out.size))
    clear hb
    have HS2 := Lib.hid (HS.out.below HB2.out)
    have HN0 := Lib.hid (Own2.nil w2 w2.heap.size)
    have HZ2 : Hid (w2.heap.size ≤ w2.heap.size) := Nat.le_refl _
    go_wp2_with (at_builtin; refine rapp_wp rfl (.const (.slice none 0 0)) (.tmp 35) rfl w2.heap.size (.slice none 0 0) _ rfl rfl HN0.out HS2.out HLs.out HZ2.out ?_; intro ro no co w3 hno hoo hgo hlo; replace hno := Lib.hid hno; replace hoo := Lib.hid hoo; replace hgo := Lib.hid hgo; clear hlo)
    have b23 : Below w2.heap.size w2 w3 := (Below.refl _ _).grown hgo.out (Nat.le_refl _) (fun k e => by simp [Value.ownBlock] at e)
    have HB3 := Lib.hid (HB2.out.trans (b23.mono HB2.out.size))
    have HO3 : Hid (Rr w3 (fun k => w2.heap.size ≤ k) (.slice ro no co) s) := by
      have := hoo.out.rr
      rwa [List.nil_append] at this
    clear b23 hgo hno hoo HN0 HZ2 HS2
    refine (CT.out _ HB3.out).mono ?_
    rintro e w4 ⟨xa, xc, rfl, hx, hb⟩
    have D4 := Lib.hid hb
    have X4 : Hid (Own2 w4 w3.heap.size (.slice xa n1 xc) xs) := by rw [← HN.out.1]; exact hx
    have HB4 := Lib.hid (HB3.out.trans (D4.out.mono HB3.out.size))
    rw [HN.out.1]
    clear hb hx
    go_wp2_with fail
    refine (RC.out _ _ _ HB4.out (HO3.out.below D4.out)).mono ?_
    rintro e w5 ⟨ya, yc, rfl, hy, hb⟩
    have D5 := Lib.hid (D4.out.trans (hb.mono D4.out.size))
    have X5 := Lib.hid (X4.out.below hb)
    have Y5 : Hid (Rr w5 (fun _ => True) (.slice ya n1 yc) xs) := by rw [← HN.out.1]; exact hy.mono fun _ _ _ => trivial
    have HB5 := Lib.hid (HB3.out.trans (D5.out.mono HB3.out.size))
    rw [HN.out.1]
    clear hb hy X4
    have XL := Lib.hid fun (k : Nat) (e : (Value.slice xa n1 xc).ownBlock = some k) => (X5.out.lt e).1
    go_wp2_with fail
    refine (RP.out _ HB5.out).mono ?_
    rintro e w6 ⟨za, zc, rfl, hz, hb⟩
    have D6 := Lib.hid (D5.out.trans (hb.mono D5.out.size))
    have X6 := Lib.hid (X5.out.below hb)
    have Y6 := Lib.hid (Y5.out.below hb)
    have Z6 : Hid (Own2 w6 w5.heap.size (.slice za n2 zc) ys) := by rw [← HN.out.2]; exact hz
    have HB6 := Lib.hid (HB3.out.trans (D6.out.mono HB3.out.size))
    rw [HN.out.2]
    clear hb hz X5 Y5
    go_wp2_with fail
    refine (RR.out _ _ _ HB6.out (HO3.out.below D6.out)).mono ?_
    rintro e w7 ⟨ta, tc, rfl, hy, hb⟩
    have D7 := Lib.hid (D6.out.trans (hb.mono D6.out.size))
    have X7 := Lib.hid (X6.out.below hb)
    have Y7 := Lib.hid (Y6.out.below hb)
    have Z7 := Lib.hid (Z6.out.below hb)
    have T7 : Hid (Rr w7 (fun _ => True) (.slice ta n2 tc) ys) := by rw [← HN.out.2]; exact hy
    rw [HN.out.2]
    clear hb hy X6 Y6 Z6
    go_wp2_with fail
    refine (texts_same X7.out.rr Y7.out (by rw [HN.out.1]; exact Q1.out)).mono ?_
    rintro e w8 ⟨rfl, hb⟩
    have D8 := Lib.hid (D7.out.trans (hb.mono D7.out.size))
    have X8 := Lib.hid (X7.out.below hb)
    have Z8 := Lib.hid (Z7.out.below hb)
    have T8 := Lib.hid (T7.out.below hb)
    clear hb X7 Y7 Z7 T7
    go_wp2_with fail
    refine (texts_same Z8.out.rr T8.out (by rw [HN.out.2]; exact Q2.out)).mono ?_
    rintro e w9 ⟨rfl, hb⟩
    have D9 := Lib.hid (D8.out.trans (hb.mono D8.out.size))
    have X9 := Lib.hid (X8.out.below hb)
    have Z9 := Lib.hid (Z8.out.below hb)
    have Z35 : Hid (w3.heap.size ≤ w5.heap.size) := D5.out.size
    clear hb X8 Z8 T8 D4 D6 D7 D8 Q1 Q2
    go_wp2_with fail
    go_loopw [20] (fun i wr => ∃ k : Nat, k ≤ n1 ∧ i = .int .i64 k ∧ (∃ zs : List Run, Own2 wr w3.heap.size (.slice xa n1 xc) zs) ∧ Own2 wr w5.heap.size (.slice za n2 zc) ys ∧ Below w3.heap.size w3 wr) (fun i _ => n1 - (intOf i).toNat)
    case atStart => exact ⟨0, by omega, rfl, ⟨xs, X9.out⟩, Z9.out, D9.out⟩
    case round =>
      obtain ⟨k, hk, rfl, ⟨zs, hx⟩, hz, hd⟩ := hrel
      by_cases hlt : k < n1
      · obtain ⟨g, z, rfl, g1, g2, g3, g4, us, _, g6⟩ := zero_one hx hlt
        have hg5 := XL.out g rfl
        have HX := Lib.hid g6
        have HZ := Lib.hid hz
        have HD := Lib.hid hd
        clear hx hz hd g6
        go_wp2_with fail
        go_roundw
        case rel =>
          refine ⟨k + 1, by omega, by go_num, ⟨us, HX.out⟩, HZ.out.kept fun j e => Below.heap_setCell _ _ _ _ ?_, HD.out.setCell (p := ⟨g, k * 2 + 1, none⟩) g1 _⟩
          have := (HZ.out.lt e).2
          simp
          omega
        case measure => simp [intOf]; omega
      · obtain rfl : k = n1 := by omega
        have HZ := Lib.hid hz
        have HD := Lib.hid hd
        clear hx hz hd X9 Z9 D9
        generalize wr = wo at *
        go_wp2_with fail
        go_loopw [21] (fun i wr => ∃ j : Nat, j ≤ n2 ∧ i = .int .i64 j ∧ (∃ zs : List Run, Own2 wr w5.heap.size (.slice za n2 zc) zs) ∧ Below w3.heap.size w3 wr) (fun i _ => n2 - (intOf i).toNat)
        case atStart => exact ⟨0, by omega, rfl, ⟨ys, HZ.out⟩, HD.out⟩
        case round =>
          obtain ⟨j, hj, rfl, ⟨zs, hz⟩, hd⟩ := hrel
          by_cases hlt2 : j < n2
          · obtain ⟨g, z, rfl, g1, g2, g3, g4, us, _, g6⟩ := zero_one hz hlt2
            have HX := Lib.hid g6
            have HD := Lib.hid hd
            clear hz hd g6
            go_wp2_with fail
            go_roundw
            case rel => exact ⟨j + 1, by omega, by go_num, ⟨us, HX.out⟩, HD.out.setCell (p := ⟨g, j * 2 + 1, none⟩) (Nat.le_trans Z35.out g1) _⟩
            case measure => simp [intOf]; omega
          · obtain rfl : j = n2 := by omega
            have HBr := Lib.hid (HB3.out.trans (hd.mono HB3.out.size))
            have HOr := Lib.hid (HO3.out.below hd)
            clear hz hd
            go_wp2_with fail
            refine (texts_same (HS.out.below HBr.out) HOr.out l0.out).mono ?_
            rintro e w11 ⟨rfl, hb⟩
            have HB11 := Lib.hid (HBr.out.trans (hb.mono HBr.out.size))
            clear hb
            go_wp2_with fail
            go_ret
            exact ⟨rfl, HB11.out⟩
end Go.Proofs.Ytdjapppfjpgidaa
