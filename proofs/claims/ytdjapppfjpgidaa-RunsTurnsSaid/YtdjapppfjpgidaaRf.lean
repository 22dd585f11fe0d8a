/- Walks: joined. -/
import Derived.Test.YtdjapppfjpgidaaRe
namespace Go.Proofs.Ytdjapppfjpgidaa
open Go.RowKit

/-- Two texts behind one another. -/
def join (a b : List Run) : List Run :=
  if 0 < a.length ∧ 0 < b.length ∧ (a.getD (a.length - 1) (0, 0)).1 = (b.getD 0 (0, 0)).1 then
    a.take (a.length - 1) ++ [((a.getD (a.length - 1) (0, 0)).1, (a.getD (a.length - 1) (0, 0)).2 + (b.getD 0 (0, 0)).2)] ++ b.drop 1
  else a ++ b

theorem join_len (a b : List Run) : (join a b).length ≤ a.length + b.length := by
  unfold join
  split <;> simp <;> omega

/-- A number is set. -/
theorem Own2.setN {w : World} {B g n cap : Nat} {rs : List Run} (h : Own2 w B (.slice (some ⟨g, 0, none⟩) n cap) rs) {k : Nat} (hk : k < rs.length) (z : Int) :
    Own2 (w.setCell ⟨g, k * 2 + 1, none⟩ (.int .i64 z)) B (.slice (some ⟨g, 0, none⟩) n cap) (rs.set k ((rs.getD k (0, 0)).1, z)) := by
  obtain ⟨h0, ⟨h1, _⟩ | ⟨g', cap', cur, h1, h2, h3, h4, h5, h6, h7⟩⟩ := h
  · cases h1
  · cases h1
    have hf : flat (rs.set k ((rs.getD k (0, 0)).1, z)) = (flat rs).set (k * 2 + 1) (.int .i64 z) := by
      clear h0 h2 h3 h4 h5 h6 h7
      induction rs generalizing k with
      | nil => simp at hk
      | cons r rs ih =>
        cases k with
        | zero => simp [flat]
        | succ k =>
          have := ih (k := k) (by simpa using hk)
          rw [show (k + 1) * 2 + 1 = k * 2 + 1 + 2 by omega]
          simpa [flat] using this
    refine ⟨by rw [flat_length], .inr ⟨g, cap, cur.setIfInBounds (k * 2 + 1) (.int .i64 z), by simp, h2, ?_, by simpa using h4, h5, by simpa using h6, ?_⟩⟩
    · simp [World.setCell, Array.getElem?_modify, h3]
    · rw [hf, ← h7, Array.toList_setIfInBounds, List.length_set, List.take_set]

theorem join_yes {a b : List Run} {k : Nat} (hk : a.length = k + 1) (hb : 0 < b.length) (he : (a.getD k (0, 0)).1 = (b.getD 0 (0, 0)).1) :
    join a b = (((a ++ b).set k (((a ++ b).getD k (0, 0)).1, (a.getD k (0, 0)).2 + (b.getD 0 (0, 0)).2)).take (k + 1)) ++ (((a ++ b).set k (((a ++ b).getD k (0, 0)).1, (a.getD k (0, 0)).2 + (b.getD 0 (0, 0)).2)).drop (k + 1 + 1)) := by
  have e1 : (a ++ b).getD k (0, 0) = a.getD k (0, 0) := by
    simp only [List.getD_eq_getElem?_getD]
    rw [List.getElem?_append_left (by omega)]
  rw [e1, join, hk, if_pos ⟨by omega, hb, by simpa using he⟩]
  have e2 : ∀ z, (a ++ b).set k z = a.take k ++ [z] ++ b := fun z => by
    rw [List.set_append, if_pos (by omega)]
    congr 1
    apply List.ext_getElem?
    intro i
    rw [List.getElem?_set]
    by_cases hi : k = i
    · subst hi
      have e5 : (a.take k).length = k := by simp; omega
      rw [if_pos rfl, if_pos (by omega), List.getElem?_append_right (by omega), e5]
      simp
    · rw [if_neg hi]
      by_cases hlt : i < k
      · rw [List.getElem?_append_left (by simp; omega), List.getElem?_take, if_pos hlt]
      · rw [List.getElem?_eq_none (by omega), List.getElem?_eq_none (by simp; omega)]
  rw [e2]
  have e3 : (a.take k ++ [((a.getD k (0, 0)).1, (a.getD k (0, 0)).2 + (b.getD 0 (0, 0)).2)]).length = k + 1 := by simp; omega
  rw [List.take_left' e3, show k + 1 - 1 = k by omega]
  congr 1
  rw [← List.drop_drop, List.drop_left' e3]

theorem join_no {a b : List Run} (h : ¬ (0 < a.length ∧ 0 < b.length ∧ (a.getD (a.length - 1) (0, 0)).1 = (b.getD 0 (0, 0)).1)) : join a b = a ++ b := if_neg h

theorem Own2.wider {w : World} {B C : Nat} {v : Value} {rs : List Run} (h : Own2 w B v rs) (hc : C ≤ B) : Own2 w C v rs := by
  obtain ⟨h0, h | ⟨g, cap, cur, h1, h2, h3⟩⟩ := h
  · exact ⟨h0, .inl h⟩
  · exact ⟨h0, .inr ⟨g, cap, cur, h1, Nat.le_trans hc h2, h3⟩⟩

/-- Two slices laid beside one another, in a new block. -/
theorem two_cells (w : World) (u v : Value) : (w.alloc (.cells #[u, v] 22)).cell? ⟨w.heap.size, 0, none⟩ = some u ∧ (w.alloc (.cells #[u, v] 22)).cell? ⟨w.heap.size, 1, none⟩ = some v := by simp

set_option maxHeartbeats 4000000 in
theorem joined_any {w : World} {P Q : Nat → Prop} {va vb : Value} {xs ys : List Run} (ha : Rr w P va xs) (hb : Rr w Q vb ys) (hl : xs.length ≤ 400000000) (hl2 : ys.length ≤ 400000000) (hx : ∀ r ∈ xs, 0 ≤ r.2 ∧ r.2 ≤ 4398046511104) (hy : ∀ r ∈ ys, 0 ≤ r.2 ∧ r.2 ≤ 4398046511104) :
    Calls Try.prog 41 #[va, vb] w (Fresh w (join xs ys)) := by
  have HA := Lib.hid ha
  have HB := Lib.hid hb
  obtain ⟨aa, ca, rfl, _⟩ := ha.shape
  obtain ⟨ab, cb, rfl, _⟩ := hb.shape
  clear ha hb
  obtain ⟨p0, p1⟩ := two_cells w (.slice aa xs.length ca) (.slice ab ys.length cb)
  have HW : Hid (Below w.heap.size w (w.alloc (.cells #[.slice aa xs.length ca, .slice ab ys.length cb] 22))) := (Below.refl _ _).alloc (Nat.le_refl _) _
  have HC := Lib.hid (concat_any w.heap.size 2 p0 p1 (Nat.le_refl _) (HA.out.below HW.out) (HB.out.below HW.out) hl hl2)
  clear p0 p1
  have HX := Lib.hid hx
  have HY := Lib.hid hy
  clear hx hy
  generalize hn : xs.length = n at *
  generalize hm : ys.length = m at *
  have HN := Lib.hid (And.intro hn hm)
  clear hn hm
  go_enter Try.func41, Try.ntmps41
  go_wp2_with fail
  refine HC.out.mono ?_
  rintro e w1 ⟨ra, rc, rfl, ho, hb⟩
  have HO := Lib.hid ho
  have HB1 : Hid (Below w.heap.size w w1) := HW.out.trans (hb.mono (by simp))
  clear ho hb HC
  have HA1 : Hid (Rr w1 P (.slice aa n ca) xs) := HA.out.below HB1.out
  have HBB : Hid (Rr w1 Q (.slice ab m cb) ys) := HB.out.below HB1.out
  have hlen : (xs ++ ys).length = n + m := by rw [List.length_append, HN.out.1, HN.out.2]
  rw [hlen] at HO ⊢
  clear hlen
  go_upto_region 3 with fail
  rcases Nat.eq_zero_or_pos n with hn0 | hnp
  · subst hn0
    have HJ : Hid (join xs ys = xs ++ ys) := join_no fun h => by have := HN.out.1; omega
    have HE : Hid ((xs ++ ys).length = 0 + m) := by show _ = _; rw [List.length_append, HN.out.1, HN.out.2]
    go_quiet (fail)
    go_wp2_with fail
    go_ret
    refine ⟨ra, rc, ?_, ?_, below_drewN HB1.out _⟩
    · rw [HJ.out, HE.out]; rfl
    · rw [HJ.out, HE.out]
      exact (HO.out.kept fun _ _ => rfl).wider (by simp)
  have hnd : decide (0 < n) = true := by simpa using hnp
  rcases Nat.eq_zero_or_pos m with hm0 | hmp
  · subst hm0
    have HJ : Hid (join xs ys = xs ++ ys) := join_no fun h => by have := HN.out.2; omega
    have HE : Hid ((xs ++ ys).length = n + 0) := by show _ = _; rw [List.length_append, HN.out.1, HN.out.2]
    go_quiet (fail)
    go_wp2_with fail
    go_ret
    refine ⟨ra, rc, ?_, ?_, below_drewN HB1.out _⟩
    · rw [HJ.out, HE.out]; rfl
    · rw [HJ.out, HE.out]
      exact (HO.out.kept fun _ _ => rfl).wider (by simp)
  have hmd : decide (0 < m) = true := by simpa using hmp
  obtain ⟨g1, o1, rfl, _, _, s0, s1⟩ := HA1.out.at (i := n - 1) (by rw [HN.out.1]; omega)
  obtain ⟨g2, o2, rfl, _, _, t0, t1⟩ := HBB.out.at (i := 0) (by rw [HN.out.2]; omega)
  simp only [Nat.zero_mul, Nat.add_zero] at t0 t1
  by_cases he : (xs.getD (n - 1) (0, 0)).1 = (ys.getD 0 (0, 0)).1
  · have HJ := Lib.hid (join_yes (a := xs) (b := ys) (k := n - 1) (by rw [HN.out.1]; omega) (by rw [HN.out.2]; omega) he)
    have hgx : (xs ++ ys).getD (n - 1) (0, 0) = xs.getD (n - 1) (0, 0) := by
      simp only [List.getD_eq_getElem?_getD]
      rw [List.getElem?_append_left (by rw [HN.out.1]; omega)]
    have hxl : n - 1 < (xs ++ ys).length := by rw [List.length_append, HN.out.1]; omega
    rw [show n - 1 + 1 = n by omega] at HJ
    have hset : Hid (∀ (w' : World) (B g rc : Nat) (z : Int), Own2 w' B (.slice (some ⟨g, 0, none⟩) (n + m) rc) (xs ++ ys) → Own2 (w'.setCell ⟨g, (n - 1) * 2 + 1, none⟩ (.int .i64 z)) B (.slice (some ⟨g, 0, none⟩) (n + m) rc) ((xs ++ ys).set (n - 1) (((xs ++ ys).getD (n - 1) (0, 0)).1, z))) := fun w' B g rc z h => h.setN hxl z
    have hz1 := HX.out (xs.getD (n - 1) (0, 0)) (by rw [List.getD_eq_getElem?_getD, List.getElem?_eq_getElem (by rw [HN.out.1]; omega)]; exact List.getElem_mem _)
    have hz2 := HY.out (ys.getD 0 (0, 0)) (by rw [List.getD_eq_getElem?_getD, List.getElem?_eq_getElem (by rw [HN.out.2]; omega)]; exact List.getElem_mem _)
    obtain ⟨g, rfl⟩ : ∃ g, ra = some ⟨g, 0, none⟩ := by
      rcases HO.out.cases with ⟨e, h0⟩ | ⟨g, cap, cur, e, _⟩
      · simp at e; omega
      · injection e with e1 _ _; exact ⟨g, e1⟩
    obtain ⟨hq1, hq2, hcm, hgB, hgs, hcel, hq3, hfr⟩ := HO.out.cell
    have o1c := hcel ((n - 1) * 2 + 1) (by omega)
    rw [(flat_get (xs ++ ys) (n - 1) hxl).2, hgx] at o1c
    have o1f := hfr ((n - 1) * 2 + 1)
    rw [hgx] at hset HJ
    clear hcel hfr hgx hxl hq1 hq3
    generalize xs.getD (n - 1) (0, 0) = x at *
    generalize ys.getD 0 (0, 0) = y at *
    obtain ⟨x1, x2⟩ := x
    obtain ⟨y1, y2⟩ := y
    simp only at *
    subst he
    go_quiet (fail)
    go_upto_region 4 with fail
    obtain ⟨w2, hw2⟩ : ∃ w2, w2 = w1.drewN nq := ⟨_, rfl⟩
    have HB2 : Hid (Below w.heap.size w w2) := by rw [hw2]; exact below_drewN HB1.out _
    have HO2 : Hid (Own2 w2 (w.alloc (.cells #[.slice (some ⟨g1, o1, none⟩) n ca, .slice (some ⟨g2, o2, none⟩) m cb] 22)).heap.size (.slice (some ⟨g, 0, none⟩) (n + m) rc) (xs ++ ys)) := by rw [hw2]; exact HO.out.kept fun _ _ => rfl
    have z1 : w2.cell? ⟨g, (n - 1) * 2 + 1, none⟩ = some (.int .i64 x2) := by rw [hw2]; exact o1c
    have z2 : w2.cell? ⟨g2, o2 + 1, none⟩ = some (.int .i64 y2) := by rw [hw2]; exact t1
    have z3 : w2.frozen? ⟨g, (n - 1) * 2 + 1, none⟩ = false := by rw [hw2]; exact o1f
    rw [← hw2]
    clear hw2 o1c o1f s0 s1 t0 t1 HA1 HBB HO HB1 HA HB
    have zw : IntKind.i64.wrap (x2 + y2) = x2 + y2 := IntWalk.i64_in _ (by omega)
    have i1 : IntKind.i64.wrap ((n : Int) - 1) = (n : Int) - 1 := IntWalk.i64_in _ (by omega)
    have i2 : 0 ≤ (n : Int) - 1 := by omega
    have i3 : (n : Int) - 1 < (n : Int) + (m : Int) := by omega
    have i4 : ((n : Int) - 1).toNat = n - 1 := by omega
    go_region
    have HO3 : Hid (Own2 (w2.setCell ⟨g, (n - 1) * 2 + 1, none⟩ (.int .i64 (x2 + y2))).drew (w.alloc (.cells #[.slice (some ⟨g1, o1, none⟩) n ca, .slice (some ⟨g2, o2, none⟩) m cb] 22)).heap.size (.slice (some ⟨g, 0, none⟩) (n + m) rc) ((xs ++ ys).set (n - 1) (x1, x2 + y2))) :=
      Own2.kept (hset.out w2 _ g rc (x2 + y2) HO2.out) fun _ _ => rfl
    have HB3 : Hid (Below w.heap.size w (w2.setCell ⟨g, (n - 1) * 2 + 1, none⟩ (.int .i64 (x2 + y2))).drew) := below_drewN (HB2.out.setCell (p := ⟨g, (n - 1) * 2 + 1, none⟩) (by simp at hgB ⊢; omega) _) 1
    have hcast : Hid ((n : Int) + 1 = ((n + 1 : Nat) : Int)) := by show _ = _; omega
    generalize hw3 : (w2.setCell ⟨g, (n - 1) * 2 + 1, none⟩ (.int .i64 (x2 + y2))).drew = w3 at *
    clear hw3 z1 z2 z3 zw i1 i2 i3 i4 HO2 HB2 hset
    go_wp2_with fail
    rw [hcast.out]
    refine (delete_one w3 HO3.out (k := n) (by omega) (by omega)).mono ?_
    rintro e w4 ⟨rfl, ho4, hg4⟩
    have HO4 := Lib.hid ho4
    have HB4 : Hid (Below w.heap.size w w4) := HB3.out.grown hg4 HB3.out.size (fun k e => by cases e; simp at hgB; omega)
    clear ho4 hg4
    go_wp2_with fail
    go_ret
    have hjl : (join xs ys).length = n + m - 1 := by
      rw [HJ.out]
      simp only [List.length_append, List.length_take, List.length_drop, List.length_set, HN.out.1, HN.out.2]
      omega
    refine ⟨some ⟨g, 0, none⟩, rc, by rw [hjl]; rfl, ?_, HB4.out⟩
    rw [hjl, HJ.out]
    exact HO4.out.wider (by simp)
  · have HJ : Hid (join xs ys = xs ++ ys) := join_no fun h => he (by have := h.2.2; rwa [HN.out.1] at this)
    have HE : Hid ((xs ++ ys).length = n + m) := by show _ = _; rw [List.length_append, HN.out.1, HN.out.2]
    have hb : ((xs.getD (n - 1) (0, 0)).1 == (ys.getD 0 (0, 0)).1) = false := by simpa using he
    clear he
    generalize xs.getD (n - 1) (0, 0) = x at *
    generalize ys.getD 0 (0, 0) = y at *
    obtain ⟨x1, x2⟩ := x
    obtain ⟨y1, y2⟩ := y
    simp only at *
    go_quiet (fail)
    go_wp2_with fail
    go_ret
    refine ⟨ra, rc, ?_, ?_, below_drewN HB1.out _⟩
    · rw [HJ.out, HE.out]; rfl
    · rw [HJ.out, HE.out]
      exact (HO.out.kept fun _ _ => rfl).wider (by simp)
end Go.Proofs.Ytdjapppfjpgidaa
