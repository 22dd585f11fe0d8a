/- Walks over the reference of package table: Pop, Mark, Back, All of its stack. -/
import Derived.Test.YtngiekofaeaaoaaTe
namespace Go.Proofs.Ytngiekofaeaaoaa
open Go.RowKit

/-- A reference's stack, a number and a truth are answered. -/
def NewPop (w : World) (P : Nat → Prop) (Ls : List (List Int)) (x : Int) (b : Bool) (e : Ending) (w' : World) : Prop := ∃ u, e = .returned (.tuple #[.agg #[u], .int .i64 x, .bool b]) ∧ RdL w' (fun k => P k ∨ w.heap.size ≤ k) u Ls ∧ Below w.heap.size w w'

theorem RdL.later {w w' : World} {P : Nat → Prop} {N : Nat} {u : Value} {Ls : List (List Int)} (h : RdL w P u Ls) (hb : Below w.heap.size w w') : RdL w' (fun k => P k ∨ N ≤ k) u Ls := by
  obtain ⟨vs, h1, h2⟩ := h
  exact ⟨vs, (h1.below hb).mono fun _ _ h => .inl h, (h2.below hb).mono fun _ _ h => .inl h⟩

theorem rpop_none (w : World) {P : Nat → Prop} {u : Value} {Ms : List (List Int)} (h : RdL w P u (Ms ++ [[]])) (hl : Ms.length ≤ 1000000) :
    Calls Try.prog 14 #[.agg #[u]] w (NewPop w P (Ms ++ [[]]) 0 false) := by
  have HR := Lib.hid h
  obtain ⟨vs, hu, hv⟩ := h
  obtain ⟨vs1, tv, rfl, hv1, he, htv⟩ := hv.unsnoc
  have hlen : (vs1 ++ [tv]).length = Ms.length + 1 := by simp [hv1]
  obtain ⟨g, o, c, rfl, h1, h2, h3, h4⟩ := hu.some_at (by omega)
  obtain ⟨ta, tc, rfl⟩ := htv.shape
  have hcell := h4 Ms.length (by omega)
  rw [List.getElem?_append_right (by omega), hv1] at hcell
  simp [ints] at hcell
  rw [hlen] at HR h1 ⊢
  clear hu hv he htv h4 hlen
  generalize hm : Ms.length = m at *
  have HM := Lib.hid hm
  clear hm hv1
  go_enter Try.func14, Try.ntmps14
  go_wp2_with fail
  refine bodyPost_ret (v := .tuple #[.agg #[.slice (some ⟨g, o, none⟩) (m + 1) c], .int .i64 0, .bool false]) (by simp [results, Try.results14, go_sem]) rfl ?_
  have hb : Below w.heap.size w ((w.alloc (.cells #[.slice (some ⟨g, o, none⟩) (m + 1) c] 30)).alloc (.cells #[.slice (some ⟨g, o, none⟩) (m + 1) c] 30)) := ((Below.refl _ _).alloc (Nat.le_refl _) _).alloc (by simp) _
  exact ⟨_, rfl, HR.out.later hb, hb⟩

set_option maxHeartbeats 1000000 in
theorem rpop_some (w : World) {P : Nat → Prop} {u : Value} {Ms : List (List Int)} {top : List Int} (x : Int) (h : RdL w P u (Ms ++ [top ++ [x]])) (hl : Ms.length ≤ 1000000) (ht : top.length ≤ 1000000) :
    Calls Try.prog 14 #[.agg #[u]] w (NewPop w P (Ms ++ [top]) x true) := by
  obtain ⟨vs, hu, hv⟩ := h
  obtain ⟨vs1, tv, rfl, hv1, he, htv⟩ := hv.unsnoc
  have hlen : (vs1 ++ [tv]).length = Ms.length + 1 := by simp [hv1]
  obtain ⟨g, o, c, rfl, h1, h2, h3, h4⟩ := hu.some_at (by omega)
  have htl : (ints (top ++ [x])).length = top.length + 1 := by simp [ints]
  obtain ⟨tg, tof, tc, rfl, k1, k2, k3, k4⟩ := htv.some_at (by omega)
  rw [hlen] at h1 hu
  have X0 := Box2.start w (.slice (some ⟨g, o, none⟩) (Ms.length + 1) c) (.slice none 0 0) 30
  have hcell := h4 Ms.length (by omega)
  rw [List.getElem?_append_right (by omega), hv1] at hcell
  have hlast := k4 top.length (by omega)
  have hx : (ints (top ++ [x]))[top.length]? = some (.int .i64 x) := by simp [ints]
  rw [hx] at hlast
  have htcut := htv.cut (k := top.length) (by omega)
  rw [ints_take, List.take_left] at htcut
  rw [htl] at hcell k1
  simp at hcell
  have hcut := hu.cut (k := Ms.length) (by omega)
  rw [← hv1, List.take_left, hv1] at hcut
  have HS1 := Lib.hid (hcut.below X0.below)
  have HE := Lib.hid (And.intro he htcut)
  have H1 : Hid ((([] : List Value).length + vs1.length) * (24 + 1) ≤ 70000000000000) := by show _ ≤ _; simp [hv1]; omega
  have H4 : ∀ t : Value, Hid ((vs1.length + [t].length) * (24 + 1) ≤ 70000000000000) := by intro t; show _ ≤ _; simp [hv1]; omega
  have HO := Lib.hid he.one
  have Y0 := Lib.hid X0
  rw [hlen]
  have hz : ((top.length : Int) + 1 == 0) = false := beq_eq_false_iff_ne.2 (by omega)
  clear hu hv he htv h4 hcut hlen X0 k4 hx htcut htl
  generalize hm : Ms.length = m at *
  have HM := Lib.hid (And.intro hm hv1)
  clear hm hv1
  generalize hn : top.length = n at *
  have HN := Lib.hid hn
  clear hn
  go_enter Try.func14, Try.ntmps14
  go_wp2_with (at_builtin; refine app_wp rfl (.const (.slice none 0 0)) (.tmp 24) rfl Try.underlying28 info25 rfl (by omega) (w.heap.size + 2) (.slice none 0 0) _ rfl rfl (Own.nil _ _ _) HS1.out HO.out H1.out Y0.out.size ?_
               intro ra1 n1 c1 w1 ho1 hg1 hl1
               have Y1 := Lib.hid (Y0.out.app (Own.nil _ _ 25) hg1)
               have q0 := Y1.out.c0
               have q1 := Y1.out.cell hcell
               have q2 := Y1.out.cell hlast)
  have HO1 : Hid (Own (w1.alloc (.cells #[.slice (some ⟨tg, tof, none⟩) n tc] 25)).drew (w.heap.size + 2) 25 (.slice ra1 n1 c1) vs1) := Own.below ho1 (((Below.refl _ _).alloc (Nat.le_refl _) _).drew)
  have Y1a := Lib.hid (Y1.out.step (w' := (w1.alloc (.cells #[.slice (some ⟨tg, tof, none⟩) n tc] 25)).drew) (((Below.refl _ _).alloc Y1.out.size _).drew))
  have HS2 := Lib.hid ((rd_one w1 (.slice (some ⟨tg, tof, none⟩) n tc) 25).below (below_drewN (Below.refl _ _) 1))
  have n0 := World.new_ne w1 _ q0
  have n1' := World.new_ne w1 _ q1
  have n2' := World.new_ne w1 _ q2
  have q3 := Y1.out.c1
  have q4 := Y1.out.f1
  have n3' := World.new_ne w1 _ q3
  have n4' : w.heap.size + 1 ≠ g := by omega
  have n5' : w.heap.size + 1 ≠ tg := by omega
  simp only at n0 n1' n2' n3'
  have b0 : (0 : Int) ≤ (m : Int) := Int.natCast_nonneg _
  have b1 : (m : Int) < (m : Int) + 1 := by omega
  have b2 : (0 : Int) ≤ (n : Int) := Int.natCast_nonneg _
  have b3 : (n : Int) ≤ (tc : Int) := by omega
  have b4 : (n : Int) < (n : Int) + 1 := by omega
  have hw1 : IntKind.i64.wrap ((n : Int) + 1 - 1) = (n : Int) := by rw [IntKind.wrap_i64]; omega
  have hw2 : IntKind.i64.wrap (n : Int) = (n : Int) := by rw [IntKind.wrap_i64]; omega
  go_region_held3 (fun w' => w'.cell? ⟨w.heap.size, 0, none⟩ = some (.slice (some ⟨g, o, none⟩) (m + 1) c) ∧ w'.cell? ⟨g, o + m, none⟩ = some (.slice (some ⟨tg, tof, none⟩) (n + 1) tc) ∧ w'.cell? ⟨tg, tof + n, none⟩ = some (.int .i64 x))
    (first | go_keep | exact ⟨Y2.out.c0, Y2.out.cell hcell, Y2.out.cell hlast⟩)
    ((first | (refine app_step rfl (.tmp 26) (.tmp 35) rfl Try.underlying28 info25 rfl (by omega) (w.heap.size + 2) (.slice ra1 n1 c1) _ rfl rfl HO1.out HS2.out (one_slice _ _ _) (H4 _).out Y1a.out.size ?_
               intro ra2 n2 c2 w2 ho2 hg2 hl2
               have Y2 := Lib.hid (Y1a.out.app HO1.out hg2)
               have q5 := Y2.out.c1
               have q6 := Y2.out.f1
               have q7 := Y2.out.cell hcell
               have q8 := Y2.out.cell hlast
               have q9 := Y2.out.c0)))
  go_wp2_with fail
  refine bodyPost_ret (v := .tuple #[.agg #[.slice ra2 n2 c2], .int .i64 x, .bool true]) (by simp [results, Try.results14, go_sem, q5]) rfl ?_
  have hb : Below w.heap.size w (w2.setCell ⟨w.heap.size + 1, 0, none⟩ (.slice ra2 n2 c2)) := Y2.out.below.setCell (by simp) _
  refine ⟨_, rfl, ⟨vs1 ++ [.slice (some ⟨tg, tof, none⟩) n tc], ?_, ?_⟩, hb⟩
  · exact (ho2.setOut (by omega) _ _).new (by omega)
  · exact ((HE.out.1.below hb).mono fun _ _ h => .inl h).snoc ((HE.out.2.below hb).mono fun _ _ h => .inl h)

theorem rmark_any (w : World) {P : Nat → Prop} {u : Value} {Ms : List (List Int)} (h : RdL w P u Ms) (hl : Ms.length ≤ 1000000) :
    Calls Try.prog 16 #[.agg #[u]] w (NewStk w P (Ms ++ [[]])) := by
  obtain ⟨vs, hu, hv⟩ := h
  obtain ⟨ua, uc, rfl⟩ := hu.shape
  have X0 := Box2.start w (.slice ua vs.length uc) (.slice none 0 0) 30
  have HS1 := Lib.hid (hu.below X0.below)
  have HE := Lib.hid hv
  have H1 : Hid ((([] : List Value).length + vs.length) * (24 + 1) ≤ 70000000000000) := by show _ ≤ _; simp [hv.1]; omega
  have H4 : ∀ t : Value, Hid ((vs.length + [t].length) * (24 + 1) ≤ 70000000000000) := by intro t; show _ ≤ _; simp [hv.1]; omega
  have HO := Lib.hid hv.one
  have Y0 := Lib.hid X0
  clear hu hv X0
  generalize hm : vs.length = m at *
  go_enter Try.func16, Try.ntmps16
  go_wp2_with (first
    | (at_builtin; refine app_wp rfl (.const (.slice none 0 0)) (.tmp 5) rfl Try.underlying28 info25 rfl (by omega) (w.heap.size + 2) (.slice none 0 0) _ rfl rfl (Own.nil _ _ _) HS1.out HO.out (hm ▸ H1.out) Y0.out.size ?_
       intro ra1 n1 c1 w1 ho1 hg1 hl1
       have Y1 := Lib.hid (Y0.out.app (Own.nil _ _ 25) hg1)
       have Y1a := Lib.hid (Y1.out.alloc (.cells #[.slice none 0 0] 25))
       have HO1 : Hid (Own (w1.alloc (.cells #[.slice none 0 0] 25)) (w.heap.size + 2) 25 (.slice ra1 n1 c1) vs) := Own.below ho1 ((Below.refl _ _).alloc (Nat.le_refl _) _))
    | (at_builtin; refine app_wp rfl (.tmp 7) (.tmp 8) rfl Try.underlying28 info25 rfl (by omega) (w.heap.size + 2) (.slice ra1 n1 c1) _ rfl rfl HO1.out (rd_one w1 (.slice none 0 0) 25) (one_slice _ _ _) (hm ▸ (H4 _).out) Y1a.out.size ?_
       intro ra4 n4 c4 w4 ho4 hg4 hl4
       have Y4 := Lib.hid (Y1a.out.app HO1.out hg4)
       have q5 := Y4.out.c1
       have q6 := Y4.out.f1))
  refine bodyPost_ret (v := .agg #[.slice ra4 n4 c4]) (by simp [results, Try.results16, go_sem, Y4.out.c1]) rfl ?_
  have hb : Below w.heap.size w (w4.setCell ⟨w.heap.size + 1, 0, none⟩ (.slice ra4 n4 c4)) := Y4.out.below.setCell (by simp) _
  exact ⟨_, rfl, ⟨vs ++ [.slice none 0 0], (ho4.setOut (by omega) _ _).new (by omega), ((HE.out.below hb).mono fun _ _ h => .inl h).snoc (.inl ⟨rfl, rfl⟩)⟩, hb⟩

/-- A reference's stack and a truth are answered. -/
def NewBack (w : World) (P : Nat → Prop) (Ls : List (List Int)) (b : Bool) (e : Ending) (w' : World) : Prop := ∃ u, e = .returned (.tuple #[.agg #[u], .bool b]) ∧ RdL w' (fun k => P k ∨ w.heap.size ≤ k) u Ls ∧ Below w.heap.size w w'

theorem rback_none (w : World) {P : Nat → Prop} {u : Value} {Ls : List (List Int)} (h : RdL w P u Ls) (hl : Ls.length < 2) :
    Calls Try.prog 18 #[.agg #[u]] w (NewBack w P Ls false) := by
  have HR := Lib.hid h
  obtain ⟨vs, hu, hv⟩ := h
  obtain ⟨ua, uc, rfl⟩ := hu.shape
  rw [hv.1] at HR ⊢
  have hl2 : (Ls.length : Int) < 2 := by omega
  clear hu hv hl
  generalize hm : Ls.length = m at *
  clear hm
  go_enter Try.func18, Try.ntmps18
  go_wp2
  refine bodyPost_ret (v := .tuple #[.agg #[.slice ua m uc], .bool false]) (by simp [results, Try.results18, go_sem]) rfl ?_
  have hb : Below w.heap.size w ((w.alloc (.cells #[.slice ua m uc] 30)).alloc (.cells #[.slice ua m uc] 30)) := ((Below.refl _ _).alloc (Nat.le_refl _) _).alloc (by simp) _
  exact ⟨_, rfl, HR.out.later hb, hb⟩

theorem rback_some (w : World) {P : Nat → Prop} {u : Value} {Ms : List (List Int)} {top : List Int} (h : RdL w P u (Ms ++ [top])) (hl : Ms.length ≤ 1000000) (h1 : 1 ≤ Ms.length) :
    Calls Try.prog 18 #[.agg #[u]] w (NewBack w P Ms true) := by
  obtain ⟨vs, hu, hv⟩ := h
  obtain ⟨vs1, tv, rfl, hv1, he, _⟩ := hv.unsnoc
  have hlen : (vs1 ++ [tv]).length = Ms.length + 1 := by simp [hv1]
  obtain ⟨g, o, c, rfl, k1, _, _, _⟩ := hu.some_at (by omega)
  rw [hlen] at k1 hu ⊢
  have hcut := hu.cut (k := Ms.length) (by omega)
  rw [← hv1, List.take_left, hv1] at hcut
  have HR : Hid (RdL w P (.slice (some ⟨g, o, none⟩) Ms.length c) Ms) := ⟨vs1, hcut, he⟩
  clear hu hv he hcut hlen hv1
  generalize hm : Ms.length = m at *
  clear hm
  have b1 : (1 : Int) ≤ (m : Int) := by omega
  go_enter Try.func18, Try.ntmps18
  go_wp2
  refine bodyPost_ret (v := .tuple #[.agg #[.slice (some ⟨g, o, none⟩) m c], .bool true]) (by simp [results, Try.results18, go_sem]) rfl ?_
  have hb : Below w.heap.size w ((w.alloc (.cells #[.slice (some ⟨g, o, none⟩) (m + 1) c] 30)).alloc (.cells #[.slice (some ⟨g, o, none⟩) m c] 30)) := ((Below.refl _ _).alloc (Nat.le_refl _) _).alloc (by simp) _
  exact ⟨_, rfl, HR.out.later hb, hb⟩

/-- What holds at the head of All's loop. -/
structure AllRel (w : World) (u : Value) (Ls : List (List Int)) (k : Nat) (v : Value) (wr : World) : Prop where
  below : Below w.heap.size w wr
  size : w.heap.size + 1 ≤ wr.heap.size
  box : wr.cell? ⟨w.heap.size, 0, none⟩ = some u
  own : Own wr (w.heap.size + 1) 3 v (ints (Ls.take k).flatten)

theorem flatten_le (Ls : List (List Int)) (k : Nat) : (Ls.take k).flatten.length ≤ Ls.flatten.length := by
  have h : Ls.flatten = (Ls.take k).flatten ++ (Ls.drop k).flatten := by rw [← List.flatten_append, List.take_append_drop]
  rw [h, List.length_append]
  omega
theorem flatten_step (Ls : List (List Int)) (k : Nat) (h : k < Ls.length) : (Ls.take (k + 1)).flatten = (Ls.take k).flatten ++ Ls.getD k [] := by
  rw [List.take_succ_eq_append_getElem h, List.flatten_append]
  simp [List.getD_eq_getElem?_getD, h]

set_option maxHeartbeats 400000 in
theorem rall_any (w : World) {P : Nat → Prop} {u : Value} {Ls : List (List Int)} (h : RdL w P u Ls) (hl : Ls.length ≤ 1000000) (hf : Ls.flatten.length ≤ 1000000) (hp : 0 < Ls.length) :
    Calls Try.prog 21 #[.agg #[u]] w (NewRow w Ls.flatten) := by
  obtain ⟨vs, hu, hv⟩ := h
  obtain ⟨g, o, c, rfl, _, h2, _, h4⟩ := hu.some_at (by rw [hv.1]; exact hp)
  have HV := Lib.hid hv
  have H4 := Lib.hid h4
  have HS : Hid (AllRel w (.slice (some ⟨g, o, none⟩) vs.length c) Ls 0 (.slice none 0 0) (w.alloc (.cells #[.slice (some ⟨g, o, none⟩) vs.length c] 30))) :=
    ⟨(Below.refl _ _).alloc (Nat.le_refl _) _, by simp, by simp, by simpa [ints] using Own.nil _ _ _⟩
  clear h4
  have hvl := hv.1
  rw [hvl] at HS ⊢
  have Hvl := Lib.hid hvl
  clear hu hv hvl
  generalize hm : Ls.length = m at *
  have HM := Lib.hid hm
  clear hm
  go_enter Try.func21, Try.ntmps21
  go_wp2_with fail
  go_loopw [3, 4] (fun v i wr => ∃ k : Nat, k ≤ m ∧ i = .int .i64 k ∧ AllRel w (.slice (some ⟨g, o, none⟩) m c) Ls k v wr) (fun _ i _ => m - (intOf i).toNat)
  case atStart => exact ⟨0, by omega, rfl, HS.out⟩
  case round =>
    obtain ⟨k, hk, rfl, hrel⟩ := hrel
    have HR := Lib.hid hrel
    have q0 := hrel.box
    clear hrel
    by_cases hlt : k < m
    · have hcw := H4.out k (by rw [Hvl.out]; exact hlt)
      obtain ⟨tv, htv⟩ : ∃ tv, vs[k]? = some tv := ⟨_, List.getElem?_eq_getElem (by rw [Hvl.out]; exact hlt)⟩
      rw [htv] at hcw
      have hcell := (HR.out.below.cell (p := ⟨g, o + k, none⟩) h2).trans hcw
      have HT := Lib.hid ((HV.out.2 k tv htv).below HR.out.below)
      have H1 : Hid (((ints (Ls.take k).flatten).length + (ints (Ls.getD k [])).length) * (8 + 1) ≤ 70000000000000) := by
        show _ ≤ _
        have e1 := flatten_le Ls (k + 1)
        rw [flatten_step Ls k (by rw [HM.out]; exact hlt), List.length_append] at e1
        rw [ints_length, ints_length]
        omega
      clear hcw htv
      go_wp2_with (at_builtin; refine app_wp rfl (.tmp 12) (.tmp 17) rfl Try.underlying25 info3 rfl (by omega) (w.heap.size + 1) u3 tv rfl rfl HR.out.own HT.out (ints_one _) H1.out HR.out.size ?_; intro ra n c2 w1 ho hg hl')
      go_roundw
      case rel =>
        refine ⟨k + 1, by omega, by go_num, ⟨HR.out.below.grown hg (by have := HR.out.size; omega) (fun j e => by have := (HR.out.own.lt e).2; omega), Nat.le_trans HR.out.size hg.size, ?_, ?_⟩⟩
        · exact (World.cell?_of_block (hg.block _ (by have := HR.out.size; simp; omega) (fun e => by have := (HR.out.own.lt e.symm).2; simp at this; omega))).trans HR.out.box
        · rw [flatten_step Ls k (by rw [HM.out]; exact hlt), ← ints_append]
          exact ho
      case measure => simp [intOf]; omega
    · obtain rfl : k = m := by omega
      go_wp2_with fail
      go_ret
      refine ⟨u3, rfl, ?_, HR.out.below⟩
      have hh := HR.out.own
      rw [List.take_of_length_le (by rw [HM.out]; omega)] at hh
      exact hh.rd.mono fun j _ e => by have := (hh.lt e).2; omega
end Go.Proofs.Ytngiekofaeaaoaa
