/- Walks over the reference of package table: its stack. -/
import Derived.Test.YtngiekofaeaaoaaTd
namespace Go.Proofs.Ytngiekofaeaaoaa
open Go.RowKit

/-- Slice values that read as lists of numbers, one by one. -/
def Each (w : World) (P : Nat → Prop) (vs : List Value) (Ls : List (List Int)) : Prop := vs.length = Ls.length ∧ ∀ j v, vs[j]? = some v → Rd w P v (ints (Ls.getD j []))

/-- A slice of slices of numbers. -/
def RdL (w : World) (P : Nat → Prop) (u : Value) (Ls : List (List Int)) : Prop := ∃ vs, Rd w P u vs ∧ Each w P vs Ls

theorem Each.below {w w' : World} {P : Nat → Prop} {vs : List Value} {Ls : List (List Int)} (h : Each w P vs Ls) (hb : Below w.heap.size w w') : Each w' P vs Ls := ⟨h.1, fun j v hj => (h.2 j v hj).below hb⟩
theorem Each.mono {w : World} {P Q : Nat → Prop} {vs : List Value} {Ls : List (List Int)} (h : Each w P vs Ls) (hpq : ∀ k, k < w.heap.size → P k → Q k) : Each w Q vs Ls := ⟨h.1, fun j v hj => (h.2 j v hj).mono hpq⟩
theorem Each.one {w : World} {P : Nat → Prop} {vs : List Value} {Ls : List (List Int)} (h : Each w P vs Ls) : ∀ x ∈ vs, x.oneCell' = true := by
  intro x hx
  obtain ⟨j, hj⟩ := List.mem_iff_getElem?.1 hx
  obtain ⟨a, c, rfl⟩ := (h.2 j x hj).shape
  rfl
theorem Each.snoc {w : World} {P : Nat → Prop} {vs : List Value} {Ls : List (List Int)} {v : Value} {xs : List Int} (h : Each w P vs Ls) (hv : Rd w P v (ints xs)) : Each w P (vs ++ [v]) (Ls ++ [xs]) := by
  refine ⟨by simp [h.1], fun j u hj => ?_⟩
  by_cases hlt : j < vs.length
  · rw [List.getElem?_append_left hlt] at hj
    have := h.2 j u hj
    rwa [List.getD_eq_getElem?_getD, List.getElem?_append_left (by rw [← h.1]; exact hlt), ← List.getD_eq_getElem?_getD]
  · rw [List.getElem?_append_right (by omega)] at hj
    have e : j - vs.length = 0 := by
      rcases Nat.eq_zero_or_pos (j - vs.length) with h0 | h0
      · exact h0
      · rw [List.getElem?_eq_none (by simp; omega)] at hj
        cases hj
    rw [e] at hj
    simp at hj
    subst hj
    have e2 : j = Ls.length := by have := h.1; omega
    subst e2
    simpa [List.getD_eq_getElem?_getD] using hv
theorem Each.unsnoc {w : World} {P : Nat → Prop} {vs : List Value} {Ls : List (List Int)} {xs : List Int} (h : Each w P vs (Ls ++ [xs])) : ∃ vs1 v, vs = vs1 ++ [v] ∧ vs1.length = Ls.length ∧ Each w P vs1 Ls ∧ Rd w P v (ints xs) := by
  have hl := h.1
  simp at hl
  have hne : vs ≠ [] := by rintro rfl; simp at hl
  have hv : vs = vs.dropLast ++ [vs.getLast hne] := (List.dropLast_concat_getLast hne).symm
  have hlen : vs.dropLast.length = Ls.length := by simp; omega
  refine ⟨vs.dropLast, vs.getLast hne, hv, hlen, ⟨hlen, fun j u hj => ?_⟩, ?_⟩
  · have hlt : j < vs.dropLast.length := (List.getElem?_eq_some_iff.1 hj).1
    have := h.2 j u (by rw [hv, List.getElem?_append_left hlt]; exact hj)
    rwa [List.getD_eq_getElem?_getD, List.getElem?_append_left (by omega), ← List.getD_eq_getElem?_getD] at this
  · have := h.2 Ls.length (vs.getLast hne) (by rw [← List.getLast?_eq_some_getLast hne, List.getLast?_eq_getElem?, hl]; rfl)
    simpa [List.getD_eq_getElem?_getD] using this
theorem Each.take {w : World} {P : Nat → Prop} {vs : List Value} {Ls : List (List Int)} (h : Each w P vs Ls) (k : Nat) : Each w P (vs.take k) (Ls.take k) := by
  refine ⟨by simp [h.1], fun j u hj => ?_⟩
  have hlt := (List.getElem?_eq_some_iff.1 hj).1
  have hk : j < k := by simp at hlt; omega
  rw [List.getElem?_take, if_pos hk] at hj
  have := h.2 j u hj
  rwa [List.getD_eq_getElem?_getD, List.getElem?_take, if_pos hk, ← List.getD_eq_getElem?_getD]

theorem info25 : (Try.prog.info? 25).map (fun i => (i.zero, i.size, i.bytes)) = some (some (.slice none 0 0), 1, 24) := by kernel_rfl

/-- A reference's stack is answered, in new memory or in memory of which P holds. -/
def NewStk (w : World) (P : Nat → Prop) (Ls : List (List Int)) (e : Ending) (w' : World) : Prop := ∃ u, e = .returned (.agg #[u]) ∧ RdL w' (fun k => P k ∨ w.heap.size ≤ k) u Ls ∧ Below w.heap.size w w'

theorem rnew_any (w : World) : Calls Try.prog 10 #[] w (NewStk w (fun _ => False) [[]]) := by
  go_enter Try.func10, Try.ntmps10
  go_wp2
  refine bodyPost_ret (v := .agg #[.slice (some ⟨w.heap.size + 1, 0, none⟩) 1 1]) (by simp [results, Try.results10, go_sem]) rfl ?_
  refine ⟨_, rfl, ⟨[.slice none 0 0], ?_, ?_⟩, ?_⟩
  · have := rd_one (w.alloc (.cells #[.slice (some ⟨w.heap.size + 1, 0, none⟩) 1 1] 30)) (.slice none 0 0) 25
    simp only [World.size_alloc] at this
    exact this.mono fun k _ e => .inr (by omega)
  · exact ⟨rfl, fun j v hj => by
      obtain rfl : j = 0 := by
        rcases j with _ | j
        · rfl
        · simp at hj
      simp at hj
      subst hj
      exact .inl ⟨rfl, rfl⟩⟩
  · exact ((Below.refl _ _).alloc (Nat.le_refl _) _).alloc (by simp) _

theorem Own.below {w w' : World} {B e : Nat} {v : Value} {cs : List Value} (h : Own w B e v cs) (hb : Below w.heap.size w w') : Own w' B e v cs := h.kept fun k e => hb.block k (h.lt e).1

/-- Two boxes of the call's own, laid first: the argument's and the result's. -/
structure Box2 (w : World) (u z : Value) (wk : World) : Prop where
  below : Below w.heap.size w wk
  size : w.heap.size + 2 ≤ wk.heap.size
  c0 : wk.cell? ⟨w.heap.size, 0, none⟩ = some u
  c1 : wk.cell? ⟨w.heap.size + 1, 0, none⟩ = some z
  f1 : wk.frozen? ⟨w.heap.size + 1, 0, none⟩ = false

theorem Box2.start (w : World) (u z : Value) (t : TypeId) : Box2 w u z ((w.alloc (.cells #[u] t)).alloc (.cells #[z] t)) := by
  refine ⟨((Below.refl _ _).alloc (Nat.le_refl _) _).alloc (by simp) _, by simp, ?_, ?_, ?_⟩
  · simp
  · have := heap_alloc_new (w.alloc (.cells #[u] t)) (.cells #[z] t)
    simp only [World.size_alloc] at this
    simp only [World.cell?, this]
    rfl
  · have := heap_alloc_new (w.alloc (.cells #[u] t)) (.cells #[z] t)
    simp only [World.size_alloc] at this
    simp only [World.frozen?, this]
    rfl
theorem Box2.step {w wk w' : World} {u z : Value} (h : Box2 w u z wk) (hb : Below (w.heap.size + 2) wk w') : Box2 w u z w' :=
  ⟨h.below.trans (hb.mono (by omega)), Nat.le_trans h.size hb.size, (hb.cell (p := ⟨w.heap.size, 0, none⟩) (by show _ < _; simp)).trans h.c0, (hb.cell (p := ⟨w.heap.size + 1, 0, none⟩) (by show _ < _; simp)).trans h.c1,
   (hb.frozen (p := ⟨w.heap.size + 1, 0, none⟩) (by show _ < _; simp)).trans h.f1⟩
theorem Box2.app {w wk w' : World} {u z v : Value} {e : Nat} {cs : List Value} (h : Box2 w u z wk) (ho : Own wk (w.heap.size + 2) e v cs) (hg : wk.grownBy w' v.ownBlock) : Box2 w u z w' :=
  h.step ((Below.refl _ _).grown hg h.size fun _ e' => (ho.lt e').2)
theorem Box2.alloc {w wk : World} {u z : Value} (h : Box2 w u z wk) (ob : Obj) : Box2 w u z (wk.alloc ob) := h.step ((Below.refl _ _).alloc h.size _)
theorem Box2.cell {w wk : World} {u z v : Value} (h : Box2 w u z wk) {g o : Nat} (hc : w.cell? ⟨g, o, none⟩ = some v) : wk.cell? ⟨g, o, none⟩ = some v :=
  (h.below.cell (p := ⟨g, o, none⟩) (World.block_lt_of_cell? w _ hc)).trans hc

/-- A row is kept while another one grows. -/
theorem Own.grown {w w' : World} {B e : Nat} {v : Value} {cs : List Value} {row : Option Nat} (h : Own w B e v cs) (hg : w.grownBy w' row) (hne : ∀ k, v.ownBlock = some k → row ≠ some k) : Own w' B e v cs :=
  h.kept fun k e' => hg.block k (h.lt e').1 (fun e2 => hne k e' e2.symm)

theorem one_slice (a : Option Addr) (n c : Nat) : ∀ y ∈ [Value.slice a n c], y.oneCell' = true := by
  intro y hy
  obtain rfl := List.mem_singleton.1 hy
  rfl

theorem push_own1 {w1 w2 w3 : World} {B n1 c1 n2 c2 : Nat} {ra1 ra2 : Option Addr} {vs : List Value} {y : Value} (ho : Own w1 B 25 (.slice ra1 n1 c1) ([] ++ vs)) (hg2 : w1.grownBy w2 (Value.slice none 0 0).ownBlock)
    (hl2 : (Value.slice ra2 n2 c2).ownBlock = (Value.slice none 0 0).ownBlock ∨ (Value.slice ra2 n2 c2).ownBlock = some w1.heap.size) (hg3 : (w2.alloc (.cells #[y] 3)).grownBy w3 (Value.slice ra2 n2 c2).ownBlock) (ob : Obj) :
    Own (w3.alloc ob) B 25 (.slice ra1 n1 c1) vs := by
  have h2 : Own w2 B 25 (.slice ra1 n1 c1) vs := Own.grown ho hg2 (fun k _ e => by simp [Value.ownBlock] at e)
  have h2a := h2.below ((Below.refl _ _).alloc (Nat.le_refl _) (.cells #[y] 3))
  have h3 := h2a.grown hg3 (fun k e e' => by
    have := (ho.lt e).1
    rcases hl2 with h | h
    · rw [h] at e'; simp [Value.ownBlock] at e'
    · rw [h] at e'; cases e'; omega)
  exact h3.below ((Below.refl _ _).alloc (Nat.le_refl _) _)

theorem Own.setOut {w : World} {B e : Nat} {v : Value} {cs : List Value} (h : Own w B e v cs) {b : Nat} (hb : b < B) (o : Nat) (u : Value) : Own (w.setCell ⟨b, o, none⟩ u) B e v cs :=
  h.kept fun k e' => Below.heap_setCell _ _ _ _ (fun e2 => by have := (h.lt e').2; simp at e2; omega)

/-- An owned row reads as something new. -/
theorem Own.new {w : World} {B e N : Nat} {P : Nat → Prop} {v : Value} {cs : List Value} (h : Own w B e v cs) (hB : N ≤ B) : Rd w (fun k => P k ∨ N ≤ k) v cs :=
  h.rd.mono fun _ _ hk => .inr (Nat.le_trans hB (h.lt hk).2)

theorem push_close {w w1 w2 w3 w4 : World} {P : Nat → Prop} {Ms : List (List Int)} {top : List Int} {x : Int} {m n1 c1 n2 c2 n3 c3 n4 c4 : Nat} {ra1 ra2 ra3 ra4 : Option Addr} {vs1 : List Value} {u z : Value} (_hm : Ms.length = m)
    (he : Each w P vs1 Ms) (ho1 : Own w1 (w.heap.size + 2) 25 (.slice ra1 n1 c1) ([] ++ vs1))
    (hl2 : (Value.slice ra2 n2 c2).ownBlock = (Value.slice none 0 0).ownBlock ∨ (Value.slice ra2 n2 c2).ownBlock = some w1.heap.size)
    (hl3 : (Value.slice ra3 n3 c3).ownBlock = (Value.slice ra2 n2 c2).ownBlock ∨ (Value.slice ra3 n3 c3).ownBlock = some (w2.alloc (.cells #[.int .i64 x] 3)).heap.size)
    (ho3 : Own w3 (w.heap.size + 2) 3 (.slice ra3 n3 c3) (ints top ++ [.int .i64 x]))
    (hg4 : (w3.alloc (.cells #[.slice ra3 n3 c3] 25)).grownBy w4 (Value.slice ra1 n1 c1).ownBlock)
    (ho4 : Own w4 (w.heap.size + 2) 25 (.slice ra4 n4 c4) (vs1 ++ [.slice ra3 n3 c3])) (Y4 : Box2 w u z w4) (hs : w1.heap.size ≤ w2.heap.size) :
    NewStk w P (Ms ++ [top ++ [x]]) (.returned (.agg #[.slice ra4 n4 c4])) (w4.setCell ⟨w.heap.size + 1, 0, none⟩ (.slice ra4 n4 c4)) := by
  have hb : Below w.heap.size w (w4.setCell ⟨w.heap.size + 1, 0, none⟩ (.slice ra4 n4 c4)) := Y4.below.setCell (by simp) _
  have h3 : Own (w4.setCell ⟨w.heap.size + 1, 0, none⟩ (.slice ra4 n4 c4)) (w.heap.size + 2) 3 (.slice ra3 n3 c3) (ints (top ++ [x])) := by
    rw [← ints_append]
    refine Own.setOut (Own.grown (ho3.below ((Below.refl _ _).alloc (Nat.le_refl _) _)) hg4 fun k e e' => ?_) (by omega) _ _
    have a1 := (ho1.lt e').1
    rcases hl3 with h | h
    · rcases hl2 with h' | h'
      · rw [h, h'] at e; simp [Value.ownBlock] at e
      · rw [h, h'] at e; cases e; omega
    · rw [h] at e; cases e; simp at a1; omega
  refine ⟨_, rfl, ⟨vs1 ++ [.slice ra3 n3 c3], ?_, ?_⟩, hb⟩
  · exact (ho4.setOut (by omega) _ _).new (by omega)
  · exact ((he.below hb).mono fun _ _ h => .inl h).snoc (h3.new (by omega))

set_option maxHeartbeats 1000000 in
theorem rpush_any (w : World) {P : Nat → Prop} {u : Value} {Ms : List (List Int)} {top : List Int} (x : Int) (h : RdL w P u (Ms ++ [top])) (hl : Ms.length ≤ 1000000) (ht : top.length ≤ 1000000) :
    Calls Try.prog 12 #[.agg #[u], .int .i64 x] w (NewStk w P (Ms ++ [top ++ [x]])) := by
  obtain ⟨vs, hu, hv⟩ := h
  obtain ⟨vs1, tv, rfl, hv1, he, htv⟩ := hv.unsnoc
  have hlen : (vs1 ++ [tv]).length = Ms.length + 1 := by simp [hv1]
  obtain ⟨g, o, c, rfl, h1, h2, h3, h4⟩ := hu.some_at (by omega)
  rw [hlen] at h1 hu
  have X0 := Box2.start w (.slice (some ⟨g, o, none⟩) (Ms.length + 1) c) (.slice none 0 0) 30
  have hcell := h4 Ms.length (by omega)
  rw [List.getElem?_append_right (by omega), hv1] at hcell
  simp at hcell
  have hcut := hu.cut (k := Ms.length) (by omega)
  rw [← hv1, List.take_left, hv1] at hcut
  have HS1 := Lib.hid (hcut.below X0.below)
  have HE := Lib.hid (And.intro he htv)
  have H1 : Hid ((([] : List Value).length + vs1.length) * (24 + 1) ≤ 70000000000000) := by show _ ≤ _; simp [hv1]; omega
  have H2 : Hid ((([] : List Value).length + (ints top).length) * (8 + 1) ≤ 70000000000000) := by show _ ≤ _; simp [ints_length]; omega
  have H3 : Hid (((ints top).length + [Value.int .i64 x].length) * (8 + 1) ≤ 70000000000000) := by show _ ≤ _; simp [ints_length]; omega
  have H4 : ∀ t : Value, Hid ((vs1.length + [t].length) * (24 + 1) ≤ 70000000000000) := by intro t; show _ ≤ _; simp [hv1]; omega
  have HO := Lib.hid he.one
  have Y0 := Lib.hid X0
  rw [hlen]
  clear hu hv he htv h4 hcut hlen X0
  generalize hm : Ms.length = m at *
  have HM := Lib.hid (And.intro hm hv1)
  clear hm hv1
  go_enter Try.func12, Try.ntmps12
  go_wp2_with (first
    | (at_builtin; refine app_wp rfl (.const (.slice none 0 0)) (.tmp 15) rfl Try.underlying28 info25 rfl (by omega) (w.heap.size + 2) (.slice none 0 0) _ rfl rfl (Own.nil _ _ _) HS1.out HO.out H1.out Y0.out.size ?_
       intro ra1 n1 c1 w1 ho1 hg1 hl1
       have Y1 := Lib.hid (Y0.out.app (Own.nil _ _ 25) hg1)
       have q0 := Y1.out.c0
       have q1 := Y1.out.cell hcell
       have HS2 := Lib.hid (HE.out.2.below Y1.out.below))
    | (at_builtin; refine app_wp rfl (.const (.slice none 0 0)) (.tmp 21) rfl Try.underlying25 info3 rfl (by omega) (w.heap.size + 2) (.slice none 0 0) _ rfl rfl (Own.nil _ _ _) HS2.out (ints_one _) H2.out Y1.out.size ?_
       intro ra2 n2 c2 w2 ho2 hg2 hl2
       have Y2 := Lib.hid (Y1.out.app (Own.nil _ _ 3) hg2)
       have Y2a := Lib.hid (Y2.out.alloc (.cells #[.int .i64 x] 3))
       have HO2 : Hid (Own (w2.alloc (.cells #[.int .i64 x] 3)) (w.heap.size + 2) 3 (.slice ra2 n2 c2) (ints top)) := Own.below ho2 ((Below.refl _ _).alloc (Nat.le_refl _) _))
    | (at_builtin; refine app_wp rfl (.tmp 24) (.tmp 26) rfl Try.underlying25 info3 rfl (by omega) (w.heap.size + 2) (.slice ra2 n2 c2) _ rfl rfl HO2.out (rd_one w2 (.int .i64 x) 3) (one_int x) H3.out Y2a.out.size ?_
       intro ra3 n3 c3 w3 ho3 hg3 hl3
       have Y3 := Lib.hid (Y2a.out.app HO2.out hg3)
       have Y3a := Lib.hid (Y3.out.alloc (.cells #[.slice ra3 n3 c3] 25))
       have HO1 : Hid (Own (w3.alloc (.cells #[.slice ra3 n3 c3] 25)) (w.heap.size + 2) 25 (.slice ra1 n1 c1) vs1) := push_own1 ho1 hg2 hl2 hg3 _)
    | (at_builtin; refine app_wp rfl (.tmp 23) (.tmp 28) rfl Try.underlying28 info25 rfl (by omega) (w.heap.size + 2) (.slice ra1 n1 c1) _ rfl rfl HO1.out (rd_one w3 (.slice ra3 n3 c3) 25) (one_slice ra3 n3 c3) (H4 _).out Y3a.out.size ?_
       intro ra4 n4 c4 w4 ho4 hg4 hl4
       have Y4 := Lib.hid (Y3a.out.app HO1.out hg4)
       have q5 := Y4.out.c1
       have q6 := Y4.out.f1))
  refine bodyPost_ret (v := .agg #[.slice ra4 n4 c4]) (by simp [results, Try.results12, go_sem, Y4.out.c1]) rfl ?_
  exact push_close HM.out.1 HE.out.1 ho1 hl2 hl3 ho3 hg4 ho4 Y4.out hg2.size
end Go.Proofs.Ytngiekofaeaaoaa
