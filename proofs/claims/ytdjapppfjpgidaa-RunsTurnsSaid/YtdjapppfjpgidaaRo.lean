/- Walks: Index. -/
import Derived.Test.YtdjapppfjpgidaaRn
namespace Go.Proofs.Ytdjapppfjpgidaa
open Go.RowKit Go.Shelf
attribute [local go_sem] Oper.semAt_some

/-- The place that Index tells where the round of x stands. -/
def posW (t : List Run) (i : Int) (x : Int × Run) : Int := if 1 < t.length then wrap64 (i + wrap64 (x.1 + wrap64 (x.2.2 - (t.getD 0 (0, 0)).2))) else wrap64 (i + x.1)
/-- Index's answer, t not empty, all in bounds. -/
def indexW (r t : List Run) (i : Int) : Int := match (List.range r.length).find? (standsR r t) with
  | some j => posW t i (sz (r.take j), r.getD j (0, 0))
  | none => -1

theorem find_first {p : Nat → Bool} {n k : Nat} (hk : k < n) (h : p k = true) (hb : ∀ j, j < k → p j = false) : (List.range n).find? p = some k := by
  rw [List.find?_range_eq_some]
  exact ⟨h, by simpa using hk, fun j hj => by simp [hb j hj]⟩
theorem find_none {p : Nat → Bool} {n : Nat} (hb : ∀ j, j < n → p j = false) : (List.range n).find? p = none := by
  rw [List.find?_range_eq_none]
  exact fun j hj => by simp [hb j hj]
theorem keeps_below {W W' : World} (h : Below W.heap.size W W') : KeepsOthers W W' := ⟨h.size, fun k _ hk _ => (h.block k (Array.getElem?_eq_some_iff.1 hk).1).trans hk⟩
theorem kp2_below {n₀ n₁ : Nat} {W W' : World} (h : Below W.heap.size W W') (hn : n₀ ≤ W.heap.size) : Kp2 n₀ n₁ W W' := ⟨h.mono hn, fun _ _ _ _ _ hv => (World.cell?_of_block (h.block _ (World.block_lt_of_cell? W _ hv))).trans hv⟩

/-- What holds between two rounds. -/
structure IdxI (W8 : World) (r t : List Run) (pre : List (Int × Run)) (W : World) : Prop where
  bj : Boxed W W8.heap.size 3 (.int .i64 pre.length)
  below : Below W8.heap.size W8 W
  big : W8.heap.size + 2 ≤ W.heap.size
  no : ∀ j, j < pre.length → standsR r t j = false
theorem IdxI.own (W8 : World) (r t : List Run) (n : Nat) (hn : W8.heap.size ≤ n) : OwnFrom n (IdxI W8 r t) := fun pre W W' row h hg hr => by
  have hr2 : ∀ r, row = some r → ∃ o : Obj, W.heap[r]? = some o ∧ o.isCells = false := fun r e => (hr r e).2
  exact ⟨boxed_past h.bj hg hr2, h.below.grown hg h.below.size fun k e => Nat.le_trans hn (hr k e).1, Nat.le_trans h.big hg.size, h.no⟩
/-- .. and where a round has left. -/
structure IdxX (w : World) (b6 : Nat) (i : Int) (r t : List Run) (c : Code) (pre : List (Int × Run)) (W : World) : Prop where
  ret : c = .ret
  at_ : ∃ ini x, pre = ini ++ [x] ∧ Boxed W b6 3 (.int .i64 (posW t i x)) ∧ standsR r t ini.length = true ∧ ∀ j, j < ini.length → standsR r t j = false
  below : Below w.heap.size w W
theorem IdxX.own (w : World) (b6 : Nat) (i : Int) (r t : List Run) (n : Nat) (hn : w.heap.size ≤ n) (c : Code) : OwnFrom n (IdxX w b6 i r t c) := fun pre W W' row h hg hr => by
  have hr2 : ∀ r, row = some r → ∃ o : Obj, W.heap[r]? = some o ∧ o.isCells = false := fun r e => (hr r e).2
  obtain ⟨ini, x, h1, h2, h3⟩ := h.at_
  exact ⟨h.ret, ⟨ini, x, h1, boxed_past h2 hg hr2, h3⟩, h.below.grown hg h.below.size fun k e => Nat.le_trans hn (hr k e).1⟩

/-- What the way to the loop keeps. -/
structure IdxS (w : World) (va vb : Value) (i : Int) (W : World) : Prop where
  b4 : Boxed W w.heap.size 22 vb
  b5 : Boxed W (w.heap.size + 1) 3 (.int .i64 i)
  b6 : Boxed W (w.heap.size + 2) 3 (.int .i64 0)
  below : Below w.heap.size w W
  big : w.heap.size + 3 ≤ W.heap.size
theorem IdxS.keep {w W W' : World} {va vb : Value} {i : Int} (h : IdxS w va vb i W) (hb : Below W.heap.size W W') : IdxS w va vb i W' :=
  ⟨(hb.block _ (by have := h.big; omega)).trans h.b4, (hb.block _ (by have := h.big; omega)).trans h.b5, (hb.block _ (by have := h.big; omega)).trans h.b6, h.below.trans (hb.mono h.below.size), Nat.le_trans h.big hb.size⟩
theorem IdxS.cells {w W : World} {va vb : Value} {i : Int} (h : IdxS w va vb i W) : W.cell? ⟨w.heap.size, 0, none⟩ = some vb ∧ W.cell? ⟨w.heap.size + 1, 0, none⟩ = some (.int .i64 i) := ⟨h.b4.cell, h.b5.cell⟩
theorem IdxS.start (w : World) (va vb : Value) (i : Int) : IdxS w va vb i (((w.alloc (.cells #[vb] 22)).alloc (.cells #[.int .i64 i] 3)).alloc (.cells #[.int .i64 0] 3)) := by
  have h1 := Boxed.new w 22 vb
  have h2 := Boxed.new (w.alloc (.cells #[vb] 22)) 3 (.int .i64 i)
  have h3 := Boxed.new ((w.alloc (.cells #[vb] 22)).alloc (.cells #[.int .i64 i] 3)) 3 (.int .i64 0)
  simp only [World.size_alloc] at h1 h2 h3
  exact ⟨(h1.alloc _).alloc _, h2.alloc _, h3, (((Below.refl _ _).alloc (Nat.le_refl _) _).alloc (by simp) _).alloc (by simp; omega) _, by simp⟩

theorem IdxS.set {w W : World} {va vb : Value} {i : Int} (h : IdxS w va vb i W) {B : Nat} (hB : w.heap.size + 3 ≤ B) (u : Value) : IdxS w va vb i (W.setCell ⟨B, 0, none⟩ u) :=
  ⟨h.b4.other (by omega) _, h.b5.other (by omega) _, h.b6.other (by omega) _, h.below.setCell (p := ⟨B, 0, none⟩) (by simp; omega) _, by simpa [World.setCell] using h.big⟩
/-- Substr's answer lies in its box. -/
def IdxR (w : World) (va vb : Value) (i : Int) (r : List Run) (B7 : Nat) (v : Value) (W : World) : Prop :=
  IdxS w va vb i W ∧ Boxed W B7 22 v ∧ Rr W (fun k => k < W.heap.size) v r ∧ w.heap.size + 3 ≤ B7
theorem idxR_set {w W : World} {va vb v u : Value} {i : Int} {r : List Run} {B : Nat} {P : Nat → Prop} (h : IdxS w va vb i W) (hb : Boxed W B 22 u) (hB : w.heap.size + 3 ≤ B) (hr : Rr W P v r) (hP : ∀ k, P k → B < k) :
    IdxR w va vb i r B v (W.setCell ⟨B, 0, none⟩ v) :=
  ⟨h.set hB v, hb.set v, (hr.kept (by simp [World.setCell]) fun k _ hk => Below.heap_setCell _ _ _ _ (Nat.ne_of_gt (hP k hk))).mono fun k hk _ => hk, hB⟩
theorem idxR_new {w W : World} {va vb v : Value} {i : Int} {r : List Run} {P : Nat → Prop} (h : IdxS w va vb i W) (hr : Rr W P v r) : IdxR w va vb i r W.heap.size v (W.alloc (.cells #[v] 22)) :=
  ⟨h.keep ((Below.refl _ _).alloc (Nat.le_refl _) _), Boxed.new W 22 v, (hr.below ((Below.refl _ _).alloc (Nat.le_refl _) _)).mono fun _ hk _ => hk, h.big⟩

/-- The frame of a round's body. -/
def IdxA (w : World) (s0 s1 : Value) (B7 b8 : Nat) (x : Int × Run) (a' : Act) (W : World) : Prop :=
  ∃ (Bx : Nat) (u2 u3 u11 u12 u13 u14 u15 u16 u17 u18 u19 u20 u21 u22 u23 u24 u25 u26 u27 u28 u29 u30 u31 u32 u33 u34 u35 u36 u37 u38 u39 u40 u41 u42 u43 u44 u45 u46 u47 u48 u49 u50 u51 u52 u53 u54 u55 u56 u57 u58 u59 u60 u61 u62 : Value), b8 + 2 ≤ Bx ∧ W.heap[Bx]? = some (.cells #[.int .i64 x.2.1, .int .i64 x.2.2] 38 (0, 0)) ∧ a' = { tmps := #[s0, s1, u2, u3, .pointer (some ⟨w.heap.size, 0, none⟩), .pointer (some ⟨w.heap.size + 1, 0, none⟩), .pointer (some ⟨w.heap.size + 1 + 1, 0, none⟩), .pointer (some ⟨B7, 0, none⟩), .pointer (some ⟨b8, 0, none⟩), .int .i64 x.1, .pointer (some ⟨Bx, 0, none⟩), u11, u12, u13, u14, u15, u16, u17, u18, u19, u20, u21, u22, u23, u24, u25, u26, u27, u28, u29, u30, u31, u32, u33, u34, u35, u36, u37, u38, u39, u40, u41, u42, u43, u44, u45, u46, u47, u48, u49, u50, u51, u52, u53, u54, u55, u56, u57, u58, u59, u60, u61, u62], defers := [] }

set_option maxRecDepth 100000 in
set_option maxHeartbeats 8000000 in
theorem index_in (w : World) {P Q : Nat → Prop} (aa ab : Option Addr) (n0 m0 ca cb : Nat) (s t : List Run) (hs : Rr w P (.slice aa n0 ca) s) (ht : Rr w Q (.slice ab m0 cb) t) (hms : may s = true) (hmt : may t = true) (i : Int) (hi : 0 ≤ i) (hi2 : i ≤ sz s) (hp : 0 < t.length) (hMr : May (substr s i (sz s))) :
    CallsIn Fence.wide 6 Try.prog 20 #[.slice aa n0 ca, .slice ab m0 cb, .int .i64 i] w fun e W' => e = .returned (.int .i64 (indexW (substr s i (sz s)) t i)) ∧ Below w.heap.size w W' := by
  have HMs : Hid (∀ w1, Below w.heap.size w w1 → Calls Try.prog 16 #[.slice aa n0 ca] w1 fun e w' => e = .returned (.bool true) ∧ Below w1.heap.size w1 w') := fun w1 hb => by
    have := may_any (hs.below hb); rwa [hms] at this
  have HMt : Hid (∀ w1, Below w.heap.size w w1 → Calls Try.prog 16 #[.slice ab m0 cb] w1 fun e w' => e = .returned (.bool true) ∧ Below w1.heap.size w1 w') := fun w1 hb => by
    have := may_any (ht.below hb); rwa [hmt] at this
  have HSz : Hid (∀ w1, Below w.heap.size w w1 → Calls Try.prog 37 #[.slice aa n0 ca] w1 fun e w' => e = .returned (.int .i64 (sz s)) ∧ Below w1.heap.size w1 w') := fun w1 hb => size_any (hs.below hb) hms
  have hA := (may_iff.1 hms).size
  have HSu : Hid (∀ w1, Below w.heap.size w w1 → Calls Try.prog 13 #[.slice aa n0 ca, .int .i64 i, .int .i64 (sz s)] w1 (NewR w1 (substr s i (sz s)))) := fun w1 hb => substr_any (hs.below hb) i (sz s) (by omega)
  have HT : Hid (Rr w Q (.slice ab m0 cb) t) := ht
  have HM : Hid (May t ∧ May s) := ⟨may_iff.1 hmt, may_iff.1 hms⟩
  have hm0 : 0 < m0 := by rw [ht.len.1]; exact hp
  have HP := Lib.hid (And.intro hp ht.len.1)
  have HMr := Lib.hid hMr
  clear hs ht hms hmt hp hMr
  generalize sz s = A at *
  generalize substr s i A = r at *
  have hmx : Try.prog.follows .mixedOrders = true := by kernel_rfl
  refine callsIn_of_wp_marks Try.func20 rfl trivial ?_ rfl
  simp only [Try.ntmps20, List.size_toArray, List.length_cons, List.length_nil, Nat.reduceAdd, Nat.reduceSub, Array.replicate_succ, Array.replicate_zero, List.push_toArray, List.append_toArray, List.nil_append, List.cons_append]
  have H0 := Lib.hid (IdxS.start w (.slice aa n0 ca) (.slice ab m0 cb) i)
  have g1 : decide (i < 0) = false := by simpa using hi
  have g2 : decide (A < i) = false := by simpa using hi2
  gi_wp2
  obtain ⟨W3, hW3⟩ : ∃ W3, W3 = (((w.alloc (.cells #[.slice ab m0 cb] 22)).alloc (.cells #[.int .i64 i] 3)).alloc (.cells #[.int .i64 0] 3)) := ⟨_, rfl⟩
  rw [← hW3] at H0 ⊢
  clear hW3
  have c4 := H0.out.b4.cell
  have c5 := H0.out.b5.cell
  have D0 : IdxS w (.slice aa n0 ca) (.slice ab m0 cb) i W3.drew := H0.out.keep (below_drewN (Below.refl _ _) 1)
  refine wpIn_wide.2 ?_
  go_region_held3 (fun W => (W.cell? ⟨w.heap.size, 0, none⟩ = some (.slice ab m0 cb) ∧ W.cell? ⟨w.heap.size + 1, 0, none⟩ = some (.int .i64 i)) ∧ IdxS w (.slice aa n0 ca) (.slice ab m0 cb) i W) (first | assumption | (refine ⟨⟨?_, ?_⟩, ?_⟩ <;> first | assumption | go_keep))
    (first
      | (go_at_call 16; refine (HMs.out _ (‹_ ∧ IdxS _ _ _ _ _›).2.below).mono ?_; rintro e w5 ⟨rfl, hb5⟩; clear HMs; have q5 := (‹_ ∧ IdxS _ _ _ _ _›).2.keep hb5; have z5 := And.intro q5.cells q5)
      | (go_at_call 16; refine (HMt.out _ (‹_ ∧ IdxS _ _ _ _ _›).2.below).mono ?_; rintro e w6 ⟨rfl, hb6⟩; clear HMt; have q6 := (‹_ ∧ IdxS _ _ _ _ w5›).2.keep hb6; have z6 := And.intro q6.cells q6)
      | (go_at_call 37; refine (HSz.out _ (‹_ ∧ IdxS _ _ _ _ w6›).2.below).mono ?_; rintro e w7 ⟨rfl, hb7⟩; have q7 := (‹_ ∧ IdxS _ _ _ _ w6›).2.keep hb7; have z7 := And.intro q7.cells q7))
  have H7 := Lib.hid q7
  clear q5 z5 q6 z6 q7 z7 hb5 hb6 hb7 D0 c4 c5 H0
  have c4 := H7.out.b4.cell
  have c5 := H7.out.b5.cell
  have g3 : ((m0 : Int) == 0) = false := by rw [beq_eq_false_iff_ne]; omega
  gi_wp2
  have D1 : IdxS w (.slice aa n0 ca) (.slice ab m0 cb) i w7.drew := H7.out.keep (below_drewN (Below.refl _ _) 1)
  have e1 := D1.cells.2
  have D1a : IdxS w (.slice aa n0 ca) (.slice ab m0 cb) i (w7.drew.alloc (.cells #[.slice none 0 0] 22)) := D1.keep ((Below.refl _ _).alloc (Nat.le_refl _) _)
  have e1a := D1a.cells.2
  have n7 : w7.heap.size ≠ w.heap.size + 1 := by have := H7.out.big; omega
  have n7' : w.heap.size + 1 ≠ w7.heap.size := n7.symm
  refine wpIn_wide.2 ?_
  refine Code.wp_mono (Q := fun e a W => ∃ (B7 : Nat) (ra : Option Addr) (rc : Nat), e = .normal ∧ a = { tmps := #[.slice aa n0 ca, .slice ab m0 cb, .int .i64 i, undef, .pointer (some ⟨w.heap.size, 0, none⟩), .pointer (some ⟨w.heap.size + 1, 0, none⟩), .pointer (some ⟨w.heap.size + 1 + 1, 0, none⟩), .pointer (some ⟨B7, 0, none⟩), undef, undef, undef, .slice aa n0 ca, .bool true, .bool false, .bool false, .slice ab m0 cb, .bool true, .bool false, .bool false, .bool false, .int .i64 i, .bool false, .bool false, .bool false, .int .i64 i, .slice aa n0 ca, .int .i64 A, .bool false, .bool false, .slice ab m0 cb, .int .i64 m0, .bool false, undef, .slice aa n0 ca, .int .i64 i, .slice aa n0 ca, .int .i64 A, .slice ra r.length rc, undef, undef, undef, undef, undef, undef, undef, undef, undef, undef, undef, undef, undef, undef, undef, undef, undef, undef, undef, undef, undef, undef, undef, undef, undef], defers := [] } ∧ IdxR w (.slice aa n0 ca) (.slice ab m0 cb) i r B7 (.slice ra r.length rc) W) ?_ ?_
  case refine_2 =>
    go_region_held3 (fun W => W.cell? ⟨w.heap.size + 1, 0, none⟩ = some (.int .i64 i)) (first | assumption | go_keep)
      (first
        | (go_at_call 37; refine (HSz.out _ (by first | exact D1.below | exact D1a.below)).mono ?_; rintro e w10 ⟨rfl, hb10⟩
           have q10 : IdxS w (.slice aa n0 ca) (.slice ab m0 cb) i w10 := by first | exact D1.keep hb10 | exact D1a.keep hb10
           have z10 := q10.cells.2
           have n10 : w10.heap.size ≠ w.heap.size + 1 := by have := q10.big; omega
           have n10' : w.heap.size + 1 ≠ w10.heap.size := n10.symm
           have q10a : IdxS w (.slice aa n0 ca) (.slice ab m0 cb) i (w10.alloc (.cells #[.slice none 0 0] 22)) := q10.keep ((Below.refl _ _).alloc (Nat.le_refl _) _)
           have z10a := q10a.cells.2
           try (have x10 : Boxed w10 w7.heap.size 22 (.slice none 0 0) := (hb10.block _ (by simp)).trans (Boxed.new w7.drew 22 _)))
        | (go_at_call 13; refine (HSu.out _ (by first | exact q10.below | exact q10a.below)).mono ?_; rintro e w11 ⟨ra, rc, rfl, hr11, hb11⟩
           have q11 : IdxS w (.slice aa n0 ca) (.slice ab m0 cb) i w11 := by first | exact q10.keep hb11 | exact q10a.keep hb11
           have z11 := q11.cells.2
           have n11 : w11.heap.size ≠ w.heap.size + 1 := by have := q11.big; omega
           have n11' : w.heap.size + 1 ≠ w11.heap.size := n11.symm
           have q11a : IdxS w (.slice aa n0 ca) (.slice ab m0 cb) i (w11.alloc (.cells #[.slice none 0 0] 22)) := q11.keep ((Below.refl _ _).alloc (Nat.le_refl _) _)
           have z11a := q11a.cells.2
           try (have x11 : Boxed w11 w7.heap.size 22 (.slice none 0 0) := (hb11.block _ x10.lt).trans x10
                have x11c := x11.cell
                have x11f := x11.frozen)
           try (have y11 : Boxed w11 w10.heap.size 22 (.slice none 0 0) := (hb11.block _ (by simp)).trans (Boxed.new w10 22 _)
                have y11c := y11.cell
                have y11f := y11.frozen)))
    all_goals first
      | exact ⟨_, ra, rc, rfl, rfl, idxR_set q11 x11 H7.out.big hr11 fun k hk => Nat.lt_of_lt_of_le x10.lt (by simpa using hk)⟩
      | exact ⟨_, ra, rc, rfl, rfl, idxR_set q11 y11 q10.big hr11 fun k hk => by simp at hk; omega⟩
      | exact ⟨_, ra, rc, rfl, rfl, idxR_new q11 hr11⟩
  rintro _ _ W8 ⟨B7, ra, rc, rfl, rfl, hR8⟩
  have BJ : Hid (Boxed (W8.alloc (.cells #[.int .i64 0] 3)) W8.heap.size 3 (.int .i64 0)) := Boxed.new _ _ _
  have B7b : Hid (Boxed (W8.alloc (.cells #[.int .i64 0] 3)) B7 22 (.slice ra r.length rc)) := hR8.2.1.alloc _
  have c7 := B7b.out.cell
  have hlt7 := hR8.2.1.lt
  have H8 := Lib.hid hR8
  clear hR8 D1 e1 D1a e1a
  gi_wp2
  refine ⟨trivial, ?_⟩
  refine (placed_in Fence.wide _ trivial rfl _ _ _ _).mono ?_
  rintro e w2 ⟨rfl, rfl⟩
  gi_wp2
  have BS : Hid (Boxed ((W8.alloc (.cells #[.int .i64 0] 3)).alloc (.cells #[.slice ra r.length rc] 22)) (W8.heap.size + 1) 22 (.slice ra r.length rc)) := by
    have := Boxed.new (W8.alloc (.cells #[.int .i64 0] 3)) 22 (.slice ra r.length rc)
    rwa [World.size_alloc] at this
  have HI : Hid (IdxI W8 r t [] ((W8.alloc (.cells #[.int .i64 0] 3)).alloc (.cells #[.slice ra r.length rc] 22))) :=
    ⟨BJ.out.alloc _, ((Below.refl _ _).alloc (Nat.le_refl _) _).alloc (by simp) _, by simp, fun j hj => by simp at hj⟩
  have hsz0 : ((W8.alloc (.cells #[.int .i64 0] 3)).alloc (.cells #[.slice ra r.length rc] 22)).heap.size = W8.heap.size + 2 := by simp
  have hl0 : r.length ≤ 65536 := HMr.out.1
  have HRR : Hid (Rr ((W8.alloc (.cells #[.int .i64 0] 3)).alloc (.cells #[.slice ra r.length rc] 22)) (fun k => k < W8.heap.size) (.slice ra r.length rc) r) := H8.out.2.2.1.below HI.out.below
  generalize hW0 : (W8.alloc (.cells #[.int .i64 0] 3)).alloc (.cells #[.slice ra r.length rc] 22) = W0 at *
  clear hW0 BJ B7b c7 H7 c4 c5 n7 n7'
  have hb8 := hlt7
  have hw8 := H8.out.1.big
  refine wpIn_rangeFunc_ownH rfl (by omega) (gf := 44) (lb := #[.pointer (some ⟨W8.heap.size + 1, 0, none⟩)]) rfl trivial (enters_of Try.func44 (by kernel_rfl) rfl)
    (placed_stops Fence.wide 5 trivial rfl (by omega) (W8.heap.size + 1) W8.heap.size (W8.heap.size + 2) ra r.length rc r (fun j hj => by have := HMr.out.bounds hj; omega) (by omega) W0 (by omega) (by omega) (by omega) BS.out.cell HRR.out)
    kp2_t (kp2_b (by omega)) (Below.refl _ _) (fun _ => rfl) (IdxI W8 r t) (IdxX w (w.heap.size + 2) i r t) (IdxI.own W8 r t _ (by omega)) (IdxX.own w (w.heap.size + 2) i r t _ (by omega)) HI.out
    (IdxA w (.slice aa n0 ca) (.slice ab m0 cb) B7 W8.heap.size) ?hAx ?assign ?body ?done ?stop
  case hAx =>
    intro x a' _ W W' row h hg hr
    obtain ⟨Bx, u2, u3, u11, u12, u13, u14, u15, u16, u17, u18, u19, u20, u21, u22, u23, u24, u25, u26, u27, u28, u29, u30, u31, u32, u33, u34, u35, u36, u37, u38, u39, u40, u41, u42, u43, u44, u45, u46, u47, u48, u49, u50, u51, u52, u53, u54, u55, u56, u57, u58, u59, u60, u61, u62, h1, h2, h3⟩ := h
    refine ⟨Bx, u2, u3, u11, u12, u13, u14, u15, u16, u17, u18, u19, u20, u21, u22, u23, u24, u25, u26, u27, u28, u29, u30, u31, u32, u33, u34, u35, u36, u37, u38, u39, u40, u41, u42, u43, u44, u45, u46, u47, u48, u49, u50, u51, u52, u53, u54, u55, u56, u57, u58, u59, u60, u61, u62, h1, (hg.block Bx (Array.getElem?_eq_some_iff.1 h2).1 fun e => ?_).trans h2, h3⟩
    obtain ⟨_, o, ho, hc⟩ := hr Bx e.symm
    rw [h2] at ho
    cases ho
    simp [Obj.isCells] at hc
  case assign =>
    rintro l pre x W K hI hK
    have hbig := hI.big
    dsimp only [encP]
    gi_wp2
    exact hK _ _ ((KeepsOthers.alloc _ _).from _) (kp2_alloc _ _ hI.below.size) ((IdxI.own W8 r t W8.heap.size (Nat.le_refl _)).alloc _ hI) ⟨W.heap.size, _, _, _, _, _, _, _, _, _, _, _, _, _, _, _, _, _, _, _, _, _, _, _, _, _, _, _, _, _, _, _, _, _, _, _, _, _, _, _, _, _, _, _, _, _, _, _, _, _, _, _, _, _, _, hbig, World.alloc_heap_new W _, rfl⟩
  case body =>
    rintro l pre x a' W hl ⟨rl, hrl⟩ hI ⟨Bx, u2, u3, u11, u12, u13, u14, u15, u16, u17, u18, u19, u20, u21, u22, u23, u24, u25, u26, u27, u28, u29, u30, u31, u32, u33, u34, u35, u36, u37, u38, u39, u40, u41, u42, u43, u44, u45, u46, u47, u48, u49, u50, u51, u52, u53, u54, u55, u56, u57, u58, u59, u60, u61, u62, h1, h2, rfl⟩ hlt
    obtain ⟨xa, xc, xn⟩ := x
    simp only at h2
    have S1 : IdxS w (.slice aa n0 ca) (.slice ab m0 cb) i W := H8.out.1.keep hI.below
    have c4 := S1.b4.cell
    have c7 := (show Boxed W B7 22 (.slice ra r.length rc) from (hI.below.block _ hlt7).trans H8.out.2.1).cell
    have cj := hI.bj.cell
    have cjf := hI.bj.frozen
    have Rs : Rr W (fun k => k < W8.heap.size) (.slice ra r.length rc) r := H8.out.2.2.1.below hI.below
    have Rt : Rr W Q (.slice ab m0 cb) t := HT.out.below S1.below
    have HSt := Lib.hid (stands_any Rs Rt pre.length (by omega) hl0 HM.out.1.1 HP.out.1)
    have HI2 := Lib.hid hI
    have HH2 := Lib.hid h2
    have HS1 := Lib.hid S1
    have wj : IntKind.i64.wrap ((pre.length : Int) + 1) = (pre.length : Int) + 1 := IntWalk.i64_in _ (by omega)
    obtain ⟨t0, ht0⟩ : ∃ q, q = t.getD 0 (0, 0) := ⟨_, rfl⟩
    have HT0 := Lib.hid ht0
    obtain ⟨gt, ot, rfl, _, _, tc0, tc1⟩ := Rt.at (i := 0) HP.out.1
    simp only [Nat.zero_mul, Nat.add_zero] at tc0 tc1
    rw [← ht0] at tc0 tc1
    clear hI h2 S1 Rs Rt ht0
    obtain ⟨ta, tn⟩ := t0
    simp only at tc0 tc1
    cases hst : standsR r t pre.length with
    | true =>
      rw [hst] at HSt
      have hst2 := Lib.hid hst
      clear hst
      have hbj := HI2.out.bj.lt
      gi_wp2
      refine ⟨trivial, ?_⟩
      refine (CallsIn.inRound l (callsIn_wide.2 HSt.out)).mono ?_
      rintro e W1 ⟨rfl, hb1⟩
      have S2 := HS1.out.keep hb1
      have d4 := S2.b4.cell
      have d5 := S2.b5.cell
      have d6 := S2.b6.cell
      have d6f := S2.b6.frozen
      have d10 := (hb1.cell (p := ⟨Bx, 1, none⟩) (Array.getElem?_eq_some_iff.1 HH2.out).1).trans (show W.cell? ⟨Bx, 1, none⟩ = some (.int .i64 xn) by simp [World.cell?, HH2.out])
      have dt0 := (hb1.cell (p := ⟨gt, ot + 1, none⟩) (World.block_lt_of_cell? W (⟨gt, ot + 1, none⟩ : Addr) tc1)).trans tc1
      have HS2 := Lib.hid S2
      have HB1 := Lib.hid hb1
      clear S2 hb1 c4 c7 cj cjf tc0 tc1 HSt
      by_cases hm1 : 1 < m0
      · have hd1 : decide ((1 : Int) < (m0 : Int)) = true := by simp; omega
        have HV : Hid (posW t i (xa, (xc, xn)) = wrap64 (i + wrap64 (xa + wrap64 (xn - tn)))) := by
          show _ = _
          rw [posW, if_pos (by rw [← HP.out.2]; exact hm1), ← HT0.out]
        gi_wp2
        refine region_quietR hmx (by kernel_rfl) (by kernel_rfl) ?_
        repeat (gi_big_quiet_step (fail))
        refine wpQuietIn_nil ?_
        rintro _ ⟨nq, rfl⟩
        have k5 : (W1.drewN nq).cell? ⟨w.heap.size + 1, 0, none⟩ = some (.int .i64 i) := d5
        have k6 : (W1.drewN nq).cell? ⟨w.heap.size + 1 + 1, 0, none⟩ = some (.int .i64 0) := d6
        have k6f : (W1.drewN nq).frozen? ⟨w.heap.size + 1 + 1, 0, none⟩ = false := d6f
        gi_wp2
        exact ⟨((keeps_below HB1.out).trans ((keeps_drewN W1 nq).trans (KeepsOthers.setCell _ _ _))).from _, rfl, ⟨pre, (xa, (xc, xn)), rfl, by rw [HV.out]; exact (show Boxed (W1.drewN nq) (w.heap.size + 2) 3 (.int .i64 0) from HS2.out.b6).set _, hst2.out, HI2.out.no⟩, (below_drewN HS2.out.below nq).setCell (p := ⟨w.heap.size + 1 + 1, 0, none⟩) (by simp; omega) _⟩
      · have hd1 : decide ((1 : Int) < (m0 : Int)) = false := by simp; omega
        have HV : Hid (posW t i (xa, (xc, xn)) = wrap64 (i + xa)) := by
          show _ = _
          rw [posW, if_neg (by rw [← HP.out.2]; exact hm1)]
        gi_wp2
        exact ⟨((keeps_below HB1.out).trans (KeepsOthers.setCell _ _ _)).from _, rfl, ⟨pre, (xa, (xc, xn)), rfl, by rw [HV.out]; exact HS2.out.b6.set _, hst2.out, HI2.out.no⟩, HS2.out.below.setCell (p := ⟨w.heap.size + 1 + 1, 0, none⟩) (by simp; omega) _⟩
    | false =>
      rw [hst] at HSt
      have hst2 := Lib.hid hst
      clear hst
      gi_wp2
      refine ⟨trivial, ?_⟩
      refine (CallsIn.inRound l (callsIn_wide.2 HSt.out)).mono ?_
      rintro e W1 ⟨rfl, hb1⟩
      have hbj := HI2.out.bj.lt
      have cj1 := (hb1.cell (p := ⟨W8.heap.size, 0, none⟩) hbj).trans cj
      have cj2 := (show Boxed W1 W8.heap.size 3 (.int .i64 pre.length) from (hb1.block _ hbj).trans HI2.out.bj).frozen
      gi_wp2
      refine ⟨((keeps_below hb1).trans (KeepsOthers.setCell _ _ _)).from _, kp2_t (kp2_below hb1 HI2.out.below.size) (kp2_set W1 W8.heap.size _ (Nat.le_refl _) (by omega)), ?_, (HI2.out.below.trans (hb1.mono HI2.out.below.size)).setCell (p := ⟨W8.heap.size, 0, none⟩) (Nat.le_refl _) _, ?_, ?_⟩
      · have hb := (show Boxed W1 W8.heap.size 3 (.int .i64 pre.length) from (hb1.block _ hbj).trans HI2.out.bj).set (.int .i64 ((pre.length : Int) + 1))
        simpa using hb
      · have := HI2.out.big
        have := hb1.size
        simp [World.setCell]
        omega
      · intro j hj
        simp at hj
        rcases Nat.lt_or_ge j pre.length with h | h
        · exact HI2.out.no j h
        · obtain rfl : j = pre.length := by omega
          exact hst2.out
  case done =>
    rintro D ys W hD rfl hI hK
    have b6 : Boxed W (w.heap.size + 2) 3 (.int .i64 0) := (hI.below.block _ (by omega)).trans H8.out.1.b6
    have c6 := b6.cell
    have c6f := b6.frozen
    have HI2 := Lib.hid hI
    have hno := hI.no
    rw [places_length] at hno
    have hans : Hid (indexW r t i = -1) := by
      show _ = _
      rw [indexW, find_none hno]
    clear hI hno
    gi_wp2
    have hK' := (KeepsOthers.setCell W ⟨w.heap.size + 1 + 1, 0, none⟩ (.int .i64 (-1))).same D _ hK rfl
    refine ⟨by simp, .inl ⟨_, _, rfl, run_takeDeferred hK', ?_⟩⟩
    have hc5 := cell_kept (World.cell?_setCell_same' W ⟨w.heap.size + 1 + 1, 0, none⟩ (.int .i64 (-1)) (by rw [c6]; rfl)) (grownBy_putObj' _ D (.deferred none)) (fun r e => by cases e; exact ⟨_, hK', rfl⟩)
    refine ⟨.int .i64 (-1), ?_, by rw [hans.out], ((H8.out.1.below.trans (HI2.out.below.mono H8.out.1.below.size)).setCell (p := ⟨w.heap.size + 1 + 1, 0, none⟩) (by simp; omega) _).trans (belowK_b (w := w) (Nat.le_refl _) _ D _ _ (by omega) hK' rfl rfl)⟩
    simp [results, Try.f20, go_sem, hc5]
  case stop =>
    rintro D c pre W hD ⟨k, hk, rfl⟩ hX hK
    obtain ⟨rfl, ⟨ini, x, e1, e2, e3, e4⟩, e5⟩ := hX
    gi_wp2
    refine ⟨by simp, .inl ⟨_, _, rfl, run_takeDeferred hK, ?_⟩⟩
    have hc5 := cell_kept e2.cell (grownBy_putObj' _ D (.deferred none)) (fun r e => by cases e; exact ⟨_, hK, rfl⟩)
    obtain ⟨k', rfl⟩ : ∃ k', k = k' + 1 := by
      cases k with
      | zero => simp [places] at e1
      | succ k' => exact ⟨k', rfl⟩
    rw [places_succ] at e1
    obtain ⟨rfl, e6⟩ := List.append_inj' e1 rfl
    obtain rfl : (sz (r.take k'), r.getD k' (0, 0)) = x := by simpa using e6
    rw [places_length] at e3 e4
    have hans : indexW r t i = posW t i (sz (r.take k'), r.getD k' (0, 0)) := by rw [indexW, find_first (by omega) e3 e4]
    refine ⟨.int .i64 (posW t i (sz (r.take k'), r.getD k' (0, 0))), ?_, by rw [hans], e5.trans (belowK_b (w := w) (Nat.le_refl _) W D _ _ (by omega) hK rfl rfl)⟩
    simp [results, Try.f20, go_sem, hc5]
end Go.Proofs.Ytdjapppfjpgidaa
