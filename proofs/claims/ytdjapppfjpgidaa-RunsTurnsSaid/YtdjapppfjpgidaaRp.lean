/- Walks: Index, its short ways. -/
import Derived.Test.YtdjapppfjpgidaaRo
import Derived.Test.YtdjapppfjpgidaaRv
namespace Go.Proofs.Ytdjapppfjpgidaa
open Go.RowKit Go.Shelf
attribute [local go_sem] Oper.semAt_some

theorem idx_out {w W : World} {va vb : Value} {i : Int} (h : IdxS w va vb i W) (u : Value) : (W.setCell ⟨w.heap.size + 1 + 1, 0, none⟩ u).cell? ⟨w.heap.size + 1 + 1, 0, none⟩ = some u ∧ Below w.heap.size w (W.setCell ⟨w.heap.size + 1 + 1, 0, none⟩ u) :=
  ⟨World.cell?_setCell_same' _ _ _ (by rw [show W.cell? ⟨w.heap.size + 1 + 1, 0, none⟩ = _ from h.b6.cell]; rfl), h.below.setCell (p := ⟨w.heap.size + 1 + 1, 0, none⟩) (by simp; omega) _⟩

set_option maxRecDepth 100000 in
set_option maxHeartbeats 2000000 in
theorem index_no1 {w : World} {P Q : Nat → Prop} {va vb : Value} {s t : List Run} (hs : Rr w P va s) (ht : Rr w Q vb t) (i : Int) (hms : may s = false) :
    Calls Try.prog 20 #[va, vb, .int .i64 i] w fun e W' => e = .returned (.int .i64 (-1)) ∧ Below w.heap.size w W' := by
  have HMs := Lib.hid fun w1 (hb : Below w.heap.size w w1) => may_any (hs.below hb)
  have HMt := Lib.hid fun w1 (hb : Below w.heap.size w w1) => may_any (ht.below hb)
  simp only [hms] at HMs
  obtain ⟨aa, ca, rfl, _⟩ := hs.shape
  obtain ⟨ab, cb, rfl, _⟩ := ht.shape
  clear hs ht
  generalize s.length = n0 at *
  generalize t.length = m0 at *
  have H0 := Lib.hid (IdxS.start w (.slice aa n0 ca) (.slice ab m0 cb) i)
  have hmx : Try.prog.follows .mixedOrders = true := by kernel_rfl
  refine (callsIn_wide (n := 6)).1 (callsIn_of_wp_marks Try.func20 rfl trivial ?_ rfl)
  simp only [Try.ntmps20, List.size_toArray, List.length_cons, List.length_nil, Nat.reduceAdd, Nat.reduceSub, Array.replicate_succ, Array.replicate_zero, List.push_toArray, List.append_toArray, List.nil_append, List.cons_append]
  gi_wp2
  obtain ⟨W3, hW3⟩ : ∃ W3, W3 = (((w.alloc (.cells #[.slice ab m0 cb] 22)).alloc (.cells #[.int .i64 i] 3)).alloc (.cells #[.int .i64 0] 3)) := ⟨_, rfl⟩
  rw [← hW3] at H0 ⊢
  clear hW3
  refine region_inv (Inv := IdxS w (.slice aa n0 ca) (.slice ab m0 cb) i) hmx (by kernel_rfl) (by kernel_rfl) (H0.out.keep (below_drewN (Below.refl _ _) 1)) ?_
  have ine : Nonempty (InvW (IdxS w (.slice aa n0 ca) (.slice ab m0 cb) i)) := ⟨⟨_, H0.out⟩⟩
  have d4 : ∀ x : InvW (IdxS w (.slice aa n0 ca) (.slice ab m0 cb) i), x.w.cell? ⟨w.heap.size, 0, none⟩ = some (.slice ab m0 cb) := fun x => x.ok.b4.cell
  have d5 : ∀ x : InvW (IdxS w (.slice aa n0 ca) (.slice ab m0 cb) i), x.w.cell? ⟨w.heap.size + 1, 0, none⟩ = some (.int .i64 i) := fun x => x.ok.b5.cell
  gi_big_quiet_step (fail)
  refine inv_want rfl ?_
  intro K hK
  gi_big_quiet_op
  apply Exists.intro
  refine ⟨fun x => ?_, ?_⟩
  · exact inv_call rfl ((HMs.out _ x.ok.below).mono fun _ _ ⟨h1, h2⟩ => ⟨h1, x.ok.keep h2⟩)
  refine hK _ ?_
  repeat (first | gi_big_quiet_step (fail) | (refine inv_skip rfl ?_; simp only [Act.put, List.setIfInBounds_toArray, List.set_cons_zero, List.set_cons_succ]))
  refine wpQuietIn_nil ?_
  rintro _ ⟨⟨W5, q5⟩, rfl⟩
  clear d4 d5 H0 ine
  have c4 := q5.b4.cell
  have c5 := q5.b5.cell
  have c6 := q5.b6.cell
  have c6f := q5.b6.frozen
  obtain ⟨o1, o2⟩ := idx_out q5 (.int .i64 (-1))
  clear q5
  gi_wp2
  exact ⟨.int .i64 (-1), by simp [results, Try.f20, go_sem, o1], rfl, o2⟩

set_option maxRecDepth 100000 in
set_option maxHeartbeats 2000000 in
theorem index_no2 {w : World} {P Q : Nat → Prop} {va vb : Value} {s t : List Run} (hs : Rr w P va s) (ht : Rr w Q vb t) (i : Int) (hms : may s = true) (hmt : may t = false) :
    Calls Try.prog 20 #[va, vb, .int .i64 i] w fun e W' => e = .returned (.int .i64 (-1)) ∧ Below w.heap.size w W' := by
  have HMs := Lib.hid fun w1 (hb : Below w.heap.size w w1) => may_any (hs.below hb)
  have HMt := Lib.hid fun w1 (hb : Below w.heap.size w w1) => may_any (ht.below hb)
  simp only [hms] at HMs
  simp only [hmt] at HMt
  obtain ⟨aa, ca, rfl, _⟩ := hs.shape
  obtain ⟨ab, cb, rfl, _⟩ := ht.shape
  clear hs ht
  generalize s.length = n0 at *
  generalize t.length = m0 at *
  have H0 := Lib.hid (IdxS.start w (.slice aa n0 ca) (.slice ab m0 cb) i)
  have hmx : Try.prog.follows .mixedOrders = true := by kernel_rfl
  refine (callsIn_wide (n := 6)).1 (callsIn_of_wp_marks Try.func20 rfl trivial ?_ rfl)
  simp only [Try.ntmps20, List.size_toArray, List.length_cons, List.length_nil, Nat.reduceAdd, Nat.reduceSub, Array.replicate_succ, Array.replicate_zero, List.push_toArray, List.append_toArray, List.nil_append, List.cons_append]
  gi_wp2
  obtain ⟨W3, hW3⟩ : ∃ W3, W3 = (((w.alloc (.cells #[.slice ab m0 cb] 22)).alloc (.cells #[.int .i64 i] 3)).alloc (.cells #[.int .i64 0] 3)) := ⟨_, rfl⟩
  rw [← hW3] at H0 ⊢
  clear hW3
  refine region_inv (Inv := IdxS w (.slice aa n0 ca) (.slice ab m0 cb) i) hmx (by kernel_rfl) (by kernel_rfl) (H0.out.keep (below_drewN (Below.refl _ _) 1)) ?_
  have ine : Nonempty (InvW (IdxS w (.slice aa n0 ca) (.slice ab m0 cb) i)) := ⟨⟨_, H0.out⟩⟩
  have d4 : ∀ x : InvW (IdxS w (.slice aa n0 ca) (.slice ab m0 cb) i), x.w.cell? ⟨w.heap.size, 0, none⟩ = some (.slice ab m0 cb) := fun x => x.ok.b4.cell
  have d5 : ∀ x : InvW (IdxS w (.slice aa n0 ca) (.slice ab m0 cb) i), x.w.cell? ⟨w.heap.size + 1, 0, none⟩ = some (.int .i64 i) := fun x => x.ok.b5.cell
  gi_big_quiet_step (fail)
  refine inv_want rfl ?_
  intro K hK
  gi_big_quiet_op
  apply Exists.intro
  refine ⟨fun x => ?_, ?_⟩
  · exact inv_call rfl ((HMs.out _ x.ok.below).mono fun _ _ ⟨h1, h2⟩ => ⟨h1, x.ok.keep h2⟩)
  refine hK _ ?_
  repeat gi_big_quiet_step (fail)
  refine inv_want rfl ?_
  intro K hK
  gi_big_quiet_op
  apply Exists.intro
  refine ⟨fun x => ?_, ?_⟩
  · exact inv_call rfl ((HMt.out _ x.ok.below).mono fun _ _ ⟨h1, h2⟩ => ⟨h1, x.ok.keep h2⟩)
  refine hK _ ?_
  repeat (first | gi_big_quiet_step (fail) | (refine inv_skip rfl ?_; simp only [Act.put, List.setIfInBounds_toArray, List.set_cons_zero, List.set_cons_succ]))
  refine wpQuietIn_nil ?_
  rintro _ ⟨⟨W5, q5⟩, rfl⟩
  clear d4 d5 H0 ine
  have c4 := q5.b4.cell
  have c5 := q5.b5.cell
  have c6 := q5.b6.cell
  have c6f := q5.b6.frozen
  obtain ⟨o1, o2⟩ := idx_out q5 (.int .i64 (-1))
  clear q5
  gi_wp2
  exact ⟨.int .i64 (-1), by simp [results, Try.f20, go_sem, o1], rfl, o2⟩

set_option maxRecDepth 100000 in
set_option maxHeartbeats 2000000 in
theorem index_no3 {w : World} {P Q : Nat → Prop} {va vb : Value} {s t : List Run} (hs : Rr w P va s) (ht : Rr w Q vb t) (i : Int) (hms : may s = true) (hmt : may t = true) (hi : i < 0) :
    Calls Try.prog 20 #[va, vb, .int .i64 i] w fun e W' => e = .returned (.int .i64 (-1)) ∧ Below w.heap.size w W' := by
  have HMs := Lib.hid fun w1 (hb : Below w.heap.size w w1) => may_any (hs.below hb)
  have HMt := Lib.hid fun w1 (hb : Below w.heap.size w w1) => may_any (ht.below hb)
  simp only [hms] at HMs
  simp only [hmt] at HMt
  have g1 : decide (i < 0) = true := by simpa using hi
  obtain ⟨aa, ca, rfl, _⟩ := hs.shape
  obtain ⟨ab, cb, rfl, _⟩ := ht.shape
  clear hs ht
  generalize s.length = n0 at *
  generalize t.length = m0 at *
  have H0 := Lib.hid (IdxS.start w (.slice aa n0 ca) (.slice ab m0 cb) i)
  have hmx : Try.prog.follows .mixedOrders = true := by kernel_rfl
  refine (callsIn_wide (n := 6)).1 (callsIn_of_wp_marks Try.func20 rfl trivial ?_ rfl)
  simp only [Try.ntmps20, List.size_toArray, List.length_cons, List.length_nil, Nat.reduceAdd, Nat.reduceSub, Array.replicate_succ, Array.replicate_zero, List.push_toArray, List.append_toArray, List.nil_append, List.cons_append]
  gi_wp2
  obtain ⟨W3, hW3⟩ : ∃ W3, W3 = (((w.alloc (.cells #[.slice ab m0 cb] 22)).alloc (.cells #[.int .i64 i] 3)).alloc (.cells #[.int .i64 0] 3)) := ⟨_, rfl⟩
  rw [← hW3] at H0 ⊢
  clear hW3
  refine region_inv (Inv := IdxS w (.slice aa n0 ca) (.slice ab m0 cb) i) hmx (by kernel_rfl) (by kernel_rfl) (H0.out.keep (below_drewN (Below.refl _ _) 1)) ?_
  have ine : Nonempty (InvW (IdxS w (.slice aa n0 ca) (.slice ab m0 cb) i)) := ⟨⟨_, H0.out⟩⟩
  have d4 : ∀ x : InvW (IdxS w (.slice aa n0 ca) (.slice ab m0 cb) i), x.w.cell? ⟨w.heap.size, 0, none⟩ = some (.slice ab m0 cb) := fun x => x.ok.b4.cell
  have d5 : ∀ x : InvW (IdxS w (.slice aa n0 ca) (.slice ab m0 cb) i), x.w.cell? ⟨w.heap.size + 1, 0, none⟩ = some (.int .i64 i) := fun x => x.ok.b5.cell
  gi_big_quiet_step (fail)
  refine inv_want rfl ?_
  intro K hK
  gi_big_quiet_op
  apply Exists.intro
  refine ⟨fun x => ?_, ?_⟩
  · exact inv_call rfl ((HMs.out _ x.ok.below).mono fun _ _ ⟨h1, h2⟩ => ⟨h1, x.ok.keep h2⟩)
  refine hK _ ?_
  repeat gi_big_quiet_step (fail)
  refine inv_want rfl ?_
  intro K hK
  gi_big_quiet_op
  apply Exists.intro
  refine ⟨fun x => ?_, ?_⟩
  · exact inv_call rfl ((HMt.out _ x.ok.below).mono fun _ _ ⟨h1, h2⟩ => ⟨h1, x.ok.keep h2⟩)
  refine hK _ ?_
  repeat (first | gi_big_quiet_step (fail) | (refine inv_skip rfl ?_; simp only [Act.put, List.setIfInBounds_toArray, List.set_cons_zero, List.set_cons_succ]))
  refine wpQuietIn_nil ?_
  rintro _ ⟨⟨W5, q5⟩, rfl⟩
  clear d4 d5 H0 ine
  have c4 := q5.b4.cell
  have c5 := q5.b5.cell
  have c6 := q5.b6.cell
  have c6f := q5.b6.frozen
  obtain ⟨o1, o2⟩ := idx_out q5 (.int .i64 (-1))
  clear q5
  gi_wp2
  exact ⟨.int .i64 (-1), by simp [results, Try.f20, go_sem, o1], rfl, o2⟩

set_option maxRecDepth 100000 in
set_option maxHeartbeats 2000000 in
theorem index_no4 {w : World} {P Q : Nat → Prop} {va vb : Value} {s t : List Run} (hs : Rr w P va s) (ht : Rr w Q vb t) (i : Int) (hms : may s = true) (hmt : may t = true) (hi : 0 ≤ i) (hi2 : sz s < i) :
    Calls Try.prog 20 #[va, vb, .int .i64 i] w fun e W' => e = .returned (.int .i64 (-1)) ∧ Below w.heap.size w W' := by
  have HMs := Lib.hid fun w1 (hb : Below w.heap.size w w1) => may_any (hs.below hb)
  have HMt := Lib.hid fun w1 (hb : Below w.heap.size w w1) => may_any (ht.below hb)
  simp only [hms] at HMs
  simp only [hmt] at HMt
  have HSz := Lib.hid fun w1 (hb : Below w.heap.size w w1) => size_any (hs.below hb) hms
  obtain ⟨aa, ca, rfl, _⟩ := hs.shape
  obtain ⟨ab, cb, rfl, _⟩ := ht.shape
  clear hs ht
  generalize s.length = n0 at *
  generalize t.length = m0 at *
  generalize sz s = A at *
  have g1 : decide (i < 0) = false := by simpa using hi
  have g2 : decide (A < i) = true := by simpa using hi2
  have H0 := Lib.hid (IdxS.start w (.slice aa n0 ca) (.slice ab m0 cb) i)
  have hmx : Try.prog.follows .mixedOrders = true := by kernel_rfl
  refine (callsIn_wide (n := 6)).1 (callsIn_of_wp_marks Try.func20 rfl trivial ?_ rfl)
  simp only [Try.ntmps20, List.size_toArray, List.length_cons, List.length_nil, Nat.reduceAdd, Nat.reduceSub, Array.replicate_succ, Array.replicate_zero, List.push_toArray, List.append_toArray, List.nil_append, List.cons_append]
  gi_wp2
  obtain ⟨W3, hW3⟩ : ∃ W3, W3 = (((w.alloc (.cells #[.slice ab m0 cb] 22)).alloc (.cells #[.int .i64 i] 3)).alloc (.cells #[.int .i64 0] 3)) := ⟨_, rfl⟩
  rw [← hW3] at H0 ⊢
  clear hW3
  refine region_inv (Inv := IdxS w (.slice aa n0 ca) (.slice ab m0 cb) i) hmx (by kernel_rfl) (by kernel_rfl) (H0.out.keep (below_drewN (Below.refl _ _) 1)) ?_
  have ine : Nonempty (InvW (IdxS w (.slice aa n0 ca) (.slice ab m0 cb) i)) := ⟨⟨_, H0.out⟩⟩
  have d4 : ∀ x : InvW (IdxS w (.slice aa n0 ca) (.slice ab m0 cb) i), x.w.cell? ⟨w.heap.size, 0, none⟩ = some (.slice ab m0 cb) := fun x => x.ok.b4.cell
  have d5 : ∀ x : InvW (IdxS w (.slice aa n0 ca) (.slice ab m0 cb) i), x.w.cell? ⟨w.heap.size + 1, 0, none⟩ = some (.int .i64 i) := fun x => x.ok.b5.cell
  gi_big_quiet_step (fail)
  refine inv_want rfl ?_
  intro K hK
  gi_big_quiet_op
  apply Exists.intro
  refine ⟨fun x => ?_, ?_⟩
  · exact inv_call rfl ((HMs.out _ x.ok.below).mono fun _ _ ⟨h1, h2⟩ => ⟨h1, x.ok.keep h2⟩)
  refine hK _ ?_
  repeat gi_big_quiet_step (fail)
  refine inv_want rfl ?_
  intro K hK
  gi_big_quiet_op
  apply Exists.intro
  refine ⟨fun x => ?_, ?_⟩
  · exact inv_call rfl ((HMt.out _ x.ok.below).mono fun _ _ ⟨h1, h2⟩ => ⟨h1, x.ok.keep h2⟩)
  refine hK _ ?_
  repeat gi_big_quiet_step (fail)
  refine inv_want rfl ?_
  intro K hK
  gi_big_quiet_op
  apply Exists.intro
  refine ⟨fun x => ?_, ?_⟩
  · exact inv_call rfl ((HSz.out _ x.ok.below).mono fun _ _ ⟨h1, h2⟩ => ⟨h1, x.ok.keep h2⟩)
  refine hK _ ?_
  repeat (first | gi_big_quiet_step (fail) | (refine inv_skip rfl ?_; simp only [Act.put, List.setIfInBounds_toArray, List.set_cons_zero, List.set_cons_succ]))
  refine wpQuietIn_nil ?_
  rintro _ ⟨⟨W5, q5⟩, rfl⟩
  clear d4 d5 H0 ine
  have c4 := q5.b4.cell
  have c5 := q5.b5.cell
  have c6 := q5.b6.cell
  have c6f := q5.b6.frozen
  obtain ⟨o1, o2⟩ := idx_out q5 (.int .i64 (-1))
  clear q5
  gi_wp2
  exact ⟨.int .i64 (-1), by simp [results, Try.f20, go_sem, o1], rfl, o2⟩

set_option maxRecDepth 100000 in
set_option maxHeartbeats 2000000 in
theorem index_no5 {w : World} {P Q : Nat → Prop} {va vb : Value} {s t : List Run} (hs : Rr w P va s) (ht : Rr w Q vb t) (i : Int) (hms : may s = true) (hmt : may t = true) (hi : 0 ≤ i) (hi2 : i ≤ sz s) (h0 : t.length = 0) :
    Calls Try.prog 20 #[va, vb, .int .i64 i] w fun e W' => e = .returned (.int .i64 (i)) ∧ Below w.heap.size w W' := by
  have HMs := Lib.hid fun w1 (hb : Below w.heap.size w w1) => may_any (hs.below hb)
  have HMt := Lib.hid fun w1 (hb : Below w.heap.size w w1) => may_any (ht.below hb)
  simp only [hms] at HMs
  simp only [hmt] at HMt
  have HSz := Lib.hid fun w1 (hb : Below w.heap.size w w1) => size_any (hs.below hb) hms
  obtain ⟨aa, ca, rfl, _⟩ := hs.shape
  obtain ⟨ab, cb, rfl, _⟩ := ht.shape
  clear hs ht
  generalize s.length = n0 at *
  generalize t.length = m0 at *
  generalize sz s = A at *
  have g5 : ((m0 : Int) == 0) = true := by rw [beq_iff_eq]; omega
  clear h0
  have g1 : decide (i < 0) = false := by simpa using hi
  have g2 : decide (A < i) = false := by simpa using hi2
  have H0 := Lib.hid (IdxS.start w (.slice aa n0 ca) (.slice ab m0 cb) i)
  have hmx : Try.prog.follows .mixedOrders = true := by kernel_rfl
  refine (callsIn_wide (n := 6)).1 (callsIn_of_wp_marks Try.func20 rfl trivial ?_ rfl)
  simp only [Try.ntmps20, List.size_toArray, List.length_cons, List.length_nil, Nat.reduceAdd, Nat.reduceSub, Array.replicate_succ, Array.replicate_zero, List.push_toArray, List.append_toArray, List.nil_append, List.cons_append]
  gi_wp2
  obtain ⟨W3, hW3⟩ : ∃ W3, W3 = (((w.alloc (.cells #[.slice ab m0 cb] 22)).alloc (.cells #[.int .i64 i] 3)).alloc (.cells #[.int .i64 0] 3)) := ⟨_, rfl⟩
  rw [← hW3] at H0 ⊢
  clear hW3
  refine region_inv (Inv := IdxS w (.slice aa n0 ca) (.slice ab m0 cb) i) hmx (by kernel_rfl) (by kernel_rfl) (H0.out.keep (below_drewN (Below.refl _ _) 1)) ?_
  have ine : Nonempty (InvW (IdxS w (.slice aa n0 ca) (.slice ab m0 cb) i)) := ⟨⟨_, H0.out⟩⟩
  have d4 : ∀ x : InvW (IdxS w (.slice aa n0 ca) (.slice ab m0 cb) i), x.w.cell? ⟨w.heap.size, 0, none⟩ = some (.slice ab m0 cb) := fun x => x.ok.b4.cell
  have d5 : ∀ x : InvW (IdxS w (.slice aa n0 ca) (.slice ab m0 cb) i), x.w.cell? ⟨w.heap.size + 1, 0, none⟩ = some (.int .i64 i) := fun x => x.ok.b5.cell
  gi_big_quiet_step (fail)
  refine inv_want rfl ?_
  intro K hK
  gi_big_quiet_op
  apply Exists.intro
  refine ⟨fun x => ?_, ?_⟩
  · exact inv_call rfl ((HMs.out _ x.ok.below).mono fun _ _ ⟨h1, h2⟩ => ⟨h1, x.ok.keep h2⟩)
  refine hK _ ?_
  repeat gi_big_quiet_step (fail)
  refine inv_want rfl ?_
  intro K hK
  gi_big_quiet_op
  apply Exists.intro
  refine ⟨fun x => ?_, ?_⟩
  · exact inv_call rfl ((HMt.out _ x.ok.below).mono fun _ _ ⟨h1, h2⟩ => ⟨h1, x.ok.keep h2⟩)
  refine hK _ ?_
  repeat gi_big_quiet_step (fail)
  refine inv_want rfl ?_
  intro K hK
  gi_big_quiet_op
  apply Exists.intro
  refine ⟨fun x => ?_, ?_⟩
  · exact inv_call rfl ((HSz.out _ x.ok.below).mono fun _ _ ⟨h1, h2⟩ => ⟨h1, x.ok.keep h2⟩)
  refine hK _ ?_
  repeat (first | gi_big_quiet_step (fail) | (refine inv_skip rfl ?_; simp only [Act.put, List.setIfInBounds_toArray, List.set_cons_zero, List.set_cons_succ]))
  refine wpQuietIn_nil ?_
  rintro _ ⟨⟨W5, q5⟩, rfl⟩
  clear d4 d5 H0 ine
  have c4 := q5.b4.cell
  have c5 := q5.b5.cell
  have c6 := q5.b6.cell
  have c6f := q5.b6.frozen
  obtain ⟨o1, o2⟩ := idx_out q5 (.int .i64 (i))
  clear q5
  gi_wp2
  exact ⟨.int .i64 (i), by simp [results, Try.f20, go_sem, o1], rfl, o2⟩

/-- Index's answer. -/
def indexR (s t : List Run) (i : Int) : Int :=
  if may s = true ∧ may t = true ∧ 0 ≤ i ∧ i ≤ sz s then (if t.length = 0 then i else indexW (substr s i (sz s)) t i) else -1
theorem index_any {w : World} {P Q : Nat → Prop} {va vb : Value} {s t : List Run} (hs : Rr w P va s) (ht : Rr w Q vb t) (i : Int) (hMr : may s = true → May (substr s i (sz s))) :
    Calls Try.prog 20 #[va, vb, .int .i64 i] w fun e W' => e = .returned (.int .i64 (indexR s t i)) ∧ Below w.heap.size w W' := by
  cases h1 : may s with
  | false => rw [indexR, if_neg (by simp [h1])]; exact index_no1 hs ht i h1
  | true =>
    cases h2 : may t with
    | false => rw [indexR, if_neg (by simp [h2])]; exact index_no2 hs ht i h1 h2
    | true =>
      by_cases h3 : i < 0
      · rw [indexR, if_neg (by omega)]; exact index_no3 hs ht i h1 h2 h3
      by_cases h4 : sz s < i
      · rw [indexR, if_neg (by omega)]; exact index_no4 hs ht i h1 h2 (by omega) h4
      rw [indexR, if_pos ⟨h1, h2, by omega, by omega⟩]
      by_cases h5 : t.length = 0
      · rw [if_pos h5]; exact index_no5 hs ht i h1 h2 (by omega) (by omega) h5
      · rw [if_neg h5]
        obtain ⟨aa, ca, rfl, _⟩ := hs.shape
        obtain ⟨ab, cb, rfl, _⟩ := ht.shape
        exact callsIn_wide.1 (index_in w aa ab _ _ ca cb s t hs ht h1 h2 i (by omega) (by omega) (by omega) (hMr h1))
end Go.Proofs.Ytdjapppfjpgidaa
