/- Walks over package table: the stack. -/
import Derived.Test.YtngiekofaeaaoaaTa
import Derived.IntWalk
namespace Go.Proofs.Ytngiekofaeaaoaa
open Go.RowKit

def ints (xs : List Int) : List Value := xs.map (Value.int .i64)
theorem ints_length (xs : List Int) : (ints xs).length = xs.length := by simp [ints]
theorem ints_one (xs : List Int) : ∀ x ∈ ints xs, x.oneCell' = true := by
  intro x hx
  obtain ⟨y, _, rfl⟩ := List.mem_map.1 hx
  rfl
theorem ints_get (xs : List Int) (j : Nat) (h : j < xs.length) : (ints xs)[j]? = some (.int .i64 (xs.getD j 0)) := by
  simp [ints, h, List.getD_eq_getElem?_getD]
theorem ints_append (xs ys : List Int) : ints xs ++ ints ys = ints (xs ++ ys) := by simp [ints]
theorem ints_take (xs : List Int) (k : Nat) : (ints xs).take k = ints (xs.take k) := by simp [ints, List.map_take]

theorem info3 : (Try.prog.info? 3).map (fun i => (i.zero, i.size, i.bytes)) = some (some (.int .i64 0), 1, 8) := by kernel_rfl

/-- What a call may have turned: the blocks of which F holds; F' holds of these and of new ones. -/
structure Touch (F F' : Nat → Prop) (w w' : World) : Prop where
  os : w'.os = w.os
  tape : w'.tape = w.tape
  output : w'.output = w.output
  size : w.heap.size ≤ w'.heap.size
  block : ∀ k, k < w.heap.size → ¬ F k → w'.heap[k]? = w.heap[k]?
  new : ∀ k, F' k → F k ∨ w.heap.size ≤ k

theorem Touch.refl (F : Nat → Prop) (w : World) : Touch F F w w := ⟨rfl, rfl, rfl, Nat.le_refl _, fun _ _ _ => rfl, fun _ h => .inl h⟩
theorem Touch.trans {F F' F'' : Nat → Prop} {x y z : World} (h : Touch F F' x y) (k : Touch F' F'' y z) : Touch F F'' x z :=
  ⟨k.os.trans h.os, k.tape.trans h.tape, k.output.trans h.output, Nat.le_trans h.size k.size,
   fun i hi hF => by
    have h2 : ¬ F' i := fun h' => by
      rcases h.new i h' with h' | h'
      · exact hF h'
      · omega
    exact (k.block i (Nat.lt_of_lt_of_le hi h.size) h2).trans (h.block i hi hF),
   fun i hi => by
    rcases k.new i hi with h' | h'
    · exact h.new i h'
    · exact .inr (Nat.le_trans h.size h')⟩
theorem Touch.below {F F' : Nat → Prop} {B : Nat} {x y : World} (h : Touch F F' x y) (hB : ∀ k, F k → B ≤ k) (hs : B ≤ x.heap.size) : Below B x y :=
  ⟨h.os, h.tape, h.output, h.size, fun k hk => h.block k (by omega) (fun hF => by have := hB k hF; omega)⟩
theorem Touch.rd {F F' : Nat → Prop} {x y : World} {v : Value} {cs : List Value} (h : Touch F F' x y) (hr : Rd x (fun k => ¬ F k) v cs) : Rd y (fun k => ¬ F' k) v cs :=
  ((hr.mono (Q := fun k => ¬ F k ∧ k < x.heap.size) fun _ h1 h2 => ⟨h2, h1⟩).kept h.size fun k hk hF => h.block k hk hF.1).mono fun k _ hF h' => by
    rcases h.new k h' with h' | h'
    · exact hF.1 h'
    · have := hF.2; omega

/-- The struct of a stack and its two rows. -/
structure Stk (w : World) (B sb : Nat) (vl vm : Value) (xs ms : List Int) : Prop where
  row : w.heap[sb]? = some (.cells #[vl, vm] 27 (0, 0))
  base : B ≤ sb
  l : Own w B 3 vl (ints xs)
  m : Own w B 3 vm (ints ms)
  n1 : vl.ownBlock ≠ some sb
  n2 : vm.ownBlock ≠ some sb
  n3 : ∀ k, vl.ownBlock = some k → vm.ownBlock ≠ some k

/-- The blocks of a stack. -/
def stkF (sb : Nat) (vl vm : Value) (k : Nat) : Prop := k = sb ∨ vl.ownBlock = some k ∨ vm.ownBlock = some k

theorem Stk.c0 {w : World} {B sb : Nat} {vl vm : Value} {xs ms : List Int} (h : Stk w B sb vl vm xs ms) : w.cell? ⟨sb, 0, none⟩ = some vl := by simp [World.cell?, h.row]
theorem Stk.c1 {w : World} {B sb : Nat} {vl vm : Value} {xs ms : List Int} (h : Stk w B sb vl vm xs ms) : w.cell? ⟨sb, 1, none⟩ = some vm := by simp [World.cell?, h.row]
theorem Stk.f {w : World} {B sb : Nat} {vl vm : Value} {xs ms : List Int} (h : Stk w B sb vl vm xs ms) (o : Nat) : w.frozen? ⟨sb, o, none⟩ = false := by simp [World.frozen?, h.row]
theorem Stk.lt {w : World} {B sb : Nat} {vl vm : Value} {xs ms : List Int} (h : Stk w B sb vl vm xs ms) : sb < w.heap.size := (Array.getElem?_eq_some_iff.1 h.row).1
theorem Stk.foot {w : World} {B sb : Nat} {vl vm : Value} {xs ms : List Int} (h : Stk w B sb vl vm xs ms) {k : Nat} (hk : stkF sb vl vm k) : B ≤ k ∧ k < w.heap.size := by
  rcases hk with rfl | hk | hk
  · exact ⟨h.base, h.lt⟩
  · exact ⟨(h.l.lt hk).2, (h.l.lt hk).1⟩
  · exact ⟨(h.m.lt hk).2, (h.m.lt hk).1⟩
theorem Stk.kept {w w' : World} {B sb : Nat} {vl vm : Value} {xs ms : List Int} (h : Stk w B sb vl vm xs ms) (hk : ∀ k, stkF sb vl vm k → w'.heap[k]? = w.heap[k]?) : Stk w' B sb vl vm xs ms :=
  ⟨(hk sb (.inl rfl)).trans h.row, h.base, h.l.kept fun k e => hk k (.inr (.inl e)), h.m.kept fun k e => hk k (.inr (.inr e)), h.n1, h.n2, h.n3⟩
theorem Stk.below {w w' : World} {B sb : Nat} {vl vm : Value} {xs ms : List Int} (h : Stk w B sb vl vm xs ms) (hb : Below w.heap.size w w') : Stk w' B sb vl vm xs ms :=
  h.kept fun k hk => hb.block k (h.foot hk).2

/-- The field l is written. -/
theorem Stk.setL {w w' : World} {B sb : Nat} {vl vm vl' : Value} {xs ms ys : List Int} (h : Stk w B sb vl vm xs ms) (hw : Own w' B 3 vl' (ints ys)) (hg : w.grownBy w' vl.ownBlock) (hl : vl'.ownBlock = vl.ownBlock ∨ vl'.ownBlock = none ∨ ∃ k, vl'.ownBlock = some k ∧ w.heap.size ≤ k) :
    Stk (w'.setCell ⟨sb, 0, none⟩ vl') B sb vl' vm ys ms ∧ Touch (stkF sb vl vm) (stkF sb vl' vm) w (w'.setCell ⟨sb, 0, none⟩ vl') := by
  have hrow : w'.heap[sb]? = some (.cells #[vl, vm] 27 (0, 0)) := (hg.block sb h.lt (fun e => h.n1 e.symm)).trans h.row
  have hne : vl'.ownBlock ≠ some sb := fun e => by
    rcases hl with hl | hl | ⟨k, hl, hk⟩
    · exact h.n1 (hl ▸ e)
    · rw [hl] at e; cases e
    · rw [hl] at e; cases e; have := h.lt; omega
  refine ⟨⟨?_, h.base, ?_, ?_, hne, h.n2, ?_⟩, ⟨hg.os, hg.tape, hg.output, ?_, ?_, ?_⟩⟩
  · simp [World.setCell, Array.getElem?_modify, hrow]
  · exact hw.kept fun k e => Below.heap_setCell _ _ _ _ (fun e' => hne (by rw [e, e']))
  · refine h.m.kept fun k e => ?_
    rw [Below.heap_setCell _ _ _ _ (fun e' => h.n2 (by rw [e, e']))]
    exact hg.block k (h.m.lt e).1 (fun e' => h.n3 k e'.symm e)
  · intro k e e'
    rcases hl with hl | hl | ⟨k', hl, hk⟩
    · exact h.n3 k (hl ▸ e) e'
    · rw [hl] at e; cases e
    · rw [hl] at e; cases e; have := (h.m.lt e').1; omega
  · have := hg.size; simpa [World.setCell] using this
  · intro k hk hF
    rw [Below.heap_setCell _ _ _ _ (fun e' => hF (.inl e'))]
    exact hg.block k hk (fun e' => hF (.inr (.inl e'.symm)))
  · rintro k (rfl | e | e)
    · exact .inl (.inl rfl)
    · rcases hl with hl | hl | ⟨k', hl, hk⟩
      · exact .inl (.inr (.inl (hl ▸ e)))
      · rw [hl] at e; cases e
      · rw [hl] at e; cases e; exact .inr hk
    · exact .inl (.inr (.inr e))

/-- The field marks is written. -/
theorem Stk.setM {w w' : World} {B sb : Nat} {vl vm vm' : Value} {xs ms ns : List Int} (h : Stk w B sb vl vm xs ms) (hw : Own w' B 3 vm' (ints ns)) (hg : w.grownBy w' vm.ownBlock) (hl : vm'.ownBlock = vm.ownBlock ∨ vm'.ownBlock = none ∨ ∃ k, vm'.ownBlock = some k ∧ w.heap.size ≤ k) :
    Stk (w'.setCell ⟨sb, 1, none⟩ vm') B sb vl vm' xs ns ∧ Touch (stkF sb vl vm) (stkF sb vl vm') w (w'.setCell ⟨sb, 1, none⟩ vm') := by
  have hrow : w'.heap[sb]? = some (.cells #[vl, vm] 27 (0, 0)) := (hg.block sb h.lt (fun e => h.n2 e.symm)).trans h.row
  have hne : vm'.ownBlock ≠ some sb := fun e => by
    rcases hl with hl | hl | ⟨k, hl, hk⟩
    · exact h.n2 (hl ▸ e)
    · rw [hl] at e; cases e
    · rw [hl] at e; cases e; have := h.lt; omega
  refine ⟨⟨?_, h.base, ?_, ?_, h.n1, hne, ?_⟩, ⟨hg.os, hg.tape, hg.output, ?_, ?_, ?_⟩⟩
  · simp [World.setCell, Array.getElem?_modify, hrow]
  · refine h.l.kept fun k e => ?_
    rw [Below.heap_setCell _ _ _ _ (fun e' => h.n1 (by rw [e, e']))]
    exact hg.block k (h.l.lt e).1 (fun e' => h.n3 k e e'.symm)
  · exact hw.kept fun k e => Below.heap_setCell _ _ _ _ (fun e' => hne (by rw [e, e']))
  · intro k e e'
    rcases hl with hl | hl | ⟨k', hl, hk⟩
    · exact h.n3 k e (hl ▸ e')
    · rw [hl] at e'; cases e'
    · rw [hl] at e'; cases e'; have := (h.l.lt e).1; omega
  · have := hg.size; simpa [World.setCell] using this
  · intro k hk hF
    rw [Below.heap_setCell _ _ _ _ (fun e' => hF (.inl e'))]
    exact hg.block k hk (fun e' => hF (.inr (.inr e'.symm)))
  · rintro k (rfl | e | e)
    · exact .inl (.inl rfl)
    · exact .inl (.inr (.inl e))
    · rcases hl with hl | hl | ⟨k', hl, hk⟩
      · exact .inl (.inr (.inr (hl ▸ e)))
      · rw [hl] at e; cases e
      · rw [hl] at e; cases e; exact .inr hk

/-- The footprint is named by its values alone. -/
theorem Touch.drew {F F' : Nat → Prop} {x y : World} (h : Touch F F' x y) : Touch F F' x y.drew := ⟨h.os, h.tape, h.output, h.size, h.block, h.new⟩
theorem Touch.pre {F F' : Nat → Prop} {x x' y : World} (hb : Below x.heap.size x x') (h : Touch F F' x' y) : Touch F F' x y :=
  ⟨h.os.trans hb.os, h.tape.trans hb.tape, h.output.trans hb.output, Nat.le_trans hb.size h.size, fun k hk hF => (h.block k (Nat.lt_of_lt_of_le hk hb.size) hF).trans (hb.block k hk), fun k hk => (h.new k hk).imp id fun h' => Nat.le_trans hb.size h'⟩

/-- What a call of a method leaves. -/
def Left (w : World) (B sb : Nat) (vl vm : Value) (xs ms : List Int) (w' : World) : Prop := ∃ vl' vm', Stk w' B sb vl' vm' xs ms ∧ Touch (stkF sb vl vm) (stkF sb vl' vm') w w'

theorem grown_cell {w w' : World} {row : Option Nat} (hg : w.grownBy w' row) {b o : Nat} {v : Value} (hc : w.cell? ⟨b, o, none⟩ = some v) (hne : row ≠ some b) : w'.cell? ⟨b, o, none⟩ = some v :=
  (World.cell?_of_block (hg.block b (World.block_lt_of_cell? w _ hc) (fun e => hne e.symm))).trans hc
theorem grown_frozen {w w' : World} {row : Option Nat} (hg : w.grownBy w' row) {b : Nat} (o : Nat) (hb : b < w.heap.size) (hne : row ≠ some b) : w'.frozen? ⟨b, o, none⟩ = w.frozen? ⟨b, o, none⟩ :=
  World.frozen?_of_block (hg.block b hb (fun e => hne e.symm))

theorem one_int (x : Int) : ∀ y ∈ [Value.int .i64 x], y.oneCell' = true := by
  intro y hy
  obtain rfl := List.mem_singleton.1 hy
  rfl

set_option maxHeartbeats 400000 in
theorem push_any (w : World) {B sb : Nat} {vl vm : Value} {xs ms : List Int} (x : Int) (h : Stk w B sb vl vm xs ms) (hl : xs.length ≤ 1000000) :
    Calls Try.prog 11 #[.pointer (some ⟨sb, 0, none⟩), .int .i64 x] w fun e w' => e = .returned (.tuple #[]) ∧ Left w B sb vl vm (xs ++ [x]) ms w' := by
  have c0 := h.c0
  have f0 := h.f 0
  have H := Lib.hid h
  have hs := h.lt
  have hB := h.base
  have HA := Lib.hid (h.below ((Below.refl _ _).alloc (Nat.le_refl _) (.cells #[.int .i64 x] 3)))
  have H2 : Hid (((ints xs).length + [Value.int .i64 x].length) * (8 + 1) ≤ 70000000000000) := by
    have := ints_length xs
    simp only [List.length_singleton]
    show _ ≤ _
    omega
  have H3 : Hid (B ≤ (w.alloc (.cells #[.int .i64 x] 3)).heap.size) := by
    show _ ≤ _
    simp only [World.size_alloc]
    omega
  clear h
  go_enter Try.func11, Try.ntmps11
  go_wp2_with (at_builtin; refine app_wp rfl (.tmp 10) (.tmp 12) rfl Try.underlying25 info3 rfl (by omega) B vl _ rfl rfl HA.out.l (rd_one w (.int .i64 x) 3) (one_int x) H2.out H3.out ?_; intro ra n c w1 ho hg hl'; have d0 := grown_cell hg HA.out.c0 HA.out.n1; have d1 := (grown_frozen hg 0 HA.out.lt HA.out.n1).trans (HA.out.f 0))
  go_end0
  obtain ⟨k1, k2⟩ := HA.out.setL (ys := xs ++ [x]) (by rw [← ints_append]; exact ho) hg (hl'.imp id fun e => .inr ⟨_, e, Nat.le_refl _⟩)
  exact ⟨rfl, _, _, k1, Touch.pre ((Below.refl _ _).alloc (Nat.le_refl _) _) k2⟩
#print axioms push_any

/-- The shape of an owned row's value. -/
theorem Own.shape {w : World} {B e : Nat} {v : Value} {cs : List Value} (h : Own w B e v cs) : ∃ a c, v = .slice a cs.length c := by
  rcases h.cases with ⟨rfl, rfl⟩ | ⟨g, cap, _, rfl, _⟩
  · exact ⟨none, 0, rfl⟩
  · exact ⟨_, _, rfl⟩
/-- .. where there is an element. -/
theorem Own.some_at {w : World} {B e : Nat} {v : Value} {cs : List Value} (h : Own w B e v cs) (hp : 0 < cs.length) :
    ∃ g c, v = .slice (some ⟨g, 0, none⟩) cs.length c ∧ cs.length ≤ c ∧ c ≤ maxLen ∧ (∀ j, j < cs.length → w.cell? ⟨g, j, none⟩ = cs[j]?) ∧ ∀ j, w.frozen? ⟨g, j, none⟩ = false := by
  have hr := h.rd
  rcases h.cases with ⟨rfl, rfl⟩ | ⟨g, cap, cur, rfl, _, hb, h1, h2, _⟩
  · simp at hp
  · rcases hr with ⟨h0, _⟩ | ⟨g', o', c', h0, _, _, _, hc⟩
    · cases h0
    · cases h0
      exact ⟨g, cap, rfl, h1, h2, fun j hj => by simpa using hc j hj, fun j => by simp [World.frozen?, hb]⟩

/-- Where the last mark stands. -/
def flo (ms : List Int) : Int := ms.getLast?.getD 0
theorem flo_snoc (ms : List Int) (m : Int) : flo (ms ++ [m]) = m := by simp [flo]

theorem floor_none (w : World) {B sb : Nat} {vl vm : Value} {xs : List Int} (h : Stk w B sb vl vm xs []) :
    Calls Try.prog 36 #[.pointer (some ⟨sb, 0, none⟩)] w fun e w' => e = .returned (.int .i64 0) ∧ w' = w := by
  have c1 := h.c1
  obtain ⟨a, c, rfl⟩ := h.m.shape
  simp only [ints, List.map_nil, List.length_nil] at c1
  clear h
  go_enter Try.func36, Try.ntmps36
  go_wp2_with fail
  go_ret
  exact ⟨rfl, rfl⟩

theorem floor_some (w : World) {B sb : Nat} {vl vm : Value} {xs ms : List Int} (h : Stk w B sb vl vm xs ms) (hp : 0 < ms.length) (hl : ms.length ≤ 1000000) :
    Calls Try.prog 36 #[.pointer (some ⟨sb, 0, none⟩)] w fun e w' => e = .returned (.int .i64 (flo ms)) ∧ ∃ n, w' = w.drewN n := by
  have c1 := h.c1
  obtain ⟨g, c, rfl, h1, h2, hc, hf⟩ := h.m.some_at (by rw [ints_length]; exact hp)
  rw [ints_length] at c1 h1 hc
  have hlast := hc (ms.length - 1) (by omega)
  rw [ints_get ms (ms.length - 1) (by omega)] at hlast
  have ef : ms.getD (ms.length - 1) 0 = flo ms := by simp [flo, List.getLast?_eq_getElem?, List.getD_eq_getElem?_getD]
  rw [ef] at hlast
  have hd : ((ms.length : Int) == 0) = false := beq_eq_false_iff_ne.2 (by omega)
  have b1 : (1 : Int) ≤ (ms.length : Int) := by omega
  clear h hc hf ef
  generalize flo ms = z at *
  generalize ms.length = n at *
  go_enter Try.func36, Try.ntmps36
  go_wp2_with fail
  go_quiet (fail)
  go_wp2_with fail
  go_ret
  exact ⟨rfl, _, rfl⟩
end Go.Proofs.Ytngiekofaeaaoaa
