/- A stack and its reference beside it. -/
import Derived.Test.YtngiekofaeaaoaaTo
namespace Go.Proofs.Ytngiekofaeaaoaa
open Go.RowKit

theorem Touch.rdL {F F' Q : Nat → Prop} {x y : World} {u : Value} {Ls : List (List Int)} (h : Touch F F' x y) (hr : RdL x (fun k => ¬ F k ∧ Q k) u Ls) : RdL y (fun k => ¬ F' k ∧ Q k) u Ls := by
  have one : ∀ v cs, Rd x (fun k => ¬ F k ∧ Q k) v cs → Rd y (fun k => ¬ F' k ∧ Q k) v cs := fun v cs hv =>
    ((hv.mono (Q := fun k => (¬ F k ∧ Q k) ∧ k < x.heap.size) fun _ h1 h2 => ⟨h2, h1⟩).kept h.size fun k hk hF => h.block k hk hF.1.1).mono fun k _ hF => ⟨fun h' => by
      rcases h.new k h' with h' | h'
      · exact hF.1.1 h'
      · have := hF.2; omega, hF.1.2⟩
  obtain ⟨vs, h1, h2⟩ := hr
  exact ⟨vs, one _ _ h1, h2.1, fun j v hj => one _ _ (h2.2 j v hj)⟩

theorem RdL.mono {w : World} {P Q : Nat → Prop} {u : Value} {Ls : List (List Int)} (h : RdL w P u Ls) (hpq : ∀ k, k < w.heap.size → P k → Q k) : RdL w Q u Ls := by
  obtain ⟨vs, h1, h2⟩ := h
  exact ⟨vs, h1.mono hpq, h2.mono hpq⟩
theorem RdL.below {w w' : World} {P : Nat → Prop} {u : Value} {Ls : List (List Int)} (h : RdL w P u Ls) (hb : Below w.heap.size w w') : RdL w' P u Ls := by
  obtain ⟨vs, h1, h2⟩ := h
  exact ⟨vs, h1.below hb, h2.below hb⟩
theorem RdL.shape {w : World} {P : Nat → Prop} {u : Value} {Ls : List (List Int)} (h : RdL w P u Ls) : ∃ a c, u = .slice a Ls.length c := by
  obtain ⟨vs, h1, h2⟩ := h
  obtain ⟨a, c, rfl⟩ := h1.shape
  exact ⟨a, c, by rw [h2.1]⟩

/-- A stack, and a box with the reference's stack. -/
structure Mates (w0 w : World) (sb rb : Nat) (Ls : List (List Int)) (top : List Int) (Rs : List (List Int)) (u : Value) (vl vm : Value) : Prop where
  stk : Stk w w0.heap.size sb vl vm (Ls.flatten ++ top) (offs Ls)
  below : Below w0.heap.size w0 w
  ref : RdL w (fun k => ¬ stkF sb vl vm k ∧ k ≠ rb) u Rs
  box : w.heap[rb]? = some (.cells #[u] 30 (0, 0))
  apart : ¬ stkF sb vl vm rb
  base : w0.heap.size ≤ rb
def Both (w0 w : World) (sb rb : Nat) (Ls : List (List Int)) (top : List Int) (Rs : List (List Int)) (u : Value) : Prop := ∃ vl vm, Mates w0 w sb rb Ls top Rs u vl vm

theorem Mates.lt {w0 w : World} {sb rb : Nat} {Ls : List (List Int)} {top : List Int} {Rs : List (List Int)} {u vl vm : Value} (h : Mates w0 w sb rb Ls top Rs u vl vm) : rb < w.heap.size := (Array.getElem?_eq_some_iff.1 h.box).1
theorem Both.lt {w0 w : World} {sb rb : Nat} {Ls : List (List Int)} {top : List Int} {Rs : List (List Int)} {u : Value} (h : Both w0 w sb rb Ls top Rs u) : rb < w.heap.size := by
  obtain ⟨_, _, h⟩ := h
  exact h.lt
theorem Both.cell {w0 w : World} {sb rb : Nat} {Ls : List (List Int)} {top : List Int} {Rs : List (List Int)} {u : Value} (h : Both w0 w sb rb Ls top Rs u) : w.cell? ⟨rb, 0, none⟩ = some u := by
  obtain ⟨_, _, h⟩ := h
  simp [World.cell?, h.box]
theorem Both.frozen {w0 w : World} {sb rb : Nat} {Ls : List (List Int)} {top : List Int} {Rs : List (List Int)} {u : Value} (h : Both w0 w sb rb Ls top Rs u) : w.frozen? ⟨rb, 0, none⟩ = false := by
  obtain ⟨_, _, h⟩ := h
  simp [World.frozen?, h.box]
theorem Both.shape {w0 w : World} {sb rb : Nat} {Ls : List (List Int)} {top : List Int} {Rs : List (List Int)} {u : Value} (h : Both w0 w sb rb Ls top Rs u) : ∃ a c, u = .slice a Rs.length c := by
  obtain ⟨_, _, h⟩ := h
  exact h.ref.shape
theorem Both.out {w0 w : World} {sb rb : Nat} {Ls : List (List Int)} {top : List Int} {Rs : List (List Int)} {u : Value} (h : Both w0 w sb rb Ls top Rs u) : Below w0.heap.size w0 w := by
  obtain ⟨_, _, h⟩ := h
  exact h.below
theorem Both.stack {w0 w : World} {sb rb : Nat} {Ls : List (List Int)} {top : List Int} {Rs : List (List Int)} {u : Value} (h : Both w0 w sb rb Ls top Rs u) : HasB w0 w sb Ls top := by
  obtain ⟨vl, vm, h⟩ := h
  exact ⟨vl, vm, h.stk, h.below⟩
theorem Both.next {w0 w w' : World} {sb rb : Nat} {Ls : List (List Int)} {top : List Int} {Rs : List (List Int)} {u : Value} (h : Both w0 w sb rb Ls top Rs u) (hb : Below w.heap.size w w') : Both w0 w' sb rb Ls top Rs u := by
  obtain ⟨vl, vm, h⟩ := h
  exact ⟨vl, vm, h.stk.below hb, h.below.trans (hb.mono h.below.size), h.ref.below hb, (hb.block rb h.lt).trans h.box, h.apart, h.base⟩

/-- The stack turned. -/
theorem Mates.turn {w0 w w' : World} {sb rb : Nat} {Ls Ls' : List (List Int)} {top top' : List Int} {Rs : List (List Int)} {u vl vm : Value} (h : Mates w0 w sb rb Ls top Rs u vl vm) (hl : Left w w0.heap.size sb vl vm (Ls'.flatten ++ top') (offs Ls') w') : Both w0 w' sb rb Ls' top' Rs u := by
  have hb := hl.below h.stk h.below.size
  obtain ⟨vl', vm', k1, k2⟩ := hl
  refine ⟨vl', vm', k1, h.below.trans hb, k2.rdL h.ref, (k2.block rb h.lt h.apart).trans h.box, fun e => ?_, h.base⟩
  rcases k2.new rb e with e | e
  · exact h.apart e
  · have := h.lt; omega

/-- The reference's new stack is put into the box. -/
theorem Mates.put {w0 w w' : World} {sb rb : Nat} {Ls : List (List Int)} {top : List Int} {Rs Rs' : List (List Int)} {u u' vl vm : Value} (h : Mates w0 w sb rb Ls top Rs u vl vm) (hb : Below w.heap.size w w') (hr : RdL w' (fun k => (¬ stkF sb vl vm k ∧ k ≠ rb) ∨ w.heap.size ≤ k) u' Rs') :
    Both w0 (w'.setCell ⟨rb, 0, none⟩ u') sb rb Ls top Rs' u' := by
  have hk : ∀ k, k ≠ rb → (w'.setCell ⟨rb, 0, none⟩ u').heap[k]? = w'.heap[k]? := fun k hk => Below.heap_setCell _ _ _ _ hk
  have hs : (w'.setCell ⟨rb, 0, none⟩ u').heap.size = w'.heap.size := by simp [World.setCell]
  refine ⟨vl, vm, ?_, (h.below.trans (hb.mono h.below.size)).setCell h.base _, ?_, ?_, h.apart, h.base⟩
  · exact (h.stk.below hb).kept fun k e => hk k fun e' => h.apart (e' ▸ e)
  · have one : ∀ v cs, Rd w' (fun k => (¬ stkF sb vl vm k ∧ k ≠ rb) ∨ w.heap.size ≤ k) v cs → Rd (w'.setCell ⟨rb, 0, none⟩ u') (fun k => ¬ stkF sb vl vm k ∧ k ≠ rb) v cs := fun v cs hv => by
      refine (hv.kept (by omega) fun k _ e => hk k fun e' => ?_).mono fun k _ e => ?_
      · rcases e with e | e
        · exact e.2 e'
        · have := h.lt; omega
      · rcases e with e | e
        · exact e
        · exact ⟨fun e' => by have := (h.stk.foot e').2; omega, fun e' => by have := h.lt; omega⟩
    obtain ⟨vs, h1, h2⟩ := hr
    exact ⟨vs, one _ _ h1, h2.1, fun j v hj => one _ _ (h2.2 j v hj)⟩
  · have := (hb.block rb h.lt).trans h.box
    simp [World.setCell, Array.getElem?_modify, this]

/-! ### contracts -/
section
variable {w0 w : World} {sb rb : Nat} {Ls : List (List Int)} {top : List Int} {Rs : List (List Int)} {u : Value}

theorem xpush (h : Both w0 w sb rb Ls top Rs u) (x : Int) (hl : (Ls.flatten ++ top).length ≤ 1000000) :
    Calls Try.prog 11 #[.pointer (some ⟨sb, 0, none⟩), .int .i64 x] w fun e w' => e = .returned (.tuple #[]) ∧ Both w0 w' sb rb Ls (top ++ [x]) Rs u := by
  obtain ⟨vl, vm, h⟩ := h
  refine (push_any w x h.stk hl).mono ?_
  rintro e w' ⟨rfl, hleft⟩
  rw [List.append_assoc] at hleft
  exact ⟨rfl, h.turn hleft⟩
theorem xmark (h : Both w0 w sb rb Ls top Rs u) (hl : Ls.length ≤ 1000000) :
    Calls Try.prog 15 #[.pointer (some ⟨sb, 0, none⟩)] w fun e w' => e = .returned (.tuple #[]) ∧ Both w0 w' sb rb (Ls ++ [top]) [] Rs u := by
  obtain ⟨vl, vm, h⟩ := h
  refine (mark_any w h.stk (by rw [offs_len]; exact hl)).mono ?_
  rintro e w' ⟨rfl, hleft⟩
  refine ⟨rfl, h.turn (?_ : Left w w0.heap.size sb vl vm ((Ls ++ [top]).flatten ++ []) (offs (Ls ++ [top])) w')⟩
  rw [offs_snoc]
  simpa using hleft
theorem xpop (h : Both w0 w sb rb Ls top Rs u) (hl : (Ls.flatten ++ top).length ≤ 1000000) (hm : Ls.length ≤ 1000000) :
    Calls Try.prog 13 #[.pointer (some ⟨sb, 0, none⟩)] w fun e w' => e = .returned (.tuple #[.int .i64 (top.getLast?.getD 0), .bool (!top.isEmpty)]) ∧ Both w0 w' sb rb Ls top.dropLast Rs u := by
  obtain ⟨vl, vm, h⟩ := h
  have hf := flo_offs Ls
  obtain ⟨h1, h2, h3⟩ := pop_cases (ys := top) hf
  refine (pop_any w h.stk hl (by rw [offs_len]; exact hm) (by rw [hf]; omega) (by rw [hf]; simp; omega)).mono ?_
  rintro e w' ⟨rfl, hleft⟩
  rw [h3] at hleft
  rw [h1, h2]
  exact ⟨rfl, h.turn hleft⟩
theorem xback (h : Both w0 w sb rb Ls top Rs u) (hl : (Ls.flatten ++ top).length ≤ 1000000) (hm : Ls.length ≤ 1000000) :
    Calls Try.prog 17 #[.pointer (some ⟨sb, 0, none⟩)] w fun e w' => e = .returned (.bool (!Ls.isEmpty)) ∧ Both w0 w' sb rb Ls.dropLast (backTop Ls top) Rs u := by
  obtain ⟨vl, vm, h⟩ := h
  rcases List.eq_nil_or_concat Ls with rfl | ⟨Ms, L, rfl⟩
  · refine (back_none w h.stk).mono ?_
    rintro e w' ⟨rfl, rfl⟩
    exact ⟨rfl, vl, vm, h⟩
  · simp only [List.concat_eq_append] at *
    have hh : Stk w w0.heap.size sb vl vm ((Ms.flatten ++ L) ++ top) (offs Ms ++ [((Ms.flatten ++ L).length : Int)]) := by
      have := h.stk
      rw [offs_snoc] at this
      simpa using this
    refine (back_some w hh (by simpa using hl) (by rw [← offs_snoc, offs_len]; exact hm)).mono ?_
    rintro e w' ⟨rfl, hleft⟩
    refine ⟨by simp, ?_⟩
    rw [List.dropLast_concat, backTop, List.getLast?_concat]
    exact h.turn hleft

/-- What a call of the reference tells, and leaves: the box is to be turned. -/
def Told (w0 w : World) (sb rb : Nat) (Ls : List (List Int)) (top : List Int) (Rs' : List (List Int)) (a : Option Addr) (n c : Nat) (w' : World) : Prop :=
  n = Rs'.length ∧ Below w.heap.size w w' ∧ ∀ w'', Below w'.heap.size w' w'' → Both w0 (w''.setCell ⟨rb, 0, none⟩ (.slice a n c)) sb rb Ls top Rs' (.slice a n c)

theorem Mates.told {w' : World} {vl vm : Value} {Rs' : List (List Int)} {u' : Value} (h : Mates w0 w sb rb Ls top Rs u vl vm) (hr : RdL w' (fun k => (¬ stkF sb vl vm k ∧ k ≠ rb) ∨ w.heap.size ≤ k) u' Rs') (hb : Below w.heap.size w w') :
    ∃ a n c, u' = .slice a n c ∧ Told w0 w sb rb Ls top Rs' a n c w' := by
  obtain ⟨a, c, rfl⟩ := hr.shape
  exact ⟨a, _, c, rfl, rfl, hb, fun w'' hb2 => h.put (hb.trans (hb2.mono hb.size)) (hr.below hb2)⟩

theorem xrpush {Ms : List (List Int)} {t : List Int} (h : Both w0 w sb rb Ls top (Ms ++ [t]) u) (x : Int) (hl : Ms.length ≤ 1000000) (ht : t.length ≤ 1000000) :
    Calls Try.prog 12 #[.agg #[u], .int .i64 x] w fun e w' => ∃ a n c, e = .returned (.agg #[.slice a n c]) ∧ Told w0 w sb rb Ls top (Ms ++ [t ++ [x]]) a n c w' := by
  obtain ⟨vl, vm, h⟩ := h
  refine (rpush_any w x h.ref hl ht).mono ?_
  rintro e w' ⟨u', rfl, h1, h2⟩
  obtain ⟨a, n, c, rfl, h3⟩ := h.told h1 h2
  exact ⟨a, n, c, rfl, h3⟩
theorem xrmark (h : Both w0 w sb rb Ls top Rs u) (hl : Rs.length ≤ 1000000) :
    Calls Try.prog 16 #[.agg #[u]] w fun e w' => ∃ a n c, e = .returned (.agg #[.slice a n c]) ∧ Told w0 w sb rb Ls top (Rs ++ [[]]) a n c w' := by
  obtain ⟨vl, vm, h⟩ := h
  refine (rmark_any w h.ref hl).mono ?_
  rintro e w' ⟨u', rfl, h1, h2⟩
  obtain ⟨a, n, c, rfl, h3⟩ := h.told h1 h2
  exact ⟨a, n, c, rfl, h3⟩
theorem xrpop {Ms : List (List Int)} {t : List Int} (h : Both w0 w sb rb Ls top (Ms ++ [t]) u) (hl : Ms.length ≤ 1000000) (ht : t.length ≤ 1000000) :
    Calls Try.prog 14 #[.agg #[u]] w fun e w' => ∃ a n c, e = .returned (.tuple #[.agg #[.slice a n c], .int .i64 (t.getLast?.getD 0), .bool (!t.isEmpty)]) ∧ Told w0 w sb rb Ls top (Ms ++ [t.dropLast]) a n c w' := by
  obtain ⟨vl, vm, h⟩ := h
  have P : Calls Try.prog 14 #[.agg #[u]] w (NewPop w (fun k => ¬ stkF sb vl vm k ∧ k ≠ rb) (Ms ++ [t.dropLast]) (t.getLast?.getD 0) (!t.isEmpty)) := by
    rcases List.eq_nil_or_concat t with rfl | ⟨s, x, rfl⟩
    · exact rpop_none w h.ref hl
    · simp only [List.concat_eq_append] at *
      have := rpop_some w x h.ref hl (by simp at ht; omega)
      have e1 : (!(s ++ [x]).isEmpty) = true := by cases s <;> rfl
      rw [e1]
      simpa using this
  refine P.mono ?_
  rintro e w' ⟨u', rfl, h1, h2⟩
  obtain ⟨a, n, c, rfl, h3⟩ := h.told h1 h2
  exact ⟨a, n, c, rfl, h3⟩
theorem xrback {Ms : List (List Int)} {t : List Int} (h : Both w0 w sb rb Ls top (Ms ++ [t]) u) (hl : Ms.length ≤ 1000000) :
    Calls Try.prog 18 #[.agg #[u]] w fun e w' => ∃ a n c, e = .returned (.tuple #[.agg #[.slice a n c], .bool (!Ms.isEmpty)]) ∧ Told w0 w sb rb Ls top (Ms.dropLast ++ [backTop Ms t]) a n c w' := by
  obtain ⟨vl, vm, h⟩ := h
  have P : Calls Try.prog 18 #[.agg #[u]] w (NewBack w (fun k => ¬ stkF sb vl vm k ∧ k ≠ rb) (Ms.dropLast ++ [backTop Ms t]) (!Ms.isEmpty)) := by
    rcases List.eq_nil_or_concat Ms with rfl | ⟨Ns, L, rfl⟩
    · exact rback_none w h.ref (by simp)
    · simp only [List.concat_eq_append] at *
      have := rback_some w h.ref hl (by simp)
      have e1 : (!(Ns ++ [L]).isEmpty) = true := by cases Ns <;> rfl
      rw [List.dropLast_concat, backTop, List.getLast?_concat, e1]
      exact this
  refine P.mono ?_
  rintro e w' ⟨u', rfl, h1, h2⟩
  obtain ⟨a, n, c, rfl, h3⟩ := h.told h1 h2
  exact ⟨a, n, c, rfl, h3⟩
theorem xall (h : Both w0 w sb rb Ls top Rs u) (hl : (Ls.flatten ++ top).length ≤ 1000000) : Calls Try.prog 20 #[.pointer (some ⟨sb, 0, none⟩)] w (NewRow w (Ls.flatten ++ top)) := ball w0 w h.stack hl
theorem xrall (h : Both w0 w sb rb Ls top (Ls ++ [top]) u) (hl : (Ls.flatten ++ top).length ≤ 1000000) (hm : Ls.length ≤ 999999) : Calls Try.prog 21 #[.agg #[u]] w (NewRow w (Ls.flatten ++ top)) := by
  obtain ⟨vl, vm, h⟩ := h
  have := rall_any w h.ref (by simp; omega) (by simpa using hl) (by simp)
  simpa using this
theorem ints_same {w : World} {P Q : Nat → Prop} {v u : Value} {xs : List Int} (h : Rd w P v (ints xs)) (k : Rd w Q u (ints xs)) (hl : xs.length ≤ 1000000) :
    Calls Try.prog 19 #[v, u] w fun e w' => e = .returned (.bool true) ∧ Below w.heap.size w w' := by
  refine (ints_any w h k hl).mono ?_
  rintro e w' ⟨rfl, n, rfl⟩
  exact ⟨by simp, below_drewN (Below.refl _ _) n⟩
theorem xmarks_q (h : Both w0 w sb rb Ls top Rs u) (k : Nat) :
    Calls Try.prog 22 #[.pointer (some ⟨sb, 0, none⟩)] (w.drewN k) fun e w' => e = .returned (.int .i64 Ls.length) ∧ ∃ n, w' = w.drewN n :=
  (bmarks w0 (w.drewN k) (h.next (below_drewN (Below.refl _ _) k)).stack).mono fun _ _ ⟨h1, h2⟩ => ⟨h1, k, h2.symm⟩
theorem xstart {w1 w2 : World} {u : Value} (hs : HasB w0 w1 sb [] []) (hb : Below w1.heap.size w1 w2) (hr : RdL w2 (fun k => False ∨ w1.heap.size ≤ k) u [[]]) :
    Both w0 (w2.alloc (.cells #[u] 30)) sb w2.heap.size [] [] [[]] u := by
  obtain ⟨vl, vm, h1, h2⟩ := hs
  have hb' : Below w1.heap.size w1 (w2.alloc (.cells #[u] 30)) := hb.alloc hb.size _
  refine ⟨vl, vm, h1.below hb', h2.trans (hb'.mono h2.size), ?_, heap_alloc_new w2 _, fun e => ?_, Nat.le_trans h2.size hb.size⟩
  · refine (hr.mono (Q := fun k => ¬ stkF sb vl vm k ∧ k ≠ w2.heap.size) fun k hk e => ?_).below ((Below.refl _ _).alloc (Nat.le_refl _) _)
    rcases e with e | e
    · exact e.elim
    · exact ⟨fun e' => by have := (h1.foot e').2; omega, by omega⟩
  · have := (h1.foot e).2
    have := hb.size
    omega
end
end Go.Proofs.Ytngiekofaeaaoaa
