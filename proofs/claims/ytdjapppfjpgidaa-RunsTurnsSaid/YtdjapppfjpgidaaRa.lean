/- Words of these proofs: runs in memory, read and owned; append of runs. -/
import Derived.Test.YtdjapppfjpgidaaChecked
import Derived.WalkKit
import Derived.WalkSpells
import Derived.WalkLawsBesides
import Derived.KernelRfl
import Derived.Outline
import Derived.IntWalk
import Derived.Lib.Hide
import Derived.Maps.AppendAt
import Derived.Laws.AppendOwnNone
import Derived.Deep.AppendLies
import Derived.RegionTactic
import Derived.Deep.QuietTactic
import Derived.BigQuiet
import Derived.BigRegion
import Derived.LoopTactic
import Derived.Deep.RegionHeld3
import Derived.Deep.RegionLaw
import Derived.Deep.DeepCutAuto
import Derived.WideShapes
import Derived.StillTailTactics
namespace Go.Proofs.Ytdjapppfjpgidaa
open Go.RowKit

/-- A run: a code point and how often it stands. -/
abbrev Run := Int × Int
/-- The cells of runs. -/
def flat (rs : List Run) : List Value := rs.flatMap fun r => [.int .i64 r.1, .int .i64 r.2]
theorem flat_length (rs : List Run) : (flat rs).length = rs.length * 2 := by
  induction rs with
  | nil => rfl
  | cons r rs ih => simp only [flat, List.flatMap_cons, List.length_append, List.length_cons, List.length_nil] at ih ⊢; omega
theorem flat_append (a b : List Run) : flat (a ++ b) = flat a ++ flat b := by simp [flat]
theorem flat_get (rs : List Run) (i : Nat) (h : i < rs.length) : (flat rs)[i * 2]? = some (.int .i64 (rs.getD i (0, 0)).1) ∧ (flat rs)[i * 2 + 1]? = some (.int .i64 (rs.getD i (0, 0)).2) := by
  induction rs generalizing i with
  | nil => simp at h
  | cons r rs ih =>
    cases i with
    | zero => simp [flat]
    | succ i =>
      have := ih i (by simpa using h)
      rw [show (i + 1) * 2 = i * 2 + 2 by omega]
      simpa [flat] using this
theorem flat_one (rs : List Run) : ∀ x ∈ flat rs, x.oneCell' = true := by
  intro x hx
  obtain ⟨r, _, hr⟩ := List.mem_flatMap.1 hx
  simp at hr
  rcases hr with rfl | rfl <;> rfl

/-- A slice that reads as runs, in blocks of which P holds. -/
def Rr (w : World) (P : Nat → Prop) (v : Value) (rs : List Run) : Prop :=
  ∃ a cap, v = .slice a rs.length cap ∧ rs.length ≤ cap ∧ (a = none → cap = 0) ∧
    ∀ i, i < rs.length → ∃ g o, a = some ⟨g, o, none⟩ ∧ P g ∧ g < w.heap.size ∧ w.cell? ⟨g, o + i * 2, none⟩ = some (.int .i64 (rs.getD i (0, 0)).1) ∧ w.cell? ⟨g, o + i * 2 + 1, none⟩ = some (.int .i64 (rs.getD i (0, 0)).2)

theorem Rr.shape {w : World} {P : Nat → Prop} {v : Value} {rs : List Run} (h : Rr w P v rs) : ∃ a c, v = .slice a rs.length c ∧ rs.length ≤ c := by
  obtain ⟨a, c, h1, h2, _⟩ := h
  exact ⟨a, c, h1, h2⟩
theorem Rr.mono {w : World} {P Q : Nat → Prop} {v : Value} {rs : List Run} (h : Rr w P v rs) (hpq : ∀ k, k < w.heap.size → P k → Q k) : Rr w Q v rs := by
  obtain ⟨a, c, h1, h2, h3, h4⟩ := h
  refine ⟨a, c, h1, h2, h3, fun i hi => ?_⟩
  obtain ⟨g, o, e1, e2, e3, e4⟩ := h4 i hi
  exact ⟨g, o, e1, hpq g e3 e2, e3, e4⟩
theorem Rr.kept {w w' : World} {P : Nat → Prop} {v : Value} {rs : List Run} (h : Rr w P v rs) (hs : w.heap.size ≤ w'.heap.size) (hk : ∀ k, k < w.heap.size → P k → w'.heap[k]? = w.heap[k]?) : Rr w' P v rs := by
  obtain ⟨a, c, h1, h2, h3, h4⟩ := h
  refine ⟨a, c, h1, h2, h3, fun i hi => ?_⟩
  obtain ⟨g, o, e1, e2, e3, e4, e5⟩ := h4 i hi
  exact ⟨g, o, e1, e2, Nat.lt_of_lt_of_le e3 hs, (World.cell?_of_block (a := ⟨g, o + i * 2, none⟩) (hk g e3 e2)).trans e4, (World.cell?_of_block (a := ⟨g, o + i * 2 + 1, none⟩) (hk g e3 e2)).trans e5⟩
theorem Rr.below {w w' : World} {P : Nat → Prop} {v : Value} {rs : List Run} (h : Rr w P v rs) (hb : Below w.heap.size w w') : Rr w' P v rs := h.kept hb.size fun k hk _ => hb.block k hk
theorem Rr.nil (w : World) (P : Nat → Prop) : Rr w P (.slice none 0 0) [] := ⟨none, 0, rfl, by simp, fun _ => rfl, fun i hi => by simp at hi⟩
/-- One element's cells. -/
theorem Rr.at {w : World} {P : Nat → Prop} {a : Option Addr} {n c : Nat} {rs : List Run} (h : Rr w P (.slice a n c) rs) {i : Nat} (hi : i < rs.length) :
    ∃ g o, a = some ⟨g, o, none⟩ ∧ P g ∧ g < w.heap.size ∧ w.cell? ⟨g, o + i * 2, none⟩ = some (.int .i64 (rs.getD i (0, 0)).1) ∧ w.cell? ⟨g, o + i * 2 + 1, none⟩ = some (.int .i64 (rs.getD i (0, 0)).2) := by
  obtain ⟨a', c', h1, _, _, h4⟩ := h
  cases h1
  exact h4 i hi
theorem Rr.len {w : World} {P : Nat → Prop} {a : Option Addr} {n c : Nat} {rs : List Run} (h : Rr w P (.slice a n c) rs) : n = rs.length ∧ n ≤ c := by
  obtain ⟨a', c', h1, h2, _⟩ := h
  cases h1
  exact ⟨rfl, h2⟩

/-- A row of runs of the call's own, that may grow. -/
def Own2 (w : World) (B : Nat) (v : Value) (rs : List Run) : Prop := w.ownsRow B 38 2 v rs.length (flat rs)

theorem Own2.cases {w : World} {B : Nat} {v : Value} {rs : List Run} (h : Own2 w B v rs) : (v = .slice none 0 0 ∧ rs = []) ∨ ∃ g cap cur, v = .slice (some ⟨g, 0, none⟩) rs.length cap ∧ B ≤ g ∧ w.heap[g]? = some (.cells cur 38 (0, 0)) ∧ rs.length ≤ cap ∧ cap ≤ maxLen ∧ cur.size = cap * 2 ∧ cur.toList.take (rs.length * 2) = flat rs := by
  obtain ⟨_, ⟨h1, h2⟩ | h⟩ := h
  · exact .inl ⟨h1, List.eq_nil_of_length_eq_zero h2⟩
  · exact .inr h
theorem Own2.rr {w : World} {B : Nat} {v : Value} {rs : List Run} (h : Own2 w B v rs) : Rr w (fun k => B ≤ k) v rs := by
  rcases h.cases with ⟨rfl, rfl⟩ | ⟨g, cap, cur, rfl, h1, h2, h3, h4, h5, h6⟩
  · exact Rr.nil _ _
  · refine ⟨_, cap, rfl, h3, by simp, fun i hi => ⟨g, 0, rfl, h1, (Array.getElem?_eq_some_iff.1 h2).1, ?_, ?_⟩⟩
    · have := (flat_get rs i hi).1
      rw [← h6, List.getElem?_take, if_pos (by omega)] at this
      simpa [World.cell?, h2] using this
    · have := (flat_get rs i hi).2
      rw [← h6, List.getElem?_take, if_pos (by omega)] at this
      simpa [World.cell?, h2] using this
theorem Own2.lt {w : World} {B : Nat} {v : Value} {rs : List Run} (h : Own2 w B v rs) {k : Nat} (hk : v.ownBlock = some k) : k < w.heap.size ∧ B ≤ k := by
  rcases h.cases with ⟨rfl, rfl⟩ | ⟨g, cap, cur, rfl, h1, h2, _⟩
  · simp [Value.ownBlock] at hk
  · simp [Value.ownBlock] at hk
    subst hk
    exact ⟨(Array.getElem?_eq_some_iff.1 h2).1, h1⟩
theorem Own2.kept {w w' : World} {B : Nat} {v : Value} {rs : List Run} (h : Own2 w B v rs) (hk : ∀ k, v.ownBlock = some k → w'.heap[k]? = w.heap[k]?) : Own2 w' B v rs := by
  obtain ⟨h0, h | ⟨g, cap, cur, rfl, h1, h2, h3⟩⟩ := h
  · exact ⟨h0, .inl h⟩
  · exact ⟨h0, .inr ⟨g, cap, cur, rfl, h1, (hk g rfl).trans h2, h3⟩⟩
theorem Own2.below {w w' : World} {B : Nat} {v : Value} {rs : List Run} (h : Own2 w B v rs) (hb : Below w.heap.size w w') : Own2 w' B v rs := h.kept fun k e => hb.block k (h.lt e).1
theorem Own2.nil (w : World) (B : Nat) : Own2 w B (.slice none 0 0) [] := ⟨rfl, .inl ⟨rfl, rfl⟩⟩
theorem Own2.shape {w : World} {B : Nat} {v : Value} {rs : List Run} (h : Own2 w B v rs) : ∃ a c, v = .slice a rs.length c := by
  rcases h.cases with ⟨rfl, rfl⟩ | ⟨g, cap, _, rfl, _⟩
  · exact ⟨none, 0, rfl⟩
  · exact ⟨_, _, rfl⟩

theorem info38 : (Try.prog.info? 38).map (fun i => (i.zero, i.size, i.bytes)) = some (some (.agg #[.int .i64 0, .int .i64 0]), 2, 16) := by kernel_rfl

/-- append of runs, to a row that is owned, of whatever can be read. -/
theorem rapp_run {w : World} (ty : TypeId) (B : Nat) (v u : Value) (rs ss : List Run) (Q : Nat → Prop) (hown : Own2 w B v rs) (hsrc : Rr w Q u ss) (hlen : rs.length + ss.length ≤ 1000000000000) (hB : B ≤ w.heap.size) :
    ∃ v' w', (Builtin.append_ #[22, 22] ty #[v, u]).run Try.prog w = .ok v' w' ∧ Own2 w' B v' (rs ++ ss) ∧ w.grownBy w' v.ownBlock ∧ (v'.ownBlock = v.ownBlock ∨ v'.ownBlock = some w.heap.size) := by
  obtain ⟨i, hi, hz0, hz1, hz2⟩ := info_parts info38
  obtain ⟨a, cap, rfl, hc1, hc2, hc⟩ := hsrc
  cases a with
  | none =>
    obtain rfl := hc2 rfl
    have e : ss = [] := List.eq_nil_of_length_eq_zero (by omega)
    subst e
    exact ⟨v, w, run_append_owned_none w B 22 ty 38 i 2 Try.underlying22 hi v _ (flat rs) hown, by simpa using hown, ⟨rfl, rfl, rfl, Nat.le_refl _, fun _ _ _ => rfl⟩, .inl rfl⟩
  | some x =>
    obtain ⟨v', w', hr, ho, hg, _, hl⟩ := run_append_own_at (P := Try.prog) (w := w) B 22 ty 38 i (.agg #[.int .i64 0, .int .i64 0]) 2 16 Try.underlying22 hi hz0 hz1 hz2 rfl (by omega) v rs.length (flat rs) hown x ss.length cap (flat ss) (flat_length ss)
      (fun j y hj => by
        have hlt : j < (flat ss).length := (List.getElem?_eq_some_iff.1 hj).1
        rw [flat_length] at hlt
        obtain ⟨g, o, e1, _, _, e2, e3⟩ := hc (j / 2) (by omega)
        cases e1
        have hf := flat_get ss (j / 2) (by omega)
        rw [Go.WideShapes.add_plain]
        rcases Nat.mod_two_eq_zero_or_one j with hm | hm
        · have ej : j / 2 * 2 = j := by omega
          rw [ej] at e2 hf
          rw [e2, ← hf.1, hj]
        · have ej : j / 2 * 2 + 1 = j := by omega
          rw [Nat.add_assoc, ej] at e3
          rw [ej] at hf
          rw [e3, ← hf.2, hj]) (flat_one ss) (by unfold maxLen; omega) (by omega) hB
    refine ⟨v', w', hr, ?_, hg, hl⟩
    unfold Own2
    rwa [List.length_append, flat_append]

/-- append of runs as an operation of a walk. -/
theorem rapp_wp {w : World} {ops : Array Oper} {rest : List Oper} {o : Oper} {a : Act} {Q : Exit → Act → World → Prop} (hgd : o.guard = none) (s x : Operand)
    (ho : o.op = .call { callee := .builtin .append, args := #[s, x], argTypes := #[22, 22] })
    (B : Nat) (v u : Value) {rs ss : List Run} {R : Nat → Prop} (hs : a.eval s = v) (hx : a.eval x = u) (hown : Own2 w B v rs) (hsrc : Rr w R u ss) (hlen : rs.length + ss.length ≤ 1000000000000) (hB : B ≤ w.heap.size)
    (h : ∀ (ra : Option Addr) (n c : Nat) (w' : World), n = (rs ++ ss).length → Own2 w' B (.slice ra n c) (rs ++ ss) → w.grownBy w' v.ownBlock → ((Value.slice ra n c).ownBlock = v.ownBlock ∨ (Value.slice ra n c).ownBlock = some w.heap.size) → wpList Try.prog ops Q rest (a.put o.dst (.slice ra n c)) w') :
    wpList Try.prog ops Q (o :: rest) a w := by
  refine wpList_plain hgd fun K hK => ?_
  obtain ⟨v', w', hr, h2, h3, h4⟩ := rapp_run (w := w) o.type B v u rs ss R hown hsrc hlen hB
  unfold Oper.wp execOp
  simp only [ho, resolve, invoke, builtin, Sem.run_bind, Sem.run_pure, Result.andThen_ok, List.map_toArray, List.map_cons, List.map_nil, hs, hx, hr]
  obtain ⟨ra, c, rfl⟩ := h2.shape
  exact hK _ _ (h ra _ c w' rfl h2 h3 h4)

/-- One run, laid ahead of its append. -/
theorem rr_one (w : World) (x : Run) : Rr (w.alloc (.cells #[.int .i64 x.1, .int .i64 x.2] 38)) (fun k => k = w.heap.size) (.slice (some ⟨w.heap.size, 0, none⟩) 1 1) [x] :=
  ⟨_, 1, rfl, by simp, by simp, fun i hi => by
    obtain rfl : i = 0 := by simpa using hi
    exact ⟨w.heap.size, 0, rfl, rfl, by simp, by simp, by simp⟩⟩

theorem below_drewN {B : Nat} {w wr : World} (h : Below B w wr) (n : Nat) : Below B w (wr.drewN n) := ⟨h.os, h.tape, h.output, h.size, h.block⟩
/-- A box of a run, laid last. -/
theorem box_cells (w : World) (c n : Int) : (w.alloc (.cells #[.int .i64 c, .int .i64 n] 38)).cell? ⟨w.heap.size, 0, none⟩ = some (.int .i64 c) ∧ (w.alloc (.cells #[.int .i64 c, .int .i64 n] 38)).cell? ⟨w.heap.size, 1, none⟩ = some (.int .i64 n) := by simp
theorem old_cell {w : World} {g o : Nat} {v : Value} (ob : Obj) (h : w.cell? ⟨g, o, none⟩ = some v) : (w.alloc ob).cell? ⟨g, o, none⟩ = some v :=
  (World.cell?_of_block (Below.heap_alloc w ob g (World.block_lt_of_cell? w _ h))).trans h
end Go.Proofs.Ytdjapppfjpgidaa
