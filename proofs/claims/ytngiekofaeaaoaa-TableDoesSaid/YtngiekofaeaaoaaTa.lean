/- Memory words for the walks over package table: readings of slices, owned rows, append, frames. -/
import Derived.Test.YtngiekofaeaaoaaChecked
import Derived.WalkKit
import Derived.WalkSpells
import Derived.WalkLawsBesides
import Derived.KernelRfl
import Derived.Outline
import Derived.Lib.Hide
import Derived.Maps.AppendAt
import Derived.Laws.AppendOwnNone
import Derived.Deep.AppendLies
import Derived.RegionTactic
import Derived.Deep.QuietTactic
import Derived.BigQuiet
import Derived.BigRegion
import Derived.LoopTactic
import Derived.Deep.RegionHeld3
import Derived.Deep.RegionLaw
import Derived.Deep.DeepCutAuto
namespace Go.Proofs.Ytngiekofaeaaoaa
open Go.RowKit

/-! ### Rows of one-cell elements -/

/-- A slice value that reads as these cells, all in blocks of which P holds. -/
def Rd (w : World) (P : Nat → Prop) (v : Value) (cs : List Value) : Prop :=
  (v = .slice none 0 0 ∧ cs = []) ∨ ∃ g o cap, v = .slice (some ⟨g, o, none⟩) cs.length cap ∧ cs.length ≤ cap ∧ P g ∧ g < w.heap.size ∧ ∀ j, j < cs.length → w.cell? ⟨g, o + j, none⟩ = cs[j]?

/-- A slice value that owns these cells, from block B on. -/
def Own (w : World) (B e : Nat) (v : Value) (cs : List Value) : Prop := w.ownsRow B e 1 v cs.length cs

theorem Own.nil (w : World) (B e : Nat) : Own w B e (.slice none 0 0) [] := ⟨by simp, .inl ⟨rfl, rfl⟩⟩

theorem Own.cases {w : World} {B e : Nat} {v : Value} {cs : List Value} (h : Own w B e v cs) :
    (v = .slice none 0 0 ∧ cs = []) ∨ ∃ g cap cur, v = .slice (some ⟨g, 0, none⟩) cs.length cap ∧ B ≤ g ∧ w.heap[g]? = some (.cells cur e (0, 0)) ∧ cs.length ≤ cap ∧ cap ≤ maxLen ∧ cur.size = cap ∧ cur.toList.take cs.length = cs := by
  obtain ⟨_, h⟩ := h
  rcases h with ⟨h1, h2⟩ | ⟨g, cap, cur, hv, hB, hb, h1, h2, h3, h4⟩
  · exact .inl ⟨h1, List.eq_nil_of_length_eq_zero h2⟩
  · exact .inr ⟨g, cap, cur, hv, hB, hb, h1, h2, by simpa using h3, by simpa using h4⟩

theorem Own.mk {w : World} {B e g cap : Nat} {cur : Array Value} {cs : List Value} (hB : B ≤ g) (hb : w.heap[g]? = some (.cells cur e (0, 0))) (h1 : cs.length ≤ cap) (h2 : cap ≤ maxLen) (h3 : cur.size = cap) (h4 : cur.toList.take cs.length = cs) :
    Own w B e (.slice (some ⟨g, 0, none⟩) cs.length cap) cs :=
  ⟨by simp, .inr ⟨g, cap, cur, rfl, hB, hb, h1, h2, by simpa using h3, by simpa using h4⟩⟩

theorem Own.rd {w : World} {B e : Nat} {v : Value} {cs : List Value} (h : Own w B e v cs) : Rd w (fun k => v.ownBlock = some k) v cs := by
  rcases h.cases with ⟨rfl, rfl⟩ | ⟨g, cap, cur, rfl, _, hb, h1, _, h3, h4⟩
  · exact .inl ⟨rfl, rfl⟩
  · refine .inr ⟨g, 0, cap, rfl, h1, rfl, (Array.getElem?_eq_some_iff.1 hb).1, fun j hj => ?_⟩
    simp only [World.cell?, hb, Option.isSome_none, Bool.false_eq_true, if_false, Nat.zero_add]
    rw [← Array.getElem?_toList, ← h4, List.getElem?_take, if_pos hj]

theorem Own.lt {w : World} {B e : Nat} {v : Value} {cs : List Value} (h : Own w B e v cs) {k : Nat} (hk : v.ownBlock = some k) : k < w.heap.size ∧ B ≤ k := by
  rcases h.cases with ⟨rfl, rfl⟩ | ⟨g, cap, cur, rfl, hB, hb, _⟩
  · simp [Value.ownBlock] at hk
  · simp [Value.ownBlock] at hk
    subst hk
    exact ⟨(Array.getElem?_eq_some_iff.1 hb).1, hB⟩

theorem Own.kept {w w' : World} {B e : Nat} {v : Value} {cs : List Value} (h : Own w B e v cs) (hk : ∀ k, v.ownBlock = some k → w'.heap[k]? = w.heap[k]?) : Own w' B e v cs := by
  rcases h.cases with ⟨rfl, rfl⟩ | ⟨g, cap, cur, rfl, hB, hb, h1, h2, h3, h4⟩
  · exact Own.nil _ _ _
  · exact Own.mk hB ((hk g rfl).trans hb) h1 h2 h3 h4

theorem Own.base {w : World} {B B' e : Nat} {v : Value} {cs : List Value} (h : Own w B e v cs) (hk : ∀ k, v.ownBlock = some k → B' ≤ k) : Own w B' e v cs := by
  rcases h.cases with ⟨rfl, rfl⟩ | ⟨g, cap, cur, rfl, hB, hb, h1, h2, h3, h4⟩
  · exact Own.nil _ _ _
  · exact Own.mk (hk g rfl) hb h1 h2 h3 h4

/-- A row cut to its first cells. -/
theorem Own.cut {w : World} {B e g n cap : Nat} {cs : List Value} (h : Own w B e (.slice (some ⟨g, 0, none⟩) n cap) cs) {k : Nat} (hk : k ≤ cs.length) : Own w B e (.slice (some ⟨g, 0, none⟩) k cap) (cs.take k) := by
  rcases h.cases with ⟨h0, _⟩ | ⟨g', cap', cur, hv, hB, hb, h1, h2, h3, h4⟩
  · cases h0
  · cases hv
    have hl : (cs.take k).length = k := by simp; omega
    have := Own.mk (cs := cs.take k) hB hb (by omega) h2 h3 (by rw [hl]; rw [← h4, List.take_take, Nat.min_eq_left hk])
    rwa [hl] at this

theorem Rd.mono {w : World} {P Q : Nat → Prop} {v : Value} {cs : List Value} (h : Rd w P v cs) (hpq : ∀ k, k < w.heap.size → P k → Q k) : Rd w Q v cs := by
  rcases h with h | ⟨g, o, cap, h1, h2, h3, h4, h5⟩
  · exact .inl h
  · exact .inr ⟨g, o, cap, h1, h2, hpq g h4 h3, h4, h5⟩

theorem Rd.kept {w w' : World} {P : Nat → Prop} {v : Value} {cs : List Value} (h : Rd w P v cs) (hs : w.heap.size ≤ w'.heap.size) (hk : ∀ k, k < w.heap.size → P k → w'.heap[k]? = w.heap[k]?) : Rd w' P v cs := by
  rcases h with h | ⟨g, o, cap, h1, h2, h3, h4, h5⟩
  · exact .inl h
  · exact .inr ⟨g, o, cap, h1, h2, h3, by omega, fun j hj => (World.cell?_of_block (hk g h4 h3)).trans (h5 j hj)⟩

theorem Rd.below {w w' : World} {P : Nat → Prop} {v : Value} {cs : List Value} (h : Rd w P v cs) (hb : Below w.heap.size w w') : Rd w' P v cs := h.kept hb.size fun k hk _ => hb.block k hk

theorem Rd.cut {w : World} {P : Nat → Prop} {g o n cap : Nat} {cs : List Value} (h : Rd w P (.slice (some ⟨g, o, none⟩) n cap) cs) {k : Nat} (hk : k ≤ cs.length) : Rd w P (.slice (some ⟨g, o, none⟩) k cap) (cs.take k) := by
  rcases h with ⟨h0, _⟩ | ⟨g', o', cap', h1, h2, h3, h4, h5⟩
  · cases h0
  · cases h1
    have hl : (cs.take k).length = k := by simp; omega
    exact .inr ⟨g, o, cap, by rw [hl], by omega, h3, h4, fun j hj => by rw [h5 j (by omega), List.getElem?_take, if_pos (by omega)]⟩

/-! ### append -/

/-- append, to a row that is owned, of whatever can be read. -/
theorem app_run {P : Program} {w : World} {t e : TypeId} {z : Value} {bytes : Nat} (ty : TypeId) (hT : P.underlying t = some (.slice e)) (hI : (P.info? e).map (fun i => (i.zero, i.size, i.bytes)) = some (some z, 1, bytes)) (hz : z.cells.size = 1)
    (B : Nat) (v u : Value) (cs ds : List Value) (Q : Nat → Prop) (hown : Own w B e v cs) (hsrc : Rd w Q u ds) (h1 : ∀ x ∈ ds, x.oneCell' = true) (hlen : (cs.length + ds.length) * (bytes + 1) ≤ 70000000000000) (hb : 0 < bytes) (hB : B ≤ w.heap.size) :
    ∃ v' w', (Builtin.append_ #[t, t] ty #[v, u]).run P w = .ok v' w' ∧ Own w' B e v' (cs ++ ds) ∧ w.grownBy w' v.ownBlock ∧ (v'.ownBlock = v.ownBlock ∨ v'.ownBlock = some w.heap.size) := by
  obtain ⟨i, hi, hz0, hz1, hz2⟩ := info_parts hI
  rcases hsrc with ⟨rfl, rfl⟩ | ⟨g, o, cap, rfl, _, _, _, hc⟩
  · refine ⟨v, w, run_append_owned_none w B t ty e i 1 hT hi v _ cs hown, by simpa using hown, ⟨rfl, rfl, rfl, Nat.le_refl _, fun _ _ _ => rfl⟩, .inl rfl⟩
  · have hbb : (cs.length + ds.length) * bytes ≤ 70000000000000 := Nat.le_trans (Nat.mul_le_mul_left _ (by omega)) hlen
    have hbb2 : cs.length + ds.length ≤ 70000000000000 := Nat.le_trans (Nat.le_mul_of_pos_right _ (by omega)) hlen
    obtain ⟨v', w', hr, ho, hg, _, hl⟩ := run_append_own_at (P := P) (w := w) B t ty e i z 1 bytes hT hi hz0 hz1 hz2 hz (by omega) v cs.length cs hown ⟨g, o, none⟩ ds.length cap ds (by simp)
      (fun j x hj => by
        have hlt : j < ds.length := (List.getElem?_eq_some_iff.1 hj).1
        have := hc j hlt
        rw [hj] at this
        by_cases h0 : j = 0
        · simpa [Addr.add, h0] using this
        · simpa [Addr.add, h0] using this) h1 (by unfold maxLen; omega) (by omega) hB
    refine ⟨v', w', hr, ?_, hg, hl⟩
    unfold Own
    rwa [List.length_append]

/-- append as an operation of a walk. -/
theorem app_wp {P : Program} {w : World} {ops : Array Oper} {rest : List Oper} {o : Oper} {a : Act} {Q : Exit → Act → World → Prop} (hgd : o.guard = none) (s x : Operand) {t e : TypeId} {z : Value} {bytes : Nat}
    (ho : o.op = .call { callee := .builtin .append, args := #[s, x], argTypes := #[t, t] })
    (hT : P.underlying t = some (.slice e)) (hI : (P.info? e).map (fun i => (i.zero, i.size, i.bytes)) = some (some z, 1, bytes)) (hz : z.cells.size = 1) (hb : 0 < bytes)
    (B : Nat) (v u : Value) {cs ds : List Value} {R : Nat → Prop} (hs : a.eval s = v) (hx : a.eval x = u) (hown : Own w B e v cs) (hsrc : Rd w R u ds) (h1 : ∀ x ∈ ds, x.oneCell' = true) (hlen : (cs.length + ds.length) * (bytes + 1) ≤ 70000000000000) (hB : B ≤ w.heap.size)
    (h : ∀ (ra : Option Addr) (n c : Nat) (w' : World), Own w' B e (.slice ra n c) (cs ++ ds) → w.grownBy w' v.ownBlock → ((Value.slice ra n c).ownBlock = v.ownBlock ∨ (Value.slice ra n c).ownBlock = some w.heap.size) → wpList P ops Q rest (a.put o.dst (.slice ra n c)) w') :
    wpList P ops Q (o :: rest) a w := by
  refine wpList_plain hgd fun K hK => ?_
  obtain ⟨v', w', hr, h2, h3, h4⟩ := app_run (P := P) (w := w) o.type hT hI hz B v u cs ds R hown hsrc h1 hlen hb hB
  unfold Oper.wp execOp
  simp only [ho, resolve, invoke, builtin, Sem.run_bind, Sem.run_pure, Result.andThen_ok, List.map_toArray, List.map_cons, List.map_nil, hs, hx, hr]
  obtain ⟨ra, n, c, rfl⟩ : ∃ ra n c, v' = .slice ra n c := by
    rcases h2.cases with ⟨h, _⟩ | ⟨g, cap, _, h, _⟩
    · exact ⟨_, _, _, h⟩
    · exact ⟨_, _, _, h⟩
  exact hK _ _ (h ra n c w' h2 h3 h4)

/-- append as a step of a region that draws its order. -/
theorem app_step {P : Program} {w : World} {ops : Array Oper} {o : Oper} {a : Act} {K : Act → World → Prop} {Q : Exit → Act → World → Prop} {E : Prop} (hgd : o.guard = none) (s x : Operand) {t e : TypeId} {z : Value} {bytes : Nat}
    (ho : o.op = .call { callee := .builtin .append, args := #[s, x], argTypes := #[t, t] })
    (hT : P.underlying t = some (.slice e)) (hI : (P.info? e).map (fun i => (i.zero, i.size, i.bytes)) = some (some z, 1, bytes)) (hz : z.cells.size = 1) (hb : 0 < bytes)
    (B : Nat) (v u : Value) {cs ds : List Value} {R : Nat → Prop} (hs : a.eval s = v) (hx : a.eval x = u) (hown : Own w B e v cs) (hsrc : Rd w R u ds) (h1 : ∀ x ∈ ds, x.oneCell' = true) (hlen : (cs.length + ds.length) * (bytes + 1) ≤ 70000000000000) (hB : B ≤ w.heap.size)
    (h : ∀ (ra : Option Addr) (n c : Nat) (w' : World), Own w' B e (.slice ra n c) (cs ++ ds) → w.grownBy w' v.ownBlock → ((Value.slice ra n c).ownBlock = v.ownBlock ∨ (Value.slice ra n c).ownBlock = some w.heap.size) → K (a.put o.dst (.slice ra n c)) w') :
    if Region.wanted o (yielded ops a.tmps) = true then Oper.wp P o a w K Q else E := by
  have hw : Region.wanted o (yielded ops a.tmps) = true := by simp [Region.wanted, hgd]
  rw [if_pos hw]
  obtain ⟨v', w', hr, h2, h3, h4⟩ := app_run (P := P) (w := w) o.type hT hI hz B v u cs ds R hown hsrc h1 hlen hb hB
  unfold Oper.wp execOp
  simp only [ho, resolve, invoke, builtin, Sem.run_bind, Sem.run_pure, Result.andThen_ok, List.map_toArray, List.map_cons, List.map_nil, hs, hx, hr]
  obtain ⟨ra, n, c, rfl⟩ : ∃ ra n c, v' = .slice ra n c := by
    rcases h2.cases with ⟨h, _⟩ | ⟨g, cap, _, h, _⟩
    · exact ⟨_, _, _, h⟩
    · exact ⟨_, _, _, h⟩
  exact h ra n c w' h2 h3 h4

/-- One element, laid ahead of its append. -/
theorem rd_one (w : World) (x : Value) (t : TypeId) : Rd (w.alloc (.cells #[x] t)) (fun k => k = w.heap.size) (.slice (some ⟨w.heap.size, 0, none⟩) 1 1) [x] :=
  .inr ⟨w.heap.size, 0, 1, rfl, by simp, rfl, by simp, fun j hj => by
    obtain rfl : j = 0 := by simpa using hj
    simp⟩

end Go.Proofs.Ytngiekofaeaaoaa
