/- Lists of whole numbers in memory, append; the reference's Point, May, Len, Small. -/
import Derived.Test.YtdjapppfjpgidaaPc
namespace Go.Proofs.Ytdjapppfjpgidaa
open Go.RowKit

/-- The cells of numbers. -/
def ints (xs : List Int) : List Value := xs.map (Value.int .i64)
theorem ints_get (xs : List Int) (i : Nat) (h : i < xs.length) : (ints xs)[i]? = some (.int .i64 (xs.getD i 0)) := by
  simp [ints, List.getD_eq_getElem?_getD, h]
theorem ints_one (xs : List Int) : ∀ x ∈ ints xs, x.oneCell' = true := by
  intro x hx
  obtain ⟨r, _, rfl⟩ := List.mem_map.1 hx
  rfl
/-- A slice that reads as numbers. -/
def RdI (w : World) (P : Nat → Prop) (v : Value) (xs : List Int) : Prop :=
  ∃ a cap, v = .slice a xs.length cap ∧ xs.length ≤ cap ∧ (a = none → cap = 0) ∧
    ∀ i, i < xs.length → ∃ g o, a = some ⟨g, o, none⟩ ∧ P g ∧ g < w.heap.size ∧ w.cell? ⟨g, o + i, none⟩ = some (.int .i64 (xs.getD i 0))
theorem RdI.shape {w : World} {P : Nat → Prop} {v : Value} {xs : List Int} (h : RdI w P v xs) : ∃ a c, v = .slice a xs.length c ∧ xs.length ≤ c := by
  obtain ⟨a, c, h1, h2, _⟩ := h
  exact ⟨a, c, h1, h2⟩
theorem RdI.mono {w : World} {P Q : Nat → Prop} {v : Value} {xs : List Int} (h : RdI w P v xs) (hpq : ∀ k, k < w.heap.size → P k → Q k) : RdI w Q v xs := by
  obtain ⟨a, c, h1, h2, h3, h4⟩ := h
  refine ⟨a, c, h1, h2, h3, fun i hi => ?_⟩
  obtain ⟨g, o, e1, e2, e3, e4⟩ := h4 i hi
  exact ⟨g, o, e1, hpq g e3 e2, e3, e4⟩
theorem RdI.below {w w' : World} {P : Nat → Prop} {v : Value} {xs : List Int} (h : RdI w P v xs) (hb : Below w.heap.size w w') : RdI w' P v xs := by
  obtain ⟨a, c, h1, h2, h3, h4⟩ := h
  refine ⟨a, c, h1, h2, h3, fun i hi => ?_⟩
  obtain ⟨g, o, e1, e2, e3, e4⟩ := h4 i hi
  exact ⟨g, o, e1, e2, Nat.lt_of_lt_of_le e3 hb.size, (hb.cell (p := ⟨g, o + i, none⟩) e3).trans e4⟩
theorem RdI.nil (w : World) (P : Nat → Prop) : RdI w P (.slice none 0 0) [] := ⟨none, 0, rfl, by simp, fun _ => rfl, fun i hi => by simp at hi⟩
theorem RdI.at {w : World} {P : Nat → Prop} {a : Option Addr} {n c : Nat} {xs : List Int} (h : RdI w P (.slice a n c) xs) {i : Nat} (hi : i < xs.length) :
    ∃ g o, a = some ⟨g, o, none⟩ ∧ P g ∧ g < w.heap.size ∧ w.cell? ⟨g, o + i, none⟩ = some (.int .i64 (xs.getD i 0)) := by
  obtain ⟨a', c', h1, _, _, h4⟩ := h
  cases h1
  exact h4 i hi
theorem RdI.len {w : World} {P : Nat → Prop} {a : Option Addr} {n c : Nat} {xs : List Int} (h : RdI w P (.slice a n c) xs) : n = xs.length ∧ n ≤ c := by
  obtain ⟨a', c', h1, h2, _⟩ := h
  cases h1
  exact ⟨rfl, h2⟩
/-- A part of them. -/
theorem RdI.sub {w : World} {P : Nat → Prop} {g o n c : Nat} {xs : List Int} (h : RdI w P (.slice (some ⟨g, o, none⟩) n c) xs) {i m : Nat} (him : i + m ≤ n) : RdI w P (.slice (some ⟨g, o + i, none⟩) m (c - i)) ((xs.drop i).take m) := by
  obtain ⟨h1, h2⟩ := h.len
  have hl : ((xs.drop i).take m).length = m := by simp; omega
  refine ⟨_, c - i, by rw [hl], by rw [hl]; omega, by simp, fun k hk => ?_⟩
  rw [hl] at hk
  obtain ⟨g', o', e, p1, p2, p3⟩ := h.at (i := i + k) (by omega)
  cases e
  have e2 : ((xs.drop i).take m).getD k 0 = xs.getD (i + k) 0 := by
    simp only [List.getD_eq_getElem?_getD]
    rw [List.getElem?_take, if_pos hk, List.getElem?_drop]
  rw [e2]
  exact ⟨g, o + i, rfl, p1, p2, by rw [← p3]; congr 2; omega⟩

/-- A row of numbers of the call's own. -/
def OwnI (w : World) (B : Nat) (v : Value) (xs : List Int) : Prop := w.ownsRow B 3 1 v xs.length (ints xs)
theorem OwnI.cases {w : World} {B : Nat} {v : Value} {xs : List Int} (h : OwnI w B v xs) : (v = .slice none 0 0 ∧ xs = []) ∨ ∃ g cap cur, v = .slice (some ⟨g, 0, none⟩) xs.length cap ∧ B ≤ g ∧ w.heap[g]? = some (.cells cur 3 (0, 0)) ∧ xs.length ≤ cap ∧ cap ≤ maxLen ∧ cur.size = cap ∧ cur.toList.take xs.length = ints xs := by
  obtain ⟨_, ⟨h1, h2⟩ | ⟨g, cap, cur, h1, h2, h3, h4, h5, h6, h7⟩⟩ := h
  · exact .inl ⟨h1, List.eq_nil_of_length_eq_zero h2⟩
  · exact .inr ⟨g, cap, cur, h1, h2, h3, h4, h5, by simpa using h6, by simpa using h7⟩
theorem OwnI.rd {w : World} {B : Nat} {v : Value} {xs : List Int} (h : OwnI w B v xs) : RdI w (fun k => B ≤ k) v xs := by
  rcases h.cases with ⟨rfl, rfl⟩ | ⟨g, cap, cur, rfl, h1, h2, h3, h4, h5, h6⟩
  · exact RdI.nil _ _
  · refine ⟨_, cap, rfl, h3, by simp, fun i hi => ⟨g, 0, rfl, h1, (Array.getElem?_eq_some_iff.1 h2).1, ?_⟩⟩
    have := ints_get xs i hi
    rw [← h6, List.getElem?_take, if_pos hi] at this
    simpa [World.cell?, h2] using this
theorem OwnI.lt {w : World} {B : Nat} {v : Value} {xs : List Int} (h : OwnI w B v xs) {k : Nat} (hk : v.ownBlock = some k) : k < w.heap.size ∧ B ≤ k := by
  rcases h.cases with ⟨rfl, rfl⟩ | ⟨g, cap, cur, rfl, h1, h2, _⟩
  · simp [Value.ownBlock] at hk
  · simp [Value.ownBlock] at hk
    subst hk
    exact ⟨(Array.getElem?_eq_some_iff.1 h2).1, h1⟩
theorem OwnI.kept {w w' : World} {B : Nat} {v : Value} {xs : List Int} (h : OwnI w B v xs) (hk : ∀ k, v.ownBlock = some k → w'.heap[k]? = w.heap[k]?) : OwnI w' B v xs := by
  obtain ⟨h0, h | ⟨g, cap, cur, rfl, h1, h2, h3⟩⟩ := h
  · exact ⟨h0, .inl h⟩
  · exact ⟨h0, .inr ⟨g, cap, cur, rfl, h1, (hk g rfl).trans h2, h3⟩⟩
theorem OwnI.below {w w' : World} {B : Nat} {v : Value} {xs : List Int} (h : OwnI w B v xs) (hb : Below w.heap.size w w') : OwnI w' B v xs := h.kept fun k e => hb.block k (h.lt e).1
theorem OwnI.nil (w : World) (B : Nat) : OwnI w B (.slice none 0 0) [] := ⟨rfl, .inl ⟨rfl, rfl⟩⟩
theorem OwnI.shape {w : World} {B : Nat} {v : Value} {xs : List Int} (h : OwnI w B v xs) : ∃ a c, v = .slice a xs.length c := by
  rcases h.cases with ⟨rfl, rfl⟩ | ⟨g, cap, _, rfl, _⟩
  · exact ⟨none, 0, rfl⟩
  · exact ⟨_, _, rfl⟩
theorem OwnI.wider {w : World} {B C : Nat} {v : Value} {xs : List Int} (h : OwnI w B v xs) (hc : C ≤ B) : OwnI w C v xs := by
  obtain ⟨h0, h | ⟨g, cap, cur, h1, h2, h3⟩⟩ := h
  · exact ⟨h0, .inl h⟩
  · exact ⟨h0, .inr ⟨g, cap, cur, h1, Nat.le_trans hc h2, h3⟩⟩

theorem info3 : (Try.prog.info? 3).map (fun i => (i.zero, i.size, i.bytes)) = some (some (.int .i64 0), 1, 8) := by kernel_rfl

/-- append of numbers, to a row that is owned, of whatever can be read. -/
theorem iapp_run {w : World} (ty : TypeId) (B : Nat) (v u : Value) (xs ys : List Int) (Q : Nat → Prop) (hown : OwnI w B v xs) (hsrc : RdI w Q u ys) (hlen : xs.length + ys.length ≤ 1000000000000) (hB : B ≤ w.heap.size) :
    ∃ v' w', (Builtin.append_ #[44, 44] ty #[v, u]).run Try.prog w = .ok v' w' ∧ OwnI w' B v' (xs ++ ys) ∧ w.grownBy w' v.ownBlock ∧ (v'.ownBlock = v.ownBlock ∨ v'.ownBlock = some w.heap.size) := by
  obtain ⟨i, hi, hz0, hz1, hz2⟩ := info_parts info3
  obtain ⟨a, cap, rfl, hc1, hc2, hc⟩ := hsrc
  cases a with
  | none =>
    obtain rfl := hc2 rfl
    have e : ys = [] := List.eq_nil_of_length_eq_zero (by omega)
    subst e
    exact ⟨v, w, run_append_owned_none w B 44 ty 3 i 1 Try.underlying44 hi v _ (ints xs) hown, by simpa using hown, ⟨rfl, rfl, rfl, Nat.le_refl _, fun _ _ _ => rfl⟩, .inl rfl⟩
  | some x =>
    obtain ⟨v', w', hr, ho, hg, _, hl⟩ := run_append_own_at (P := Try.prog) (w := w) B 44 ty 3 i (.int .i64 0) 1 8 Try.underlying44 hi hz0 hz1 hz2 rfl (by omega) v xs.length (ints xs) hown x ys.length cap (ints ys) (by simp [ints])
      (fun j y hj => by
        have hlt : j < (ints ys).length := (List.getElem?_eq_some_iff.1 hj).1
        have hlt2 : j < ys.length := by simpa [ints] using hlt
        obtain ⟨g, o, e1, _, _, e2⟩ := hc j hlt2
        cases e1
        rw [Go.WideShapes.add_plain, e2, ← ints_get ys j hlt2, hj]) (ints_one ys) (by unfold maxLen; omega) (by omega) hB
    refine ⟨v', w', hr, ?_, hg, hl⟩
    unfold OwnI
    rw [List.length_append]
    simpa [ints] using ho
/-- .. as an operation of a walk. -/
theorem iapp_wp {w : World} {ops : Array Oper} {rest : List Oper} {o : Oper} {a : Act} {Q : Exit → Act → World → Prop} (hgd : o.guard = none) (s x : Operand)
    (ho : o.op = .call { callee := .builtin .append, args := #[s, x], argTypes := #[44, 44] })
    (B : Nat) (v u : Value) {xs ys : List Int} {R : Nat → Prop} (hs : a.eval s = v) (hx : a.eval x = u) (hown : OwnI w B v xs) (hsrc : RdI w R u ys) (hlen : xs.length + ys.length ≤ 1000000000000) (hB : B ≤ w.heap.size)
    (h : ∀ (ra : Option Addr) (n c : Nat) (w' : World), n = (xs ++ ys).length → OwnI w' B (.slice ra n c) (xs ++ ys) → w.grownBy w' v.ownBlock → ((Value.slice ra n c).ownBlock = v.ownBlock ∨ (Value.slice ra n c).ownBlock = some w.heap.size) → wpList Try.prog ops Q rest (a.put o.dst (.slice ra n c)) w') :
    wpList Try.prog ops Q (o :: rest) a w := by
  refine wpList_plain hgd fun K hK => ?_
  obtain ⟨v', w', hr, h2, h3, h4⟩ := iapp_run (w := w) o.type B v u xs ys R hown hsrc hlen hB
  unfold Oper.wp execOp
  simp only [ho, resolve, invoke, builtin, Sem.run_bind, Sem.run_pure, Result.andThen_ok, List.map_toArray, List.map_cons, List.map_nil, hs, hx, hr]
  obtain ⟨ra, c, rfl⟩ := h2.shape
  exact hK _ _ (h ra _ c w' rfl h2 h3 h4)
/-- One number, laid ahead of its append. -/
theorem rdi_one (w : World) (x : Int) : RdI (w.alloc (.cells #[.int .i64 x] 3)) (fun k => k = w.heap.size) (.slice (some ⟨w.heap.size, 0, none⟩) 1 1) [x] :=
  ⟨_, 1, rfl, by simp, by simp, fun i hi => by
    obtain rfl : i = 0 := by simpa using hi
    exact ⟨w.heap.size, 0, rfl, rfl, by simp, by simp⟩⟩

/-! ### Point -/
def pt (c : Int) : Bool := decide (0 ≤ c) && decide (c < 196608)
theorem point_any (w : World) (c : Int) : Calls Try.prog 36 #[.int .i64 c] w fun e w' => e = .returned (.bool (pt c)) ∧ w = w' := by
  unfold pt
  cases h1 : decide (0 ≤ c) with
  | false =>
    simp only [Bool.false_and]
    go_enter Try.func36, Try.ntmps36
    go_wp2_with fail
    go_ret
    exact ⟨rfl, rfl⟩
  | true =>
    simp only [Bool.true_and]
    go_enter Try.func36, Try.ntmps36
    go_wp2_with fail
    go_ret
    exact ⟨rfl, rfl⟩
theorem pt_iff {c : Int} : pt c = true ↔ 0 ≤ c ∧ c ≤ 196607 := by simp [pt]; omega
end Go.Proofs.Ytdjapppfjpgidaa
