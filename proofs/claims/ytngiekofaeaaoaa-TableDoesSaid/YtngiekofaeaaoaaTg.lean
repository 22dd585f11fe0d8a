/- Words for the walks over package table: maps in a region that draws its order; places in a list. -/
import Derived.Test.YtngiekofaeaaoaaTf
import Derived.Maps.Own
import Derived.Maps.OwnOps
import Derived.Maps.OwnSet
import Derived.Maps.Views
namespace Go.Proofs.Ytngiekofaeaaoaa
open Go.RowKit Go.Maps

section
variable {H : Type} {P : Program} {w : World} {ops : Array Oper} {o : Oper} {a : Act} {K : Act → World → Prop} {Q : Exit → Act → World → Prop} {E : Prop}

/-- 'm[k] = v' as a step of a region that draws its order. -/
theorem upd_step (hgd : o.guard = none) (m x v : Operand) (t : TypeId) (hop : o.op = Op.mapUpdate t m x v)
    (k e : TypeId) (law : Keyed P k) (ht : P.underlying t = some (.map k e)) (R : Value → Option (DataW H × List MemPlace)) (b n : Nat) (D : DataW H)
    (hm : a.eval m = .map (some b)) (hown : w.ownsMap P k R b n D) (hn : n < maxLen) (key val : Value) (kl : Lit) (hx : a.eval x = key) (hv : a.eval v = val) (hkey : keyOf P k key = some kl)
    (d : DataW H) (ps : List MemPlace) (hval : R val = some (d, ps))
    (h : ∀ w', w'.ownsMap P k R b (n + 1) (D.put kl d) → w.grownBy w' (some b) → K (a.put o.dst undef) w') :
    if Region.wanted o (yielded ops a.tmps) = true then Oper.wp P o a w K Q else E := by
  have hw : Region.wanted o (yielded ops a.tmps) = true := by simp [Region.wanted, hgd]
  rw [if_pos hw]
  obtain ⟨w', hrun, r1, r2⟩ := hown.update law ht hn hkey hval
  unfold Oper.wp
  simp [execOp, hop, hm, hx, hv, hrun, Result.andThen]
  exact h w' r1 r2

/-- 'delete(m, k)' as a step of a region that draws its order. -/
theorem del_step (hgd : o.guard = none) (m x : Operand) (t k : TypeId) (hop : o.op = Op.call { callee := Callee.builtin Builtin.delete, args := #[m, x], argTypes := #[t, k] })
    (e : TypeId) (law : Keyed P k) (ht : P.underlying t = some (.map k e)) (R : Value → Option (DataW H × List MemPlace)) (b n : Nat) (D : DataW H)
    (hm : a.eval m = .map (some b)) (hown : w.ownsMap P k R b n D) (key : Value) (kl : Lit) (hx : a.eval x = key) (hkey : keyOf P k key = some kl)
    (h : ∀ w', w'.ownsMap P k R b n (D.del kl) → w.grownBy w' (some b) → K (a.put o.dst (.tuple #[])) w') :
    if Region.wanted o (yielded ops a.tmps) = true then Oper.wp P o a w K Q else E := by
  have hw : Region.wanted o (yielded ops a.tmps) = true := by simp [Region.wanted, hgd]
  rw [if_pos hw]
  obtain ⟨w', hrun, r1, r2⟩ := hown.drop law ht hkey o.type
  unfold Oper.wp
  simp [execOp, hop, resolve, invoke, builtin, hm, hx, hrun, Result.andThen]
  exact h w' r1 r2.grown
end

section
variable {K : Type} [DecidableEq K]

/-- The place of a key in a list. -/
def idx (ks : List K) (k : K) : Option Nat := ks.findIdx? (fun x => decide (x = k))
def posI (ks : List K) (k : K) : Int := match idx ks k with | some i => (i : Int) | none => 0
def posB (ks : List K) (k : K) : Bool := (idx ks k).isSome

theorem idx_none {ks : List K} {k : K} : idx ks k = none ↔ k ∉ ks := by
  simp only [idx, List.findIdx?_eq_none_iff, decide_eq_false_iff_not]
  exact ⟨fun h hm => h k hm rfl, fun h x hx e => h (e ▸ hx)⟩
theorem idx_some {ks : List K} {k : K} {i : Nat} (h : idx ks k = some i) : i < ks.length ∧ ks[i]? = some k ∧ ∀ j, j < i → ks[j]? ≠ some k := by
  simp only [idx] at h
  obtain ⟨h1, h2, h3⟩ := List.findIdx?_eq_some_iff_getElem.1 h
  refine ⟨h1, ?_, fun j hj e => ?_⟩
  · rw [List.getElem?_eq_getElem h1]
    simpa using h2
  · have := h3 j hj
    rw [List.getElem?_eq_getElem (by omega)] at e
    simp at e this
    exact this e
theorem posB_mem {ks : List K} {k : K} : posB ks k = true ↔ k ∈ ks := by
  rw [posB, Option.isSome_iff_ne_none, ne_eq, idx_none, Decidable.not_not]
theorem posB_false {ks : List K} {k : K} : posB ks k = false ↔ k ∉ ks := by
  rw [← Bool.not_eq_true, posB_mem]
theorem idx_snoc_self {ks : List K} {k : K} (h : k ∉ ks) : idx (ks ++ [k]) k = some ks.length := by
  have h0 : ks.findIdx? (fun x => decide (x = k)) = none := idx_none.2 h
  simp [idx, List.findIdx?_append, h0]
theorem idx_snoc_ne {ks : List K} {k k' : K} (h : k' ≠ k) : idx (ks ++ [k]) k' = idx ks k' := by
  have : ¬ k = k' := fun e => h e.symm
  simp only [idx, List.findIdx?_append]
  cases ks.findIdx? (fun x => decide (x = k')) <;> simp [this]
theorem idx_mem {ks : List K} {k : K} (h : k ∈ ks) : ∃ i, idx ks k = some i ∧ i < ks.length := by
  cases e : idx ks k with
  | none => exact absurd h (idx_none.1 e)
  | some i => exact ⟨i, rfl, (idx_some e).1⟩
theorem idx_unique {ks : List K} (hn : ks.Nodup) {k : K} {i : Nat} (h : ks[i]? = some k) : idx ks k = some i := by
  obtain ⟨j, hj, hl⟩ := idx_mem (List.mem_of_getElem? h)
  have h2 := (idx_some hj).2.1
  have hi := (List.getElem?_eq_some_iff.1 h).1
  have := (List.getElem?_inj hi hn).1 (h.trans h2.symm)
  rw [hj, this]

/-- A map that tells the places of a list's keys. -/
def Keeps (kd : K → Lit) (D : DataW Unit) (ks : List K) : Prop := ∀ k, Maps.has D (kd k) = posB ks k ∧ ∀ i, idx ks k = some i → D.atKey (kd k) (.lit (.int .i64 0)) = .lit (.int .i64 i)

theorem Keeps.none (kd : K → Lit) : Keeps kd (.map []) ([] : List K) := fun k => ⟨rfl, fun i h => by simp [idx] at h⟩

theorem Keeps.add {kd : K → Lit} (inj : ∀ a b, kd a = kd b → a = b) {D : DataW Unit} {ks : List K} (h : Keeps kd D ks) (hD : IsMap D) {k : K} (hk : WideAt.IsKeyLit (kd k)) (hn : k ∉ ks) :
    Keeps kd (D.put (kd k) (.lit (.int .i64 (ks.length : Nat)))) (ks ++ [k]) := by
  intro k'
  by_cases e : k' = k
  · subst e
    refine ⟨?_, fun i hi => ?_⟩
    · rw [has_put_same hD hk]; simp [posB, idx_snoc_self hn]
    · rw [idx_snoc_self hn] at hi
      cases hi
      rw [atKey_put_same hD hk]
  · have e' : kd k' ≠ kd k := fun h' => e (inj _ _ h')
    refine ⟨?_, fun i hi => ?_⟩
    · rw [has_put_other e', (h k').1, posB, posB, idx_snoc_ne e]
    · rw [idx_snoc_ne e] at hi
      rw [atKey_put_other e']
      exact (h k').2 i hi

theorem Keeps.cut {kd : K → Lit} (inj : ∀ a b, kd a = kd b → a = b) {D : DataW Unit} {ks : List K} {k : K} (h : Keeps kd D (ks ++ [k])) (hn : k ∉ ks) : Keeps kd (D.del (kd k)) ks := by
  intro k'
  by_cases e : k' = k
  · subst e
    refine ⟨?_, fun i hi => ?_⟩
    · rw [has_del_same, posB_false.2 hn]
    · exact absurd (List.mem_of_getElem? (idx_some hi).2.1) hn
  · have e' : kd k' ≠ kd k := fun h' => e (inj _ _ h')
    have h' := h k'
    rw [posB, idx_snoc_ne e] at h'
    refine ⟨?_, fun i hi => ?_⟩
    · rw [has_del_other e']; exact h'.1
    · rw [atKey_del_other e']; exact h'.2 i hi

/-- What a look-up tells. -/
theorem Keeps.look {kd : K → Lit} {D : DataW Unit} {ks : List K} (h : Keeps kd D ks) (k : K) {c : Int} (hc : D.atKey (kd k) (.lit (.int .i64 0)) = .lit (.int .i64 c)) : c = posI ks k := by
  unfold posI
  cases e : idx ks k with
  | none =>
    have h1 := (h k).1
    rw [posB, e] at h1
    rw [atKey_of_not_has h1] at hc
    simp at hc
    exact hc.symm
  | some i =>
    rw [(h k).2 i e] at hc
    simp at hc
    exact hc.symm
end

/-- The block of a map's value. -/
def mapBlock : Value → Option Nat | .map b => b | _ => none
end Go.Proofs.Ytngiekofaeaaoaa
