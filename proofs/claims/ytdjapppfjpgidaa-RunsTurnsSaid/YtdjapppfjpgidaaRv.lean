/- A region that draws its order, whose operations keep an invariant: walked once. -/
import Derived.Test.YtdjapppfjpgidaaRq
namespace Go.Proofs.Ytdjapppfjpgidaa
open Go.RowKit Go.Shelf
/-- A world that meets Inv. -/
structure InvW (Inv : World → Prop) where
  w : World
  ok : Inv w
/-- One walk in the text's order serves every order, where each operation keeps Inv. -/
theorem region_inv {Inv : World → Prop} {F : Fence} {n : Nat} {P : Program} {id : Nat} {Q : Exit → Act → World → Prop} {a : Act} {w : World} {l : List Oper} (hm : P.follows .mixedOrders = true) (hn : noDefer l.toArray = true) (hB : Region.lexB .any l.toArray = true) (h0 : Inv w.drew)
    (h : wpQuietIn F n P l.toArray (fun w' => ∃ x : InvW Inv, w' = x.w) (fun a' => ∀ w', (∃ x : InvW Inv, w' = x.w) → Q .normal a' w') l a) : (Code.region id l.toArray true).wpIn F n P Q a w := by
  simp only [Region.lexB, Bool.and_eq_true] at hB
  refine wpIn_region_any hm (any_quietR (C := fun w' => ∃ x : InvW Inv, w' = x.w) (Q := fun a' => ∀ w', (∃ x : InvW Inv, w' = x.w) → Q .normal a' w') hn (fun _ w' hw' h => h w' hw') _ _ _ _ ⟨⟨w.drew, h0⟩, rfl⟩ ?_)
  have := wpAnyQIn_lex (F := F) (n := n) (P := P) (C := fun w' => ∃ x : InvW Inv, w' = x.w) (md := .any) hB.1 l.toArray.toList 0 (Array.replicate l.toArray.size false) a (by simp) (by simpa using hB.2) (by simpa using h)
  simpa using this
/-- A call's contract, at each world that meets Inv. -/
theorem inv_call {Inv : World → Prop} {F : Fence} {n : Nat} {P : Program} {f : FuncId} {args : Array Value} {v : Value} {w : World} (hF : F = Fence.wide) (h : Calls P f args w fun e w' => e = .returned v ∧ Inv w') :
    CallsIn F n P f args w fun e w' => e = .returned v ∧ ∃ x : InvW Inv, w' = x.w := by
  subst hF
  exact callsIn_wide.2 (h.mono fun _ w' ⟨h1, h2⟩ => ⟨h1, ⟨w', h2⟩, rfl⟩)
/-- A wanted call of a Go function, at the wide fence. -/
theorem inv_want {n : Nat} {P : Program} {ops : Array Oper} {C : World → Prop} {Q : Act → Prop} {a : Act} {o : Oper} {rest : List Oper} (hw : Region.wanted o (yielded ops a.tmps) = true) (h : ∀ K : Act → Prop, (∀ a, wpQuietIn Fence.wide n P ops C Q rest a → K a) → o.quietIn Fence.wide n P a C K) : wpQuietIn Fence.wide n P ops C Q (o :: rest) a :=
  BigFrame.wpQuietIn_want (fun _ _ _ _ => trivial) hw h
/-- .. that is passed over. -/
theorem inv_skip {n : Nat} {P : Program} {ops : Array Oper} {C : World → Prop} {Q : Act → Prop} {a : Act} {o : Oper} {rest : List Oper} (hw : Region.wanted o (yielded ops a.tmps) = false) (h : wpQuietIn Fence.wide n P ops C Q rest (a.put o.dst undef)) : wpQuietIn Fence.wide n P ops C Q (o :: rest) a :=
  BigFrame.wpQuietIn_skip (fun _ _ _ _ => trivial) hw h
end Go.Proofs.Ytdjapppfjpgidaa
