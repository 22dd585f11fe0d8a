/- A region that draws its order and only reads, walked once, within a round too. -/
import Derived.Test.YtdjapppfjpgidaaRh
import Derived.Sort.QuietThIn
import Derived.Sort.BigQuietIn
namespace Go.Proofs.Ytdjapppfjpgidaa
open Go.RowKit Go.Shelf

/-- No operation is a defer. -/
def noDefer (ops : Array Oper) : Bool := ops.toList.all fun o => match o.op with | .defer _ => false | _ => true
theorem noDefer_at {ops : Array Oper} (h : noDefer ops = true) {i : Nat} {o : Oper} (ho : ops[i]? = some o) : ∀ c, o.op ≠ .defer c := by
  intro c hc
  have hm : o ∈ ops.toList := by
    have := Array.getElem?_toList (xs := ops) (i := i)
    rw [ho] at this
    exact List.mem_of_getElem? this
  have := List.all_eq_true.1 h o hm
  rw [hc] at this
  cases this

section
variable {F : Fence} {n : Nat} {P : Program} {ops : Array Oper} {md : Region.Mode} {C : World → Prop}
theorem opIn_quietR {o : Oper} {a : Act} {K : Act → Prop} {K' : Act → World → Prop} {Q' : Exit → Act → World → Prop} {w : World} (hd : ∀ c, o.op ≠ .defer c) (hw : C w) (h : ∀ a w', C w' → K a → K' a w')
    (ha : o.askedIn F P a C) (hh : o.quietIn F n P a C K) : o.wpIn F n P a w K' Q' := by
  obtain ⟨v, h1, h2⟩ := hh
  have h3 := h1 w hw
  refine ⟨ha w hw, ?_⟩
  rw [Oper.semAt_plain F _ _ hd]
  simp only [Oper.quietAtIn] at h3
  revert h3
  generalize (execOp a.eval o).run P w = r
  intro h3
  rcases r with ⟨x, w'⟩ | ⟨x, w'⟩
  · cases x <;> simp only [Oper.quietUponIn] at h3 <;> simp only [Oper.uponIn]
    · rw [h3.1, h3.2]; exact h _ _ hw h2
    · rw [h3.1, ← h3.2]; exact h _ _ hw h2
    · obtain ⟨e1, hdp, hc⟩ := h3
      rw [e1]
      refine ⟨hdp, hc.mono ?_⟩
      rintro e w'' ⟨rfl, hw''⟩
      exact h _ _ hw'' h2
  · simp only [Oper.quietUponIn] at h3
theorem opAt_quietR {i : Nat} {a : Act} {K : Act → Prop} {K' : Act → World → Prop} {Q' : Exit → Act → World → Prop} {w : World} (hn : noDefer ops = true) (hC : C w) (h : ∀ a w', C w' → K a → K' a w')
    (hh : qOpIn F n P ops C i K a) : wpOpIn F n P ops Q' i K' a w := by
  unfold qOpIn at hh
  unfold wpOpIn
  cases ho : ops[i]? with
  | none => simp only [ho] at hh; exact h _ _ hC hh
  | some o =>
    simp only [ho] at hh ⊢
    obtain ⟨ha, hh⟩ := hh
    cases hw : Region.wanted o (yielded ops a.tmps) with
    | true => simp only [hw, if_true] at hh ⊢; exact opIn_quietR (noDefer_at hn ho) hC h ha hh
    | false => simp only [hw, Bool.false_eq_true, if_false] at hh ⊢; exact ⟨ha w hC, h _ _ hC hh⟩
theorem any_quietR {Q : Act → Prop} {Q' : Exit → Act → World → Prop} (hn : noDefer ops = true) (hQ : ∀ a w, C w → Q a → Q' .normal a w) : ∀ (fuel : Nat) (listed : Array Bool) (a : Act) (w : World), C w →
    wpAnyQIn F n P md ops C Q fuel listed a → wpAnyIn F n P md ops Q' fuel listed a w
  | 0, _, _, _, hw, h => ⟨h.1, hQ _ _ hw h.2⟩
  | fuel + 1, _, _, _, hw, h => ⟨fun h0 => hQ _ _ hw (h.1 h0), fun i hi => opAt_quietR hn hw (fun a' w' hw' => any_quietR hn hQ fuel _ a' w' hw') (h.2 i hi)⟩

/-- One walk in the text's order serves every order, within a round too. -/
theorem region_quietR {id : Nat} {Q : Exit → Act → World → Prop} {a : Act} {w : World} {l : List Oper} (hm : P.follows .mixedOrders = true) (hn : noDefer l.toArray = true) (hB : Region.lexB .any l.toArray = true)
    (h : wpQuietIn F n P l.toArray (fun w' => ∃ n, w' = w.drewN n) (fun a' => ∀ w', (∃ n, w' = w.drewN n) → Q .normal a' w') l a) : (Code.region id l.toArray true).wpIn F n P Q a w := by
  simp only [Region.lexB, Bool.and_eq_true] at hB
  refine wpIn_region_any hm (any_quietR (C := fun w' => ∃ n, w' = w.drewN n) (Q := fun a' => ∀ w', (∃ n, w' = w.drewN n) → Q .normal a' w') hn (fun _ w' hw' h => h w' hw') _ _ _ _ ⟨1, rfl⟩ ?_)
  have := wpAnyQIn_lex (F := F) (n := n) (P := P) (C := fun w' => ∃ n, w' = w.drewN n) (md := .any) hB.1 l.toArray.toList 0 (Array.replicate l.toArray.size false) a (by simp) (by simpa using hB.2) (by simpa using h)
  simpa using this
end
end Go.Proofs.Ytdjapppfjpgidaa
