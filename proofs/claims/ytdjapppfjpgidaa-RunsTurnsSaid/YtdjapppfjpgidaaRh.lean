/- Walks: placed as a sequence; append in a round. -/
import Derived.Test.YtdjapppfjpgidaaRg
namespace Go.Proofs.Ytdjapppfjpgidaa
open Go.RowKit Go.Shelf
attribute [local go_sem] Oper.semAt_some

/-- What yield is handed. -/
def encP (x : Int × Run) : Array Value := #[.int .i64 x.1, .agg #[.int .i64 x.2.1, .int .i64 x.2.2]]

theorem placed_stops (F : Fence) (n : Nat) (h44 : F.fn 44) (hro : F.round = none) (hn : 1 ≤ n) (Bs n₀ n₁ : Nat) (a : Option Addr) (len cap : Nat) (rs : List Run)
    (hsz : ∀ j, j ≤ rs.length → 0 ≤ sz (rs.take j) ∧ sz (rs.take j) ≤ 2199023255552) (hl : len ≤ 1000000000) (w : World) (hBs : Bs < w.heap.size) (hn₀ : n₀ ≤ w.heap.size) (hn₁ : n₁ ≤ w.heap.size)
    (hc : w.cell? ⟨Bs, 0, none⟩ = some (.slice a len cap)) (hR : Rr w (fun k => k < n₀) (.slice a len cap) rs) :
    SeqStopsK F n Try.prog 44 #[.pointer (some ⟨Bs, 0, none⟩)] encP (Kp2 n₀ n₁) (fun ys => ys = places rs len) (fun pre => ∃ k, k ≤ len ∧ pre = places rs k) len w := fun l J Jx W hW hJ _ hY h0 =>
  placed1_in F n h44 hro hn l Bs n₀ n₁ a len cap rs J Jx hsz hl W hJ (Nat.le_trans hn₀ hW.size) (Nat.le_trans hn₁ hW.size) hY ((hW.cell (p := ⟨Bs, 0, none⟩) hBs).trans hc) (hR.below hW) h0

theorem placed_in (F : Fence) (n : Nat) (h33 : F.fn 33) (hro : F.round = none) (a : Option Addr) (len cap : Nat) (w : World) :
    CallsIn F n Try.prog 33 #[.slice a len cap] w fun e w' => e = .returned (.func (.func 44) #[] #[.pointer (some ⟨w.heap.size, 0, none⟩)]) ∧ w' = w.alloc (.cells #[.slice a len cap] 22) := by
  refine callsIn_of_wp Try.func33 rfl h33 ?_ hro
  simp only [Try.ntmps33, List.size_toArray, List.length_cons, List.length_nil, Nat.reduceAdd, Nat.reduceSub, Array.replicate_succ, Array.replicate_zero, List.push_toArray, List.append_toArray, List.nil_append, List.cons_append]
  gi_wp2
  go_ret
  exact ⟨rfl, rfl⟩

/-- append of one run: the first two cells of each block stay. -/
theorem rapp_strong {w : World} (ty : TypeId) (B : Nat) (v : Value) (x : Addr) (c : Nat) (rs : List Run) (r : Run) (Q : Nat → Prop) (hown : Own2 w B v rs) (hne : rs = [] → v = .slice none 0 0) (hsrc : Rr w Q (.slice (some x) 1 c) [r]) (hlen : rs.length ≤ 1000000000) (hB : B ≤ w.heap.size) :
    ∃ v' w', (Builtin.append_ #[22, 22] ty #[v, .slice (some x) 1 c]).run Try.prog w = .ok v' w' ∧ Own2 w' B v' (rs ++ [r]) ∧ w.grownBy w' v.ownBlock ∧ ∀ k i u, i < 2 → w.cell? ⟨k, i, none⟩ = some u → w'.cell? ⟨k, i, none⟩ = some u := by
  obtain ⟨v', w', hr, ho, hg, _⟩ := rapp_run ty B v (.slice (some x) 1 c) rs [r] Q hown hsrc (by simp; omega) hB
  refine ⟨v', w', hr, ho, hg, fun k i u hi hu => ?_⟩
  have hks := World.block_lt_of_cell? w _ hu
  by_cases hk : some k = v.ownBlock
  · rcases hown.cases with ⟨rfl, _⟩ | ⟨g, cap, cur, rfl, hBg, hgc, hle, hcm, hcs, hct⟩
    · simp [Value.ownBlock] at hk
    · have hp : 0 < rs.length := by
        rcases Nat.eq_zero_or_pos rs.length with h0 | h0
        · have := hne (List.eq_nil_of_length_eq_zero h0)
          cases this
        · exact h0
      simp [Value.ownBlock] at hk
      subst hk
      obtain ⟨inf, hinf, hz0, hz1, hz2⟩ := info_parts info38
      have hcell := hown.cell.2.2.2.2.2.1
      have hnews : ∀ j y, (flat [r])[j]? = some y → w.cell? (x.add j) = some y := fun j y hj => by
        obtain ⟨g', o', e1, _, _, e2, e3⟩ := hsrc.at (i := 0) (by simp)
        cases e1
        rw [Go.WideShapes.add_plain]
        rcases j with _ | _ | j
        · simpa [flat] using e2.trans (by simpa [flat] using hj)
        · simpa [flat] using e3.trans (by simpa [flat] using hj)
        · simp [flat] at hj
      by_cases hfit : rs.length + 1 ≤ cap
      · obtain ⟨w1, hr1, ho1, _⟩ := run_append_fits (P := Try.prog) w B 22 ty 38 inf 2 Try.underlying22 hinf hz1 k rs.length cap (flat rs) hown x 1 c (flat [r]) (flat_length _) hnews (flat_one _) hfit
        rw [hr1] at hr
        injection hr with e1 e2
        subst e1 e2
        have hc2 := ho.cell.2.2.2.2.2.1 i (by omega)
        have hc1 := hcell i (by omega)
        rw [hc2, flat_append, List.getElem?_append_left (by rw [flat_length]; omega), ← hc1, hu]
      · have hr1 := run_append_grow (P := Try.prog) w 22 ty 38 inf (.agg #[.int .i64 0, .int .i64 0]) Try.underlying22 hinf hz0 ⟨k, 0, none⟩ rs.length cap (flat rs) (by rw [flat_length, hz1])
          (fun j y hj => by
            have hj2 : j < (flat rs).length := (List.getElem?_eq_some_iff.1 hj).1
            rw [flat_length] at hj2
            rw [Go.WideShapes.add_plain, Nat.zero_add, hcell j hj2, hj])
          x 1 c (flat [r]) (by rw [flat_length, hz1]; rfl) hnews (by omega) (by omega) (growslice_fits (by omega) (by rw [hz2]; omega))
        rw [hr1] at hr
        injection hr with e1 e2
        subst e2
        exact (World.cell?_of_block (a := ⟨k, i, none⟩) (Below.heap_alloc w.drew _ k hks)).trans hu
  · exact (World.cell?_of_block (a := ⟨k, i, none⟩) (hg.block k hks hk)).trans hu

/-- .. as an operation of a walk within a round. -/
theorem rapp_wpIn {F : Fence} {nF : Nat} {w : World} {ops : Array Oper} {rest : List Oper} {o : Oper} {a : Act} {Q : Exit → Act → World → Prop} (hgd : o.guard = none) (s x : Operand)
    (ho : o.op = .call { callee := .builtin .append, args := #[s, x], argTypes := #[22, 22] })
    (B : Nat) (v : Value) (ad : Addr) (c : Nat) {rs : List Run} {r : Run} {R : Nat → Prop} (hs : a.eval s = v) (hx : a.eval x = .slice (some ad) 1 c) (hown : Own2 w B v rs) (hne : rs = [] → v = .slice none 0 0) (hsrc : Rr w R (.slice (some ad) 1 c) [r]) (hlen : rs.length ≤ 1000000000) (hB : B ≤ w.heap.size)
    (h : ∀ (ra : Option Addr) (n c' : Nat) (w' : World), n = rs.length + 1 → Own2 w' B (.slice ra n c') (rs ++ [r]) → w.grownBy w' v.ownBlock → (∀ k i u, i < 2 → w.cell? ⟨k, i, none⟩ = some u → w'.cell? ⟨k, i, none⟩ = some u) → wpListIn F nF Try.prog ops Q rest (a.put o.dst (.slice ra n c')) w') :
    wpListIn F nF Try.prog ops Q (o :: rest) a w := by
  refine wpListIn_plain hgd fun K hK => ?_
  obtain ⟨v', w', hr, h2, h3, h4⟩ := rapp_strong (w := w) o.type B v ad c rs r R hown hne hsrc hlen hB
  obtain ⟨ra, c', rfl⟩ := h2.shape
  unfold Oper.wpIn
  refine ⟨by simp [Oper.about, ho, resolve, Target.leads, Sem.run_pure], ?_⟩
  rw [Oper.semAt_plain F _ _ (by rw [ho]; intro c hc'; cases hc')]
  simp [execOp, ho, resolve, invoke, builtin, hs, hx, hr, Result.andThen]
  exact hK _ _ (h ra _ c' w' (by simp) (by simpa using h2) h3 h4)
end Go.Proofs.Ytdjapppfjpgidaa
