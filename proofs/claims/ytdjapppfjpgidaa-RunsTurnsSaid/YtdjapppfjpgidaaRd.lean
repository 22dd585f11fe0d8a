/- Walks over package slices at runs: Grow, Concat, Clone, Delete. -/
import Derived.Test.YtdjapppfjpgidaaRc
import Derived.Lib.AppendZerosOnto
import Derived.Lib.SliceRun
namespace Go.Proofs.Ytdjapppfjpgidaa
open Go.RowKit

/-- A row of runs is answered, in new memory, that may grow. -/
def Fresh (w : World) (rs : List Run) (e : Ending) (w' : World) : Prop := ∃ a c, e = .returned (.slice a rs.length c) ∧ Own2 w' w.heap.size (.slice a rs.length c) rs ∧ Below w.heap.size w w'

theorem grow_zero (w : World) : Calls Try.prog 48 #[.slice none 0 0, .int .i64 0] w fun e w' => e = .returned (.slice none 0 0) ∧ w = w' := by
  go_enter Try.func48, Try.ntmps48
  go_wp2_with fail
  go_ret
  exact ⟨rfl, rfl⟩

theorem grow_own (w : World) (k G : Nat) (z : Value) (hz : z.cells.size = 2) (hG : k ≤ G) (hG2 : G ≤ maxLen) :
    Own2 (w.drew.alloc (.cells ((#[] : Array Value) ++ Builtin.zeroCells z.cells k ++ Builtin.zeroCells z.cells (G - k)) 38)) w.heap.size (.slice (some ⟨w.heap.size, 0, none⟩) 0 G) [] := by
  refine ⟨rfl, .inr ⟨w.heap.size, G, _, rfl, Nat.le_refl _, heap_alloc_new w.drew _, by simp, hG2, ?_, by simp [flat]⟩⟩
  simp only [Array.size_append, size_zeroCells, hz, List.size_toArray, List.length_nil]
  omega

set_option maxHeartbeats 1000000 in
theorem grow_some (w : World) (k : Nat) (hk : 0 < k) (hl : k ≤ 1000000000) : Calls Try.prog 48 #[.slice none 0 0, .int .i64 k] w (Fresh w []) := by
  obtain ⟨i, hi, hz0, hz1, hz2⟩ := info_parts info38
  have hold : (Builtin.firstCells i.size 0 (.slice none 0 0)).run Try.prog w.drew = .ok ([] : List Value).toArray w.drew := run_firstCells_none w.drew i.size 0 0 0
  have hrz : ∀ ty, (Builtin.append_ #[22, 3] ty #[.slice none 0 0, .int .i64 (k : Int)]).run Try.prog w = .ok (.slice (some ⟨w.heap.size, 0, none⟩) k (grownCap w k 0 38)) (w.drew.alloc (.cells ((#[] : Array Value) ++ Builtin.zeroCells (Value.agg #[.int .i64 0, .int .i64 0]).cells k ++ Builtin.zeroCells (Value.agg #[.int .i64 0, .int .i64 0]).cells (grownCap w k 0 38 - k)) 38)) := fun ty => by
    have h := Lib.run_append_grow_zeros w 22 3 ty 38 i (.agg #[.int .i64 0, .int .i64 0]) .i64 .i64 Try.underlying22 Try.underlying3 hi hz0 none 0 0 [] hold k hk (by rw [hz1]; omega) (by omega) (by omega) (by rw [hz2]; omega) (by rw [Nat.zero_add]; exact growslice_fits hk (by rw [hz2]; omega))
    rw [Nat.zero_add] at h
    exact h
  have hG1 := grownCap_ge w k 0 38
  have hG2 := grownCap_le_maxLen w k 0 38 (by unfold maxLen; omega)
  have HO := Lib.hid (grow_own w k (grownCap w k 0 38) (.agg #[.int .i64 0, .int .i64 0]) rfl hG1 hG2)
  have HB : Hid (Below w.heap.size w (w.drew.alloc (.cells ((#[] : Array Value) ++ Builtin.zeroCells (Value.agg #[.int .i64 0, .int .i64 0]).cells k ++ Builtin.zeroCells (Value.agg #[.int .i64 0, .int .i64 0]).cells (grownCap w k 0 38 - k)) 38))) := (below_drewN (Below.refl _ w) 1).alloc (Nat.le_refl _) _
  generalize (w.drew.alloc (.cells ((#[] : Array Value) ++ Builtin.zeroCells (Value.agg #[.int .i64 0, .int .i64 0]).cells k ++ Builtin.zeroCells (Value.agg #[.int .i64 0, .int .i64 0]).cells (grownCap w k 0 38 - k)) 38)) = w' at *
  generalize grownCap w k 0 38 = G at *
  have hG3 : G ≤ 9223372036854775807 := by unfold maxLen at hG2; omega
  clear hold hG2
  have hk2 : (0 : Int) < (k : Int) := by omega
  have h1 : ¬ ((k : Int) < 0) := by omega
  have h2 : wrap64 (k : Int) = (k : Int) := IntWalk.wrap64_in _ (by omega)
  go_enter Try.func48, Try.ntmps48
  go_wp2_with (at_builtin; refine Lib.wpList_append_run _ rfl (.tmp 20) (.tmp 21) 22 3 rfl _ _ rfl rfl _ _ (hrz _) ?_)
  go_ret
  exact ⟨_, G, rfl, HO.out, HB.out⟩
theorem grow_any (w : World) (k : Nat) (hl : k ≤ 1000000000) : Calls Try.prog 48 #[.slice none 0 0, .int .i64 k] w (Fresh w []) := by
  by_cases hk : 0 < k
  · exact grow_some w k hk hl
  · obtain rfl : k = 0 := by omega
    refine (grow_zero w).mono ?_
    rintro e w' ⟨rfl, rfl⟩
    exact ⟨none, 0, rfl, Own2.nil _ _, Below.refl _ _⟩

/-! ### Clone -/
theorem clone_nil (w : World) : Calls Try.prog 42 #[.slice none 0 0] w (Fresh w []) := by
  have he := fun w a l c => Lib.run_eql_slice_nil (P := Try.prog) w 22 38 a l c 0 0 Try.underlying22
  go_enter Try.func42, Try.ntmps42
  go_wp2
  go_ret
  exact ⟨none, 0, rfl, Own2.nil _ _, Below.refl _ _⟩
theorem clone_some (w : World) {P : Nat → Prop} {x : Addr} {n cap : Nat} {rs : List Run} (h : Rr w P (.slice (some x) n cap) rs) (hl : n ≤ 1000000000) : Calls Try.prog 42 #[.slice (some x) n cap] w (Fresh w rs) := by
  have HS := Lib.hid (h.below ((Below.refl _ _).alloc (Nat.le_refl _) (.cells #[] 38)))
  have HN := Lib.hid h.len.1
  have H2 : Hid (([] : List Run).length + rs.length ≤ 1000000000000) := by show _ ≤ _; simp; have := h.len.1; omega
  have H3 : Hid (w.heap.size ≤ (w.alloc (.cells #[] 38)).heap.size) := by show _ ≤ _; simp
  have HO : Hid (Own2 (w.alloc (.cells #[] 38)) w.heap.size (.slice (some ⟨w.heap.size, 0, none⟩) 0 0) []) :=
    ⟨rfl, .inr ⟨w.heap.size, 0, #[], rfl, Nat.le_refl _, heap_alloc_new w _, by simp, by simp, by simp, by simp [flat]⟩⟩
  have he := fun w a l c => Lib.run_eql_slice_nil (P := Try.prog) w 22 38 a l c 0 0 Try.underlying22
  clear h
  go_enter Try.func42, Try.ntmps42
  go_wp2_with (at_builtin; refine rapp_wp rfl (.tmp 5) (.tmp 6) rfl w.heap.size (.slice (some ⟨w.heap.size, 0, none⟩) 0 0) _ rfl rfl HO.out HS.out H2.out H3.out ?_; intro ra n1 c2 w1 hn1 ho hg hl')
  go_ret
  have hb : Below w.heap.size w w1 := ((Below.refl _ _).alloc (Nat.le_refl _) _).grown hg (by simp) (fun k e => by simp [Value.ownBlock] at e; omega)
  simp only [List.nil_append] at hn1 ho
  subst hn1
  exact ⟨ra, c2, rfl, ho, hb⟩
theorem clone_any {w : World} {P : Nat → Prop} {v : Value} {rs : List Run} (h : Rr w P v rs) (hl : rs.length ≤ 1000000000) : Calls Try.prog 42 #[v] w (Fresh w rs) := by
  obtain ⟨a, c, rfl, h2, h3, h4⟩ := h
  cases a with
  | none =>
    obtain rfl := h3 rfl
    have e : rs = [] := List.eq_nil_of_length_eq_zero (by omega)
    subst e
    exact clone_nil w
  | some x => exact clone_some w ⟨_, c, rfl, h2, h3, h4⟩ hl

/-! ### Concat -/
set_option maxHeartbeats 2000000 in
theorem concat_any {w : World} {P Q : Nat → Prop} {va vb : Value} {xs ys : List Run} (g cap : Nat) (h0 : w.cell? ⟨g, 0, none⟩ = some va) (h1 : w.cell? ⟨g, 1, none⟩ = some vb) (_hc : 2 ≤ cap) (ha : Rr w P va xs) (hb : Rr w Q vb ys) (hl : xs.length ≤ 400000000) (hl2 : ys.length ≤ 400000000) :
    Calls Try.prog 46 #[.slice (some ⟨g, 0, none⟩) 2 cap] w (Fresh w (xs ++ ys)) := by
  have HA := Lib.hid ha
  have HB := Lib.hid hb
  obtain ⟨aa, ca, rfl, _⟩ := ha.shape
  obtain ⟨ab, cb, rfl, _⟩ := hb.shape
  clear ha hb
  have hsum : Hid (((xs.length : Int) + (ys.length : Int)) = ((xs.length + ys.length : Nat) : Int)) := by show _ = _; omega
  generalize hn : xs.length = n at *
  generalize hm : ys.length = m at *
  have HN := Lib.hid (And.intro hn hm)
  have hn0 : ¬ ((n : Int) < 0) := by omega
  have hn1 : ¬ ((n : Int) + (m : Int) < 0) := by omega
  clear hn hm
  go_enter Try.func46, Try.ntmps46
  go_wp2_with fail
  refine wp_loop_rounds 3 ?_
  rw [rounds_succ]
  go_wp2_with fail
  rw [rounds_succ]
  go_wp2_with fail
  rw [rounds_succ]
  go_wp2_with fail
  rw [hsum.out]
  refine (grow_any w (n + m) (by omega)).mono ?_
  rintro e w1 ⟨ra, c1, rfl, ho, hb⟩
  have HO := Lib.hid ho
  have HBl := Lib.hid hb
  have q0 : w1.cell? ⟨g, 0, none⟩ = some (.slice aa n ca) := (hb.cell (p := ⟨g, 0, none⟩) (World.block_lt_of_cell? w _ h0)).trans h0
  have q1 : w1.cell? ⟨g, 1, none⟩ = some (.slice ab m cb) := (hb.cell (p := ⟨g, 1, none⟩) (World.block_lt_of_cell? w _ h1)).trans h1
  have hg := World.block_lt_of_cell? w _ h0
  clear ho hb
  simp only [List.length_nil]
  go_wp2_with fail
  refine wp_loop_rounds 3 ?_
  rw [rounds_succ]
  go_wp2_with (at_builtin; refine rapp_wp rfl (.tmp 31) (.tmp 32) rfl w.heap.size (.slice ra 0 c1) (.slice aa n ca) rfl rfl HO.out (HA.out.below HBl.out) (by rw [HN.out.1]; simp; omega) HBl.out.size ?_; intro ra2 n2 c2 w2 hn2 ho2 hg2 hl2'; replace hn2 := Lib.hid hn2)
  have HB2 : Hid (Below w.heap.size w w2) := HBl.out.grown hg2 HBl.out.size (fun k e => (HO.out.lt e).2)
  have q2 : w2.cell? ⟨g, 1, none⟩ = some (.slice ab m cb) := (HB2.out.cell (p := ⟨g, 1, none⟩) hg).trans h1
  have HO2 : Hid (Own2 w2 w.heap.size (.slice ra2 n2 c2) xs) := ho2
  clear ho2 hg2 hl2' hn2
  rw [rounds_succ]
  go_wp2_with (at_builtin; refine rapp_wp rfl (.tmp 31) (.tmp 32) rfl w.heap.size (.slice ra2 n2 c2) (.slice ab m cb) rfl rfl HO2.out (HB.out.below HB2.out) (by rw [HN.out.1, HN.out.2]; omega) HB2.out.size ?_; intro ra3 n3 c3 w3 hn3 ho3 hg3 hl3'; replace hn3 := Lib.hid hn3)
  have HB3 : Hid (Below w.heap.size w w3) := HB2.out.grown hg3 HB2.out.size (fun k e => (HO2.out.lt e).2)
  have HO3 := Lib.hid ho3
  clear ho3 hg3 hl3'
  rw [rounds_succ]
  go_wp2_with fail
  go_ret
  exact ⟨ra3, c3, by rw [← hn3.out]; rfl, by rw [← hn3.out]; exact HO3.out, HB3.out⟩
end Go.Proofs.Ytdjapppfjpgidaa
