/- Walks: placed, an iterator over the runs and their places. -/
import Derived.Test.YtdjapppfjpgidaaRf
import Derived.RangeFuncNested
import Derived.RangeFuncBound
import Derived.RangeFuncCalls
import Derived.RangeFuncLeaves
import Derived.RangeFuncBox
import Derived.Shelf.Abstract
import Derived.Shelf.RegionOpen
import Derived.OwnWalkIn
import Derived.TacticsInMore
import Derived.LoopNIn
import Derived.LoopIn
namespace Go.Proofs.Ytdjapppfjpgidaa
open Go.RowKit Go.Shelf
attribute [local go_sem] Oper.semAt_some

/-- The places and the runs that have come when k rounds are over. -/
def places (rs : List Run) (k : Nat) : List (Int × Run) := (List.range k).map fun j => (sz (rs.take j), rs.getD j (0, 0))
theorem places_succ (rs : List Run) (k : Nat) : places rs (k + 1) = places rs k ++ [(sz (rs.take k), rs.getD k (0, 0))] := by simp [places, List.range_succ]
theorem places_length (rs : List Run) (k : Nat) : (places rs k).length = k := by simp [places]

/-- What a round keeps: what lay below n₀; and the first two cells of each block from n₁ on. -/
def Kp2 (n₀ n₁ : Nat) (A B : World) : Prop := Below n₀ A B ∧ ∀ k i v, n₁ ≤ k → i < 2 → A.cell? ⟨k, i, none⟩ = some v → B.cell? ⟨k, i, none⟩ = some v
theorem kp2_t {n₀ n₁ : Nat} {A B C : World} (h : Kp2 n₀ n₁ A B) (k : Kp2 n₀ n₁ B C) : Kp2 n₀ n₁ A C := ⟨h.1.trans k.1, fun b i v hb hi hv => k.2 b i v hb hi (h.2 b i v hb hi hv)⟩
theorem kp2_refl (n₀ n₁ : Nat) (A : World) : Kp2 n₀ n₁ A A := ⟨Below.refl _ _, fun _ _ _ _ _ h => h⟩
theorem kp2_b {n₀ n₁ : Nat} {w : World} (hn : n₀ ≤ w.heap.size) (W : World) (l : Nat) (o o' : Obj) (hl : w.heap.size ≤ l) (h : W.heap[l]? = some o) (h1 : o.isCells = false) (h2 : o.isWalk = false) : Kp2 n₀ n₁ W (W.putObj l o') := by
  refine ⟨belowK_b hn W l o o' hl h h1 h2, fun k i v _ _ hv => ?_⟩
  have hne : k ≠ l := by
    rintro rfl
    cases o <;> simp [World.cell?, h, Obj.isCells] at hv h1
  exact (World.cell?_of_block (a := ⟨k, i, none⟩) ((grownBy_putObj' W l o').block k (World.block_lt_of_cell? W _ hv) (fun e => hne (by cases e; rfl)))).trans hv
theorem kp2_alloc {n₀ n₁ : Nat} (W : World) (o : Obj) (h : n₀ ≤ W.heap.size) : Kp2 n₀ n₁ W (W.alloc o) :=
  ⟨(Below.refl _ W).alloc h _, fun k i _ _ _ hv => (World.cell?_of_block (a := ⟨k, i, none⟩) (Below.heap_alloc W o k (World.block_lt_of_cell? W _ hv))).trans hv⟩
theorem kp2_set {n₀ n₁ : Nat} (W : World) (b : Nat) (u : Value) (h : n₀ ≤ b) (h1 : b < n₁) : Kp2 n₀ n₁ W (W.setCell ⟨b, 0, none⟩ u) :=
  ⟨(Below.refl _ W).setCell (p := ⟨b, 0, none⟩) h _, fun k i v hk _ hv => (World.cell?_of_block (a := ⟨k, i, none⟩) (Below.heap_setCell _ _ _ _ (by simp; omega))).trans hv⟩
theorem kp2_drewN {n₀ n₁ : Nat} (W : World) (n : Nat) : Kp2 n₀ n₁ W (W.drewN n) := ⟨below_drewN (Below.refl _ _) n, fun _ _ _ _ _ hv => hv⟩

set_option maxRecDepth 100000 in
set_option maxHeartbeats 4000000 in
theorem placed1_in (F : Fence) (n : Nat) (h44 : F.fn 44) (hro : F.round = none) (hn : 1 ≤ n) (l Bs n₀ n₁ : Nat) (a : Option Addr) (len cap : Nat) (rs : List Run) (J Jx : List (Int × Run) → World → Prop)
    (hsz : ∀ j, j ≤ rs.length → 0 ≤ sz (rs.take j) ∧ sz (rs.take j) ≤ 2199023255552) (hl : len ≤ 1000000000)
    (W : World) (hJ : AbidesFrom W.heap.size J) (hn₀ : n₀ ≤ W.heap.size) (hn₁ : n₁ ≤ W.heap.size)
    (hY : ∀ pre x W, J pre W → pre.length < len → YieldAt F (n - 1) Try.prog l #[.int .i64 x.1, .agg #[.int .i64 x.2.1, .int .i64 x.2.2]] W fun e W' =>
      (e = .returned (.bool true) ∧ J (pre ++ [x]) W' ∧ Kp2 n₀ n₁ W W') ∨ (e = .returned (.bool false) ∧ Jx (pre ++ [x]) W'))
    (hBs : W.cell? ⟨Bs, 0, none⟩ = some (.slice a len cap)) (hR : Rr W (fun k => k < n₀) (.slice a len cap) rs) (h0 : J [] W) :
    CallsIn F n Try.prog 44 #[.func (.yield l) #[] #[], .pointer (some ⟨Bs, 0, none⟩)] W fun e W' => (∃ v, e = .returned v) ∧
      ((∃ ys, ys = places rs len ∧ J ys W') ∨ (∃ pre, (∃ k, k ≤ len ∧ pre = places rs k) ∧ Jx pre W')) := by
  have HN := Lib.hid hR.len.1
  have HR := Lib.hid hR
  clear hR
  refine callsIn_of_wp Try.func44 rfl h44 ?_ hro
  simp only [Try.ntmps44, List.size_toArray, List.length_cons, List.length_nil, Nat.reduceAdd, Nat.reduceSub, Array.replicate_succ, Array.replicate_zero, List.push_toArray, List.append_toArray, List.nil_append, List.cons_append]
  gi_wp2
  gi_loopw [3, 8] (fun at_ i wr => ∃ k : Nat, k ≤ len ∧ i = .int .i64 k ∧ at_ = .int .i64 (sz (rs.take k)) ∧ J (places rs k) wr ∧ Below n₀ W wr)
    (fun _ i _ => len - (intOf i).toNat)
  case atStart => exact ⟨0, Nat.zero_le _, rfl, rfl, h0, Below.refl _ _⟩
  case round =>
    obtain ⟨k, hk, rfl, rfl, hJs, hnx⟩ := hrel
    by_cases hlt : k < len
    · obtain ⟨g, o, rfl, hg, hgs, hc0', hc1'⟩ := HR.out.at (i := k) (by rw [← HN.out]; exact hlt)
      have hc0 := (hnx.cell (p := ⟨g, o + k * 2, none⟩) hg).trans hc0'
      have hc1 := (hnx.cell (p := ⟨g, o + k * 2 + 1, none⟩) hg).trans hc1'
      have hst := sz_take rs k (by rw [← HN.out]; exact hlt)
      have hb1 := hsz k (by rw [← HN.out]; omega)
      have hb2 := hsz (k + 1) (by rw [← HN.out]; omega)
      rw [hst] at hb2
      have HS := Lib.hid hst
      have HP := Lib.hid (places_succ rs k)
      clear hst hc0' hc1'
      generalize rs.getD k (0, 0) = r at *
      obtain ⟨cc, nn⟩ := r
      simp only at *
      generalize hs : sz (rs.take k) = s at *
      have hJ2 : J (places rs k) (wr.alloc (.cells #[.int .i64 cc, .int .i64 nn] 38)) := hJ _ _ _ none hJs (World.grownBy_alloc wr _ none) (by simp)
      obtain ⟨fn, tmps, assign, body, hy, hRR⟩ := hY _ (s, (cc, nn)) _ hJ2 (by rw [places_length]; exact hlt)
      dsimp only at hy
      have hxb : n₁ ≤ wr.heap.size := Nat.le_trans hn₁ hnx.size
      have hnx2 : Below n₀ W (wr.alloc (.cells #[.int .i64 cc, .int .i64 nn] 38)) := hnx.alloc (Nat.le_trans hn₀ hnx.size) _
      have hx1 := (box_cells wr cc nn).2
      gi_wp2
      refine hRR.mono ?_
      rintro e W3 (⟨rfl, hJ3, hk3⟩ | ⟨rfl, hJx3⟩)
      · have hx3 := hk3.2 _ 1 _ hxb (by omega) hx1
        gi_wp2
        go_roundw
        case rel => exact ⟨k + 1, by omega, by go_num, by rw [HS.out], by rw [HP.out]; exact hJ3, hnx2.trans hk3.1⟩
        case measure => simp [intOf]; omega
      · gi_wp2
        refine bodyPost_ret (results_none rfl _ _ _) rfl ?_
        exact ⟨⟨_, rfl⟩, .inr ⟨_, ⟨k + 1, by omega, HP.out.symm⟩, hJx3⟩⟩
    · obtain rfl : k = len := by omega
      gi_wp2
      go_end0
      exact ⟨⟨_, rfl⟩, .inl ⟨_, rfl, hJs⟩⟩
end Go.Proofs.Ytdjapppfjpgidaa
