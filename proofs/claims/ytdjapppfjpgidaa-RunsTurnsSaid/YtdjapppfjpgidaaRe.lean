/- Walks: slices.Delete at runs, of one; joined. -/
import Derived.Test.YtdjapppfjpgidaaRd
import Derived.OwnWalk
namespace Go.Proofs.Ytdjapppfjpgidaa
open Go.RowKit

theorem flat_take (rs : List Run) (k : Nat) : (flat rs).take (k * 2) = flat (rs.take k) := by
  induction k generalizing rs with
  | zero => simp [flat]
  | succ k ih =>
    cases rs with
    | nil => simp [flat]
    | cons r rs =>
      rw [show (k + 1) * 2 = k * 2 + 2 by omega]
      have := ih rs
      simp only [flat, List.flatMap_cons, List.take_succ_cons] at this ⊢
      simp [this]
theorem Own2.cut {w : World} {B g n cap : Nat} {rs : List Run} (h : Own2 w B (.slice (some ⟨g, 0, none⟩) n cap) rs) {k : Nat} (hk : k ≤ rs.length) : Own2 w B (.slice (some ⟨g, 0, none⟩) k cap) (rs.take k) := by
  rcases h.cases with ⟨h0, _⟩ | ⟨g', cap', cur, e, h1, h2, h3, h4, h5, h6⟩
  · cases h0
  · cases e
    have hl : (rs.take k).length = k := by simp; omega
    refine ⟨by rw [flat_length], .inr ⟨g, cap, cur, by rw [hl], h1, h2, by omega, h4, h5, ?_⟩⟩
    rw [hl, ← flat_take, ← h6, List.take_take]
    congr 1
    omega
/-- The cells of an owned row. -/
theorem Own2.cell {w : World} {B g n cap : Nat} {rs : List Run} (h : Own2 w B (.slice (some ⟨g, 0, none⟩) n cap) rs) : n = rs.length ∧ n ≤ cap ∧ cap ≤ maxLen ∧ B ≤ g ∧ g < w.heap.size ∧ (∀ j, j < n * 2 → w.cell? ⟨g, j, none⟩ = (flat rs)[j]?) ∧ (∀ j, j < cap * 2 → (w.cell? ⟨g, j, none⟩).isSome = true) ∧ ∀ j, w.frozen? ⟨g, j, none⟩ = false := by
  rcases h.cases with ⟨h0, _⟩ | ⟨g', cap', cur, e, h1, h2, h3, h4, h5, h6⟩
  · cases h0
  · cases e
    refine ⟨rfl, h3, h4, h1, (Array.getElem?_eq_some_iff.1 h2).1, fun j hj => ?_, fun j hj => ?_, fun j => by simp [World.frozen?, h2]⟩
    · rw [← h6, List.getElem?_take, if_pos hj]
      simp [World.cell?, h2]
    · simp [World.cell?, h2]
      omega

/-- clear of one run. -/
theorem clear_one (w : World) (ty : TypeId) (b o c : Nat) (hc : ∀ j, j < 2 → (w.cell? ⟨b, o + j, none⟩).isSome = true) (hf : ∀ j, j < 2 → w.frozen? ⟨b, o + j, none⟩ = false) :
    (Builtin.clear_ #[22] ty #[.slice (some ⟨b, o, none⟩) 1 c]).run Try.prog w = .ok (.tuple #[]) (w.setCells b o [.int .i64 0, .int .i64 0]) := by
  have hzc : (Builtin.zeroCells (Value.agg #[.int .i64 0, .int .i64 0]).cells 1).toList = [.int .i64 0, .int .i64 0] := by kernel_rfl
  have hst := run_storeCells_cells (P := Try.prog) b o [.int .i64 0, .int .i64 0] 0 w (by simpa using hc) (by simpa using hf) (by intro v hv; simp at hv; subst hv; rfl)
  simp only [Nat.add_zero] at hst
  obtain ⟨i, hi, hz0, hz1, hz2⟩ := info_parts info38
  have hv : ∀ w, (zeroValue 38).run Try.prog w = .ok (.agg #[.int .i64 0, .int .i64 0]) w := fun w => by simp [zeroValue, typeInfo, hi, hz0]
  simp [Builtin.clear_, run_underlying Try.underlying22, hv, hzc, hst]

theorem grown_poke {w w' : World} {g : Nat} (h : w.grownBy w' (some g)) (o : Nat) (u : Value) : w.grownBy (w'.setCell ⟨g, o, none⟩ u) (some g) :=
  ⟨h.os, h.tape, h.output, by simpa [World.setCell] using h.size, fun k hk hne => by
    rw [Below.heap_setCell _ _ _ _ (fun e => hne (by rw [e]))]
    exact h.block k hk hne⟩
theorem Own2.poke {w : World} {B g n cap : Nat} {rs : List Run} (h : Own2 w B (.slice (some ⟨g, 0, none⟩) n cap) rs) {j : Nat} (hj : rs.length * 2 ≤ j) (u : Value) : Own2 (w.setCell ⟨g, j, none⟩ u) B (.slice (some ⟨g, 0, none⟩) n cap) rs := by
  obtain ⟨h0, ⟨h1, _⟩ | ⟨g', cap', cur, h1, h2, h3, h4, h5, h6, h7⟩⟩ := h
  · cases h1
  · cases h1
    refine ⟨h0, .inr ⟨g, cap, cur.setIfInBounds j u, rfl, h2, ?_, h4, h5, by simpa using h6, ?_⟩⟩
    · simp [World.setCell, Array.getElem?_modify, h3]
    · rw [← h7, Array.toList_setIfInBounds, List.take_set_of_le hj]

set_option maxHeartbeats 2000000 in
theorem delete_room (w : World) {B g n cap k j p : Nat} {rs : List Run} (h : Own2 w B (.slice (some ⟨g, 0, none⟩) n cap) rs) (hj : j = k + 1) (hk : j ≤ n) (_hl : n ≤ 1000000000) (hcap : cap ≠ j) (hp : n = p + 1) :
    Calls Try.prog 47 #[.slice (some ⟨g, 0, none⟩) n cap, .int .i64 k, .int .i64 j] w fun e w' => e = .returned (.slice (some ⟨g, 0, none⟩) p cap) ∧ Own2 w' B (.slice (some ⟨g, 0, none⟩) p cap) (rs.take k ++ rs.drop j) ∧ w.grownBy w' (some g) := by
  obtain ⟨i, hi, _, hz1, _⟩ := info_parts info38
  obtain ⟨h1, h2, h3, h4, h5, h6, h7, h8⟩ := h.cell
  have H := Lib.hid h
  have hd : ((k : Int) == (j : Int)) = false := by rw [beq_eq_false_iff_ne]; omega
  have HC : Hid (w.drew.ownsRow B 38 2 (.slice (some ⟨g, 0, none⟩) k cap) k (flat (rs.take k))) := by
    have hc := h.cut (k := k) (by omega)
    have e : (rs.take k).length = k := by simp; omega
    unfold Own2 at hc
    rwa [e] at hc
  have S1 : Hid ((flat (rs.drop j)).length = (n - j) * 2) := by show _ = _; rw [flat_length]; simp; omega
  have S2 : Hid (∀ q u, (flat (rs.drop j))[q]? = some u → w.drew.cell? ((⟨g, j * 2, none⟩ : Addr).add q) = some u) := fun q u hq => by
    have hq2 : q < (n - j) * 2 := by rw [← S1.out]; exact (List.getElem?_eq_some_iff.1 hq).1
    rw [Go.WideShapes.add_plain]
    show w.cell? _ = _
    rw [h6 _ (by omega), ← hq]
    have e : flat rs = flat (rs.take j) ++ flat (rs.drop j) := by rw [← flat_append, List.take_append_drop]
    have el : (flat (rs.take j)).length = j * 2 := by rw [flat_length]; simp; omega
    rw [e, List.getElem?_append_right (by omega), el]
    congr 1
    omega
  have HP : Hid (k + (n - j) = p) := by show _ = _; omega
  have HE : Hid ((rs.take k ++ rs.drop j).length = p) := by show _ = _; simp; omega
  have hclr : Hid (∀ w2 : World, (∀ q, q < cap * 2 → (w2.cell? ⟨g, q, none⟩).isSome = true) → (∀ q, w2.frozen? ⟨g, q, none⟩ = false) → ∀ ty, (Builtin.clear_ #[22] ty #[.slice (some ⟨g, p * 2, none⟩) (n - p) (cap - p)]).run Try.prog w2 = .ok (.tuple #[]) (w2.setCells g (p * 2) [.int .i64 0, .int .i64 0])) := fun w2 q1 q2 ty => by
    rw [show n - p = 1 by omega]
    exact clear_one w2 ty g (p * 2) _ (fun q hq => q1 _ (by omega)) (fun q _ => q2 _)
  have kj : k < j := by omega
  have np : p < n := by omega
  clear h h6 h7 h8 h1 hj hp
  unfold maxLen at h3
  have b2 : k ≤ cap := by omega
  have b4 : j ≤ cap := by omega
  have b5 : (cap : Int) ≤ 9223372036854775807 := by omega
  have b6 : k ≤ n := by omega
  have b7 : p ≤ cap := by omega
  have b8 : p ≤ n := by omega
  have b9 : cap ≠ p := by omega
  go_enter Try.func47, Try.ntmps47
  go_wp2_with fail
  go_still_tail 6, (by kernel_rfl)
  change wpList _ _ _ _ _ w.drew
  refine wpList_append_fits w.drew rfl (.tmp 22) (.tmp 25) 22 rfl B 38 i 2 Try.underlying22 hi hz1 g k cap (flat (rs.take k)) rfl HC.out ⟨g, j * 2, none⟩ (n - j) (cap - j) (flat (rs.drop j)) rfl S1.out S2.out (flat_one _) (by omega) ?_
  intro w2 hw2 hg2
  rw [HP.out] at hw2 ⊢
  have HO : Hid (Own2 w2 B (.slice (some ⟨g, 0, none⟩) p cap) (rs.take k ++ rs.drop j)) := by
    show Own2 _ _ _ _
    unfold Own2
    rw [HE.out, flat_append]
    exact hw2
  have hcl := hclr.out w2 HO.out.cell.2.2.2.2.2.2.1 HO.out.cell.2.2.2.2.2.2.2
  have HG : Hid (w.grownBy w2 (some g)) := ⟨hg2.os, hg2.tape, hg2.output, hg2.size, hg2.block⟩
  clear hw2 hg2
  go_wp2_with fail
  go_ret
  exact ⟨rfl, (HO.out.poke (by rw [HE.out]; omega) _).poke (by rw [HE.out]; omega) _, grown_poke (grown_poke HG.out _ _) _ _⟩

set_option maxHeartbeats 2000000 in
theorem delete_end (w : World) {B g n p : Nat} {rs : List Run} (h : Own2 w B (.slice (some ⟨g, 0, none⟩) n n) rs) (hl : n ≤ 1000000000) (hp : n = p + 1) :
    Calls Try.prog 47 #[.slice (some ⟨g, 0, none⟩) n n, .int .i64 p, .int .i64 n] w fun e w' => e = .returned (.slice (some ⟨g, 0, none⟩) p n) ∧ Own2 w' B (.slice (some ⟨g, 0, none⟩) p n) (rs.take p ++ rs.drop n) ∧ w.grownBy w' (some g) := by
  obtain ⟨i, hi, _, hz1, _⟩ := info_parts info38
  obtain ⟨h1, h2, h3, h4, h5, h6, h7, h8⟩ := h.cell
  have hd : ((p : Int) == (n : Int)) = false := by rw [beq_eq_false_iff_ne]; omega
  have HC : Hid (w.drew.ownsRow B 38 2 (.slice (some ⟨g, 0, none⟩) p n) p (flat (rs.take p))) := by
    have hc := h.cut (k := p) (by omega)
    have e : (rs.take p).length = p := by simp; omega
    unfold Own2 at hc
    rwa [e] at hc
  have HE : Hid ((rs.take p ++ rs.drop n).length = p) := by show _ = _; simp; omega
  have HD : Hid (rs.drop n = []) := by show _ = _; exact List.drop_eq_nil_of_le (by omega)
  have hclr : Hid (∀ w2 : World, (∀ q, q < n * 2 → (w2.cell? ⟨g, q, none⟩).isSome = true) → (∀ q, w2.frozen? ⟨g, q, none⟩ = false) → ∀ ty, (Builtin.clear_ #[22] ty #[.slice (some ⟨g, p * 2, none⟩) (n - p) (n - p)]).run Try.prog w2 = .ok (.tuple #[]) (w2.setCells g (p * 2) [.int .i64 0, .int .i64 0])) := fun w2 q1 q2 ty => by
    rw [show n - p = 1 by omega]
    exact clear_one w2 ty g (p * 2) _ (fun q hq => q1 _ (by omega)) (fun q _ => q2 _)
  have np : p < n := by omega
  clear h h6 h7 h8 h1 hp
  unfold maxLen at h3
  have b5 : (n : Int) ≤ 9223372036854775807 := by omega
  have b8 : p ≤ n := by omega
  have b9 : n ≠ p := by omega
  go_enter Try.func47, Try.ntmps47
  go_wp2_with fail
  go_still_tail 6, (by kernel_rfl)
  change wpList _ _ _ _ _ w.drew
  refine wpList_append_fits w.drew rfl (.tmp 22) (.tmp 25) 22 rfl B 38 i 2 Try.underlying22 hi hz1 g p n (flat (rs.take p)) rfl HC.out ⟨g, 0, none⟩ 0 0 [] rfl rfl (fun q u hq => by simp at hq) (fun u hu => by simp at hu) (by omega) ?_
  intro w2 hw2 hg2
  simp only [Nat.add_zero] at hw2 ⊢
  have HO : Hid (Own2 w2 B (.slice (some ⟨g, 0, none⟩) p n) (rs.take p ++ rs.drop n)) := by
    show Own2 _ _ _ _
    unfold Own2
    rw [HE.out, flat_append, HD.out]
    exact hw2
  have hcl := hclr.out w2 HO.out.cell.2.2.2.2.2.2.1 HO.out.cell.2.2.2.2.2.2.2
  have HG : Hid (w.grownBy w2 (some g)) := ⟨hg2.os, hg2.tape, hg2.output, hg2.size, hg2.block⟩
  clear hw2 hg2
  go_wp2_with fail
  go_ret
  exact ⟨rfl, (HO.out.poke (by rw [HE.out]; omega) _).poke (by rw [HE.out]; omega) _, grown_poke (grown_poke HG.out _ _) _ _⟩

/-- One run is deleted, in place. -/
theorem delete_one (w : World) {B g n cap k : Nat} {rs : List Run} (h : Own2 w B (.slice (some ⟨g, 0, none⟩) n cap) rs) (hk : k < n) (hl : n ≤ 1000000000) :
    Calls Try.prog 47 #[.slice (some ⟨g, 0, none⟩) n cap, .int .i64 k, .int .i64 ((k + 1 : Nat) : Int)] w fun e w' => e = .returned (.slice (some ⟨g, 0, none⟩) (n - 1) cap) ∧ Own2 w' B (.slice (some ⟨g, 0, none⟩) (n - 1) cap) (rs.take k ++ rs.drop (k + 1)) ∧ w.grownBy w' (some g) := by
  obtain ⟨_, h2, _⟩ := h.cell
  by_cases hcap : cap = k + 1
  · obtain rfl : n = cap := by omega
    have := delete_end w (p := n - 1) h hl (by omega)
    have e : k = n - 1 := by omega
    subst e
    rwa [show n - 1 + 1 = n by omega]
  · exact delete_room w h rfl hk hl hcap (by omega)
end Go.Proofs.Ytdjapppfjpgidaa
