/- Plain theory: where a text stands in another one. No program in sight. -/
import Derived.Test.YtdjapppfjpgidaaPa
import Derived.Test.YtdjapppfjpgidaaRp
namespace Go.Proofs.Ytdjapppfjpgidaa
open Go.RowKit

/-- Does s begin with t, whose last run may end earlier? -/
def pre : List Run → List Run → Bool
  | [], _ => true
  | _ :: _, [] => false
  | [x], y :: _ => decide (x.1 = y.1) && decide (x.2 ≤ y.2)
  | x :: x' :: t, y :: s => decide (x = y) && pre (x' :: t) s

theorem cut_le {c : Int} {n m : Nat} {Y Z : List Int} (hY : Y.head? ≠ some c) (h : List.replicate n c ++ Z = List.replicate m c ++ Y) : n ≤ m := by
  induction n generalizing m with
  | zero => omega
  | succ n ih =>
    cases m with
    | zero => simp [List.replicate_succ] at h; simp [← h] at hY
    | succ m =>
      simp only [List.replicate_succ, List.cons_append, List.cons.injEq, true_and] at h
      have := ih h
      omega
theorem prefix_one {c d : Int} {n m : Nat} {Y : List Int} (hn : 0 < n) (hm : 0 < m) (hY : Y.head? ≠ some d) : List.replicate n c <+: List.replicate m d ++ Y ↔ c = d ∧ n ≤ m := by
  constructor
  · rintro ⟨Z, hZ⟩
    have hc : c = d := by
      obtain ⟨n', rfl⟩ : ∃ n', n = n' + 1 := ⟨n - 1, by omega⟩
      obtain ⟨m', rfl⟩ : ∃ m', m = m' + 1 := ⟨m - 1, by omega⟩
      simp [List.replicate_succ] at hZ
      exact hZ.1
    subst hc
    exact ⟨rfl, cut_le hY hZ⟩
  · rintro ⟨rfl, h⟩
    refine ⟨List.replicate (m - n) c ++ Y, ?_⟩
    rw [← List.append_assoc, List.replicate_append_replicate]
    congr 2
    omega
theorem prefix_more {c d : Int} {n m : Nat} {X Y : List Int} (hn : 0 < n) (hm : 0 < m) (hX : X.head? ≠ some c) (hX0 : X ≠ []) (hY : Y.head? ≠ some d) : List.replicate n c ++ X <+: List.replicate m d ++ Y ↔ c = d ∧ n = m ∧ X <+: Y := by
  constructor
  · rintro ⟨Z, hZ⟩
    rw [List.append_assoc] at hZ
    have hh : (X ++ Z).head? ≠ some c := by
      cases X with
      | nil => exact absurd rfl hX0
      | cons a X => simpa using hX
    obtain ⟨h1, h2, h3⟩ := replicate_cut hn hm hh hY hZ
    exact ⟨h1, h2, Z, h3⟩
  · rintro ⟨rfl, rfl, Z, hZ⟩
    exact ⟨Z, by rw [List.append_assoc, hZ]⟩
theorem Canon.ne_nil {r : Run} {rs : List Run} (h : Canon (r :: rs)) : pts (r :: rs) ≠ [] := fun e => by
  have := h.head
  rw [e] at this
  simp at this
theorem pre_iff {t s : List Run} (ht : Canon t) (hs : Canon s) : pre t s = true ↔ pts t <+: pts s := by
  induction t generalizing s with
  | nil => simp [pre, pts_nil]
  | cons x t ih =>
    cases s with
    | nil => simp [pre, pts_nil, ht.ne_nil]
    | cons y s =>
      have h1 := ht.1
      have h2 := hs.1
      cases t with
      | nil =>
        rw [pre, pts_cons y, show pts [x] = List.replicate x.2.toNat x.1 from pts_one _ _, prefix_one (by omega) (by omega) hs.rest]
        simp
        intro _
        omega
      | cons x' t =>
        rw [pre, pts_cons y, pts_cons x, prefix_more (by omega) (by omega) ht.rest ht.2.2.ne_nil hs.rest, Bool.and_eq_true, ih ht.2.2 hs.2.2, decide_eq_true_eq]
        constructor
        · rintro ⟨rfl, h⟩
          exact ⟨rfl, rfl, h⟩
        · rintro ⟨e1, e2, h⟩
          refine ⟨?_, h⟩
          obtain ⟨a, b⟩ := x
          obtain ⟨c, d⟩ := y
          simp only at *
          subst e1
          congr 1
          omega

/-- pre by places. -/
theorem pre_places (t s : List Run) : pre t s = (decide (t.length ≤ s.length) && (decide (t.length = 0) || (decide (s.take (t.length - 1) = t.take (t.length - 1)) && (decide ((s.getD (t.length - 1) (0, 0)).1 = (t.getD (t.length - 1) (0, 0)).1) && decide ((t.getD (t.length - 1) (0, 0)).2 ≤ (s.getD (t.length - 1) (0, 0)).2))))) := by
  induction t generalizing s with
  | nil => simp [pre]
  | cons x t ih =>
    cases s with
    | nil => simp [pre]
    | cons y s =>
      cases t with
      | nil =>
        simp [pre, eq_comm]
      | cons x' t =>
        rw [pre, ih s]
        simp only [List.length_cons, Nat.add_sub_cancel, List.take_succ_cons, List.getD_cons_succ, List.cons.injEq, Nat.add_le_add_iff_right, Nat.add_one_ne_zero, decide_false, Bool.false_or]
        by_cases h : x = y
        · simp only [h, true_and, decide_true, Bool.true_and]
        · have h' : ¬ y = x := fun e => h e.symm
          simp only [h, h', false_and, decide_false, Bool.false_and, Bool.and_false]

theorem drop_cons {s : List Run} {j : Nat} (h : j < s.length) : s.drop j = s.getD j (0, 0) :: s.drop (j + 1) := by
  rw [List.drop_eq_getElem_cons h, List.getD_eq_getElem?_getD, List.getElem?_eq_getElem h]
  rfl
theorem getD_drop (s : List Run) (j k : Nat) : (s.drop j).getD k (0, 0) = s.getD (j + k) (0, 0) := by
  simp [List.getD_eq_getElem?_getD]
theorem standsR_eq {s : List Run} {x : Run} {t : List Run} {j : Nat} (hj : j < s.length) : standsR s (x :: t) j = (decide ((s.getD j (0, 0)).1 = x.1) && (decide (x.2 ≤ (s.getD j (0, 0)).2) && pre t (s.drop (j + 1)))) := by
  rw [pre_places]
  unfold standsR
  simp only [List.length_cons, Nat.add_sub_cancel, List.getD_cons_zero, List.drop_succ_cons, List.drop_zero, List.length_drop]
  by_cases h1 : (s.getD j (0, 0)).1 = x.1
  · by_cases h2 : x.2 ≤ (s.getD j (0, 0)).2
    · by_cases h3 : s.length ≤ j + t.length
      · rw [if_pos (.inl h3)]
        have : ¬ t.length ≤ s.length - (j + 1) := by omega
        simp only [this, decide_false, Bool.false_and, Bool.and_false]
      · rw [if_neg (by omega)]
        have h4 : t.length ≤ s.length - (j + 1) := by omega
        rcases Nat.eq_zero_or_pos t.length with h0 | h0
        · rw [if_pos (by omega)]
          simp only [h1, h2, h0, Nat.zero_le, decide_true, Bool.true_and, Bool.true_or]
        · rw [if_neg (by omega), getD_drop]
          obtain ⟨k, hk⟩ : ∃ k, t.length = k + 1 := ⟨t.length - 1, by omega⟩
          rw [hk] at h4 ⊢
          have e2 : (x :: t).getD (k + 1) (0, 0) = t.getD k (0, 0) := by simp
          rw [e2]
          simp only [h1, h2, h4, show j + (k + 1) = j + 1 + k by omega, Nat.add_sub_cancel, show k + 1 + 1 - 2 = k by omega, Nat.add_one_ne_zero, decide_true, decide_false, Bool.true_and, Bool.false_or]
    · rw [if_pos (.inr (.inr (by omega)))]
      simp only [h2, decide_false, Bool.false_and, Bool.and_false]
  · rw [if_pos (.inr (.inl h1))]
    simp only [h1, decide_false, Bool.false_and]

/-- How far into its run a text may begin at the earliest. -/
def offs (r : Run) (t : List Run) : Int := if 1 < t.length then r.2 - (t.getD 0 (0, 0)).2 else 0

theorem occ_run {r x : Run} {rs t : List Run} (hs : Canon (r :: rs)) (ht : Canon (x :: t)) {p : Nat} (hp : (p : Int) < r.2) :
    pts (x :: t) <+: (pts (r :: rs)).drop p ↔ x.1 = r.1 ∧ pre t rs = true ∧ (if t = [] then x.2 ≤ r.2 - p else x.2 = r.2 - p) := by
  have h1 := hs.1
  have h2 := ht.1
  rw [pts_cons r, List.drop_append_of_le_length (by rw [List.length_replicate]; omega), List.drop_replicate, pre_iff ht.2.2 hs.2.2]
  cases t with
  | nil =>
    rw [show pts [x] = List.replicate x.2.toNat x.1 from pts_one _ _, prefix_one (by omega) (by omega) hs.rest]
    simp [pts_nil]
    intro _
    omega
  | cons x' t =>
    rw [pts_cons x, prefix_more (by omega) (by omega) ht.rest ht.2.2.ne_nil hs.rest]
    simp only [reduceCtorEq, if_false]
    constructor
    · rintro ⟨e1, e2, e3⟩
      exact ⟨e1, e3, by omega⟩
    · rintro ⟨e1, e2, e3⟩
      exact ⟨e1, by omega, e2⟩

theorem canon_drop {s : List Run} (h : Canon s) (j : Nat) : Canon (s.drop j) := (canon_append.1 (by rw [List.take_append_drop]; exact h : Canon (s.take j ++ s.drop j))).2.1
theorem canon_take {s : List Run} (h : Canon s) (j : Nat) : Canon (s.take j) := (canon_append.1 (by rw [List.take_append_drop]; exact h : Canon (s.take j ++ s.drop j))).1
theorem drop_pts {s : List Run} (h : Canon s) (j p : Nat) (hp : sz (s.take j) ≤ p) : (pts s).drop p = (pts (s.drop j)).drop (p - (sz (s.take j)).toNat) := by
  have hl := (canon_take h j).length
  have e : pts s = pts (s.take j) ++ pts (s.drop j) := by rw [← pts_append, List.take_append_drop]
  rw [e, List.drop_append, List.drop_eq_nil_of_le (by omega), List.nil_append]
  congr 1
  omega

/-- Where t stands from run j on, it stands at that run's place and its offset; and not ahead of that in this run. -/
theorem stands_yes {s t : List Run} (hs : Canon s) (ht : Canon t) (h0 : t ≠ []) {j : Nat} (hj : j < s.length) (h : standsR s t j = true) :
    0 ≤ offs (s.getD j (0, 0)) t ∧ offs (s.getD j (0, 0)) t < (s.getD j (0, 0)).2 ∧ pts t <+: (pts s).drop (sz (s.take j) + offs (s.getD j (0, 0)) t).toNat ∧ ∀ p : Nat, sz (s.take j) ≤ p → (p : Int) < sz (s.take j) + offs (s.getD j (0, 0)) t → ¬ pts t <+: (pts s).drop p := by
  obtain ⟨x, t, rfl⟩ : ∃ x t', t = x :: t' := by
    cases t with
    | nil => exact absurd rfl h0
    | cons x t => exact ⟨x, t, rfl⟩
  have hz := sz_nonneg (canon_take hs j).nonneg
  have hd := canon_drop hs j
  rw [standsR_eq hj] at h
  have hdp := drop_pts hs j
  rw [drop_cons hj] at hd hdp
  have h1 := hd.1
  have h2 := ht.1
  generalize s.getD j (0, 0) = r at *
  generalize s.drop (j + 1) = rs at *
  simp only [Bool.and_eq_true, decide_eq_true_eq] at h
  obtain ⟨e1, e2, e3⟩ := h
  have ho : offs r (x :: t) = if t = [] then 0 else r.2 - x.2 := by
    unfold offs
    cases t <;> simp
  rw [ho]
  by_cases ht0 : t = []
  · rw [if_pos ht0]
    refine ⟨by omega, by omega, ?_, fun p hp hp2 => by omega⟩
    rw [hdp _ (by omega)]
    refine (occ_run hd ht (by omega)).2 ⟨e1.symm, e3, ?_⟩
    rw [if_pos ht0]
    omega
  · rw [if_neg ht0]
    refine ⟨by omega, by omega, ?_, fun p hp hp2 => ?_⟩
    · rw [hdp _ (by omega)]
      refine (occ_run hd ht (by omega)).2 ⟨e1.symm, e3, ?_⟩
      rw [if_neg ht0]
      omega
    · rw [hdp _ hp, occ_run hd ht (by omega), if_neg ht0]
      rintro ⟨_, _, e⟩
      omega
theorem stands_no {s t : List Run} (hs : Canon s) (ht : Canon t) (h0 : t ≠ []) {j : Nat} (hj : j < s.length) (h : standsR s t j = false) :
    ∀ p : Nat, sz (s.take j) ≤ p → (p : Int) < sz (s.take (j + 1)) → ¬ pts t <+: (pts s).drop p := by
  obtain ⟨x, t, rfl⟩ : ∃ x t', t = x :: t' := by
    cases t with
    | nil => exact absurd rfl h0
    | cons x t => exact ⟨x, t, rfl⟩
  have hz := sz_nonneg (canon_take hs j).nonneg
  have hd := canon_drop hs j
  intro p hp hp2
  rw [sz_take s j hj] at hp2
  rw [standsR_eq hj] at h
  rw [drop_pts hs j p hp]
  rw [drop_cons hj] at hd ⊢
  have h2 := ht.1
  generalize s.getD j (0, 0) = r at *
  generalize s.drop (j + 1) = rs at *
  rw [occ_run hd ht (by omega)]
  rintro ⟨e1, e2, e3⟩
  have e4 : x.2 ≤ r.2 := by split at e3 <;> omega
  simp [e1, e2, e4] at h

theorem run_of {s : List Run} {p : Int} (hp : 0 ≤ p) (k : Nat) (h : p < sz (s.take k)) (hk : k ≤ s.length) : ∃ j, j < k ∧ sz (s.take j) ≤ p ∧ p < sz (s.take (j + 1)) := by
  induction k with
  | zero => simp [sz] at h; omega
  | succ k ih =>
    rcases Int.lt_or_le p (sz (s.take k)) with h1 | h1
    · obtain ⟨j, h2, h3⟩ := ih h1 (by omega)
      exact ⟨j, by omega, h3⟩
    · exact ⟨k, by omega, h1, h⟩
theorem sz_mono {s : List Run} (hs : Canon s) {i j : Nat} (h : i ≤ j) : sz (s.take i) ≤ sz (s.take j) := by
  have e : s.take i = (s.take j).take i := by rw [List.take_take]; congr 1; omega
  have e2 : sz (s.take j) = sz ((s.take j).take i) + sz ((s.take j).drop i) := by rw [← sz_append, List.take_append_drop]
  have := sz_nonneg (canon_drop (canon_take hs j) i).nonneg
  rw [e]
  omega
theorem occ_len {l m : List Int} {k : Nat} (h : m <+: l.drop k) (h0 : m ≠ []) : k + m.length ≤ l.length := by
  have := h.length_le
  rw [List.length_drop] at this
  have : 0 < m.length := List.length_pos_iff.2 h0
  omega

theorem find_spec {p : Nat → Bool} {n : Nat} : (∃ j, (List.range n).find? p = some j ∧ j < n ∧ p j = true ∧ ∀ i, i < j → p i = false) ∨ ((List.range n).find? p = none ∧ ∀ i, i < n → p i = false) := by
  cases h : (List.range n).find? p with
  | none =>
    refine .inr ⟨rfl, fun i hi => ?_⟩
    rw [List.find?_range_eq_none] at h
    simpa using h i hi
  | some j =>
    rw [List.find?_range_eq_some] at h
    exact .inl ⟨j, rfl, by simpa using h.2.1, h.1, fun i hi => by simpa using h.2.2 i hi⟩

/-- The first place at which t stands in r. -/
theorem first_spec {r t : List Run} (hr : Canon r) (ht : Canon t) (h0 : t ≠ []) (hz : sz r ≤ 1099511627776) {i : Int} (hi : 0 ≤ i) (hi2 : i ≤ 1099511627776) :
    (indexW r t i = -1 ∧ ∀ p : Nat, ¬ pts t <+: (pts r).drop p) ∨ ∃ q : Nat, indexW r t i = i + q ∧ pts t <+: (pts r).drop q ∧ ∀ p : Nat, p < q → ¬ pts t <+: (pts r).drop p := by
  have hpt : pts t ≠ [] := by
    cases t with
    | nil => exact absurd rfl h0
    | cons x t => exact ht.ne_nil
  rcases find_spec (p := standsR r t) (n := r.length) with ⟨j, hf, hj, h1, h2⟩ | ⟨hf, h2⟩
  · right
    obtain ⟨o1, o2, o3, o4⟩ := stands_yes hr ht h0 hj h1
    have hz0 := sz_nonneg (canon_take hr j).nonneg
    have hz1 := sz_mono hr (i := j + 1) (j := r.length) (by omega)
    rw [List.take_length, sz_take r j hj] at hz1
    have e : indexW r t i = i + (sz (r.take j) + offs (r.getD j (0, 0)) t) := by
      rw [indexW, hf]
      unfold offs at o1 o2 ⊢
      simp only [posW]
      split
      · rename_i h3
        rw [if_pos h3] at o1 o2
        rw [wrap64_id (x := (r.getD j (0, 0)).2 - (t.getD 0 (0, 0)).2) (by omega), wrap64_id (x := sz (r.take j) + _) (by omega), wrap64_id (by omega)]
      · rw [wrap64_id (by omega)]
        omega
    refine ⟨(sz (r.take j) + offs (r.getD j (0, 0)) t).toNat, by rw [e]; omega, o3, fun p hp => ?_⟩
    rcases Int.lt_or_le p (sz (r.take j)) with h3 | h3
    · obtain ⟨j', k1, k2, k3⟩ := run_of (s := r) (p := p) (by omega) j h3 (by omega)
      exact stands_no hr ht h0 (by omega) (h2 j' k1) p k2 k3
    · exact o4 p h3 (by omega)
  · left
    refine ⟨by rw [indexW, hf], fun p hp => ?_⟩
    have hl := occ_len hp hpt
    have hrl := hr.length
    have hm : 0 < (pts t).length := List.length_pos_iff.2 hpt
    obtain ⟨j', k1, k2, k3⟩ := run_of (s := r) (p := p) (by omega) r.length (by rw [List.take_length]; omega) (Nat.le_refl _)
    exact stands_no hr ht h0 k1 (h2 j' k1) p k2 k3 hp

/-- Index tells the first place from i on. -/
theorem index_spec {s t : List Run} (hs : May s) (ht : May t) {i : Int} (hi : 0 ≤ i) :
    (indexR s t i = -1 ∧ ∀ p : Nat, i ≤ p → p ≤ (pts s).length → ¬ pts t <+: (pts s).drop p) ∨ ∃ q : Nat, indexR s t i = q ∧ i ≤ q ∧ q + (pts t).length ≤ (pts s).length ∧ pts t <+: (pts s).drop q ∧ ∀ p : Nat, i ≤ p → p < q → ¬ pts t <+: (pts s).drop p := by
  have hl := hs.length
  by_cases h2 : i ≤ sz s
  · rw [indexR, if_pos ⟨may_iff.2 hs, may_iff.2 ht, hi, h2⟩]
    by_cases h3 : t = []
    · subst h3
      right
      refine ⟨i.toNat, by simp; omega, by omega, by simp [pts_nil]; omega, by simp [pts_nil], fun p _ _ => by omega⟩
    · have h4 : ¬ t.length = 0 := fun e => h3 (List.eq_nil_of_length_eq_zero e)
      rw [if_neg h4]
      have hr := may_substr hs i (sz s)
      have hb := hs.size
      have hrb := hr.size
      have hp : pts (substr s i (sz s)) = (pts s).drop i.toNat := by
        rw [pts_substr hs hi, List.take_of_length_le]
        rw [List.length_drop]
        omega
      have hpt : pts t ≠ [] := by
        cases t with
        | nil => exact absurd rfl h3
        | cons x t => exact ht.canon.ne_nil
      rcases first_spec hr.canon ht.canon h3 hrb.2.2 hi (by omega) with ⟨e, h⟩ | ⟨q, e, h, h'⟩
      · left
        refine ⟨e, fun p hp1 hp2 => ?_⟩
        have := h (p - i.toNat)
        rw [hp, List.drop_drop] at this
        rwa [show i.toNat + (p - i.toNat) = p by omega] at this
      · right
        rw [hp, List.drop_drop] at h
        refine ⟨i.toNat + q, by rw [e]; omega, by omega, occ_len h hpt, h, fun p hp1 hp2 => ?_⟩
        have := h' (p - i.toNat) (by omega)
        rw [hp, List.drop_drop] at this
        rwa [show i.toNat + (p - i.toNat) = p by omega] at this
  · left
    rw [indexR, if_neg (by omega)]
    exact ⟨rfl, fun p h3 h4 => by omega⟩
end Go.Proofs.Ytdjapppfjpgidaa
