/- Plain theory: code points of runs; canonical runs; pieces, joins. No program in sight. -/
import Derived.Test.YtdjapppfjpgidaaRk
namespace Go.Proofs.Ytdjapppfjpgidaa
open Go.RowKit

/-- The code points of runs. -/
def pts (rs : List Run) : List Int := rs.flatMap fun r => List.replicate r.2.toNat r.1
theorem pts_nil : pts [] = [] := rfl
theorem pts_cons (r : Run) (rs : List Run) : pts (r :: rs) = List.replicate r.2.toNat r.1 ++ pts rs := by simp [pts]
theorem pts_append (a b : List Run) : pts (a ++ b) = pts a ++ pts b := by simp [pts]
theorem pts_length {rs : List Run} (h : ∀ r ∈ rs, 0 ≤ r.2) : ((pts rs).length : Int) = sz rs := by
  induction rs with
  | nil => rfl
  | cons r rs ih =>
    have h1 := h r (by simp)
    have h2 := ih fun q hq => h q (by simp [hq])
    rw [pts_cons, sz_cons, List.length_append, List.length_replicate]
    omega

/-- No run is empty; no two beside one another are of one code point. -/
def Canon : List Run → Prop
  | [] => True
  | r :: rs => 1 ≤ r.2 ∧ (∀ q ∈ rs.head?, q.1 ≠ r.1) ∧ Canon rs
theorem Canon.pos {rs : List Run} (h : Canon rs) : ∀ r ∈ rs, 1 ≤ r.2 := by
  induction rs with
  | nil => simp
  | cons r rs ih =>
    intro q hq
    rcases List.mem_cons.1 hq with rfl | hq
    · exact h.1
    · exact ih h.2.2 q hq
theorem Canon.nonneg {rs : List Run} (h : Canon rs) : ∀ r ∈ rs, 0 ≤ r.2 := fun r hr => by have := h.pos r hr; omega
theorem Canon.length {rs : List Run} (h : Canon rs) : ((pts rs).length : Int) = sz rs := pts_length h.nonneg
theorem Canon.size {rs : List Run} (h : Canon rs) : (rs.length : Int) ≤ sz rs := by
  induction rs with
  | nil => simp [sz]
  | cons r rs ih =>
    have h1 := h.1
    have := ih h.2.2
    rw [sz_cons, List.length_cons]
    omega
/-- The first code point. -/
theorem Canon.head {rs : List Run} (h : Canon rs) : (pts rs).head? = rs.head?.map (·.1) := by
  cases rs with
  | nil => rfl
  | cons r rs =>
    obtain ⟨n, hn⟩ : ∃ n, r.2.toNat = n + 1 := ⟨r.2.toNat - 1, by have := h.1; omega⟩
    rw [pts_cons, hn, List.replicate_succ]
    rfl

theorem canon_append {a b : List Run} : Canon (a ++ b) ↔ Canon a ∧ Canon b ∧ ∀ x ∈ a.getLast?, ∀ y ∈ b.head?, y.1 ≠ x.1 := by
  induction a with
  | nil => simp [Canon]
  | cons r a ih =>
    cases a with
    | nil =>
      simp only [List.cons_append, List.nil_append, Canon, List.head?_nil]
      constructor
      · rintro ⟨h1, h2, h3⟩
        exact ⟨⟨h1, by simp, trivial⟩, h3, by simpa using h2⟩
      · rintro ⟨⟨h1, _⟩, h2, h3⟩
        exact ⟨h1, by simpa using h3, h2⟩
    | cons q a =>
      have e : (r :: q :: a ++ b) = r :: (q :: a ++ b) := rfl
      rw [e]
      constructor
      · rintro ⟨h1, h2, h3⟩
        obtain ⟨i1, i2, i3⟩ := ih.1 h3
        exact ⟨⟨h1, by simpa using h2, i1⟩, i2, by simpa using i3⟩
      · rintro ⟨⟨h1, h2, h3⟩, h4, h5⟩
        exact ⟨h1, by simpa using h2, ih.2 ⟨h3, h4, by simpa using h5⟩⟩

theorem replicate_cut {c d : Int} {a b : Nat} {X Y : List Int} (ha : 0 < a) (hb : 0 < b) (hX : X.head? ≠ some c) (hY : Y.head? ≠ some d) (h : List.replicate a c ++ X = List.replicate b d ++ Y) : c = d ∧ a = b ∧ X = Y := by
  have hc : c = d := by
    obtain ⟨a', rfl⟩ : ∃ a', a = a' + 1 := ⟨a - 1, by omega⟩
    obtain ⟨b', rfl⟩ : ∃ b', b = b' + 1 := ⟨b - 1, by omega⟩
    simp [List.replicate_succ] at h
    exact h.1
  subst hc
  clear ha hb
  induction a generalizing b with
  | zero =>
    cases b with
    | zero => exact ⟨rfl, rfl, by simpa using h⟩
    | succ b => simp [List.replicate_succ] at h; simp [h] at hX
  | succ a ih =>
    cases b with
    | zero => simp [List.replicate_succ] at h; simp [← h] at hY
    | succ b =>
      simp only [List.replicate_succ, List.cons_append, List.cons.injEq, true_and] at h
      obtain ⟨_, h2, h3⟩ := ih h
      exact ⟨rfl, by omega, h3⟩
theorem Canon.rest {r : Run} {rs : List Run} (h : Canon (r :: rs)) : (pts rs).head? ≠ some r.1 := by
  rw [h.2.2.head]
  intro e
  obtain ⟨q, hq, he⟩ := Option.map_eq_some_iff.1 e
  exact h.2.1 q hq he
/-- Canonical runs are the same, if their code points are. -/
theorem canon_uniq {a b : List Run} (ha : Canon a) (hb : Canon b) (h : pts a = pts b) : a = b := by
  induction a generalizing b with
  | nil =>
    have := hb.head
    rw [← h] at this
    cases b with
    | nil => rfl
    | cons q b => simp [pts_nil] at this
  | cons r a ih =>
    cases b with
    | nil =>
      have := ha.head
      rw [h] at this
      simp [pts_nil] at this
    | cons q b =>
      rw [pts_cons, pts_cons] at h
      have h1 := ha.1
      have h2 := hb.1
      obtain ⟨e1, e2, e3⟩ := replicate_cut (by omega) (by omega) ha.rest hb.rest h
      rw [ih ha.2.2 hb.2.2 e3]
      congr 1
      obtain ⟨r1, r2⟩ := r
      obtain ⟨q1, q2⟩ := q
      simp only at *
      subst e1
      congr 1
      omega

/-- The same by places. -/
theorem canon_iff (rs : List Run) : Canon rs ↔ ∀ i, i < rs.length → 1 ≤ (rs.getD i (0, 0)).2 ∧ ¬ (0 < i ∧ (rs.getD (i - 1) (0, 0)).1 = (rs.getD i (0, 0)).1) := by
  induction rs with
  | nil => simp [Canon]
  | cons r rs ih =>
    constructor
    · rintro ⟨h1, h2, h3⟩ i hi
      cases i with
      | zero => exact ⟨h1, by simp⟩
      | succ i =>
        have hi2 : i < rs.length := by simpa using hi
        obtain ⟨j1, j2⟩ := ih.1 h3 i hi2
        refine ⟨by simpa using j1, ?_⟩
        rintro ⟨_, he⟩
        cases i with
        | zero =>
          cases rs with
          | nil => simp at hi2
          | cons q rs => exact h2 q (by simp) (by simpa using he.symm)
        | succ i => exact j2 ⟨by omega, by simpa using he⟩
    · intro h
      refine ⟨(h 0 (by simp)).1, ?_, ih.2 fun i hi => ?_⟩
      · intro q hq he
        cases rs with
        | nil => simp at hq
        | cons q' rs =>
          simp at hq
          subst hq
          exact (h 1 (by simp)).2 ⟨by omega, by simpa using he.symm⟩
      · obtain ⟨j1, j2⟩ := h (i + 1) (by simpa using hi)
        refine ⟨by simpa using j1, ?_⟩
        rintro ⟨hp, he⟩
        obtain ⟨k, rfl⟩ : ∃ k, i = k + 1 := ⟨i - 1, by omega⟩
        exact j2 ⟨by omega, by simpa using he⟩

theorem sz_nonneg {rs : List Run} (h : ∀ r ∈ rs, 0 ≤ r.2) : 0 ≤ sz rs := by
  rw [← pts_length h]; omega
theorem getD_mem {rs : List Run} {i : Nat} (h : i < rs.length) : rs.getD i (0, 0) ∈ rs := by
  rw [List.getD_eq_getElem?_getD, List.getElem?_eq_getElem h]
  exact List.getElem_mem _
theorem may_canon {rs : List Run} : May rs ↔ rs.length ≤ 65536 ∧ Canon rs ∧ (∀ r ∈ rs, 0 ≤ r.1 ∧ r.1 ≤ 196607) ∧ sz rs ≤ 1099511627776 := by
  constructor
  · intro h
    refine ⟨h.1, (canon_iff rs).2 fun i hi => ?_, fun r hr => ?_, h.size.2.2⟩
    · have := h.2 i hi
      unfold okAt at this
      exact ⟨this.2.2.1, this.2.2.2.2⟩
    · obtain ⟨i, hi⟩ := List.mem_iff_getElem?.1 hr
      have hl := (List.getElem?_eq_some_iff.1 hi).1
      have ho := h.2 i hl
      unfold okAt at ho
      rw [List.getD_eq_getElem?_getD, hi] at ho
      exact ⟨ho.1, ho.2.1⟩
  · rintro ⟨h1, h2, h3, h4⟩
    refine ⟨h1, fun i hi => ?_⟩
    obtain ⟨c1, c2⟩ := (canon_iff rs).1 h2 i hi
    obtain ⟨d1, d2⟩ := h3 _ (getD_mem hi)
    refine ⟨d1, d2, c1, ?_, c2⟩
    have e : sz rs = sz (rs.take (i + 1)) + sz (rs.drop (i + 1)) := by rw [← sz_append, List.take_append_drop]
    have e2 := sz_nonneg (rs := rs.drop (i + 1)) fun r hr => h2.nonneg r (List.mem_of_mem_drop hr)
    rw [sz_take rs i hi] at e
    omega
theorem May.canon {rs : List Run} (h : May rs) : Canon rs := (may_canon.1 h).2.1
theorem May.length {rs : List Run} (h : May rs) : ((pts rs).length : Int) = sz rs := h.canon.length

/-! ### pieces -/
def cutl (i E : Int) : Int → List Run → List Run
  | _, [] => []
  | a, r :: rs => cut1 i E (a, r) ++ cutl i E (a + r.2) rs
theorem cutl_range (i E a : Int) (rs : List Run) : cuts i E ((List.range rs.length).map fun j => (a + sz (rs.take j), rs.getD j (0, 0))) = cutl i E a rs := by
  induction rs generalizing a with
  | nil => rfl
  | cons r rs ih =>
    rw [List.length_cons, List.range_succ_eq_map, List.map_cons, List.map_map, cutl, ← ih (a + r.2)]
    simp only [cuts, List.flatMap_cons, List.take_zero, sz_nil, Int.add_zero, List.getD_cons_zero]
    congr 2
    refine List.map_congr_left fun j _ => ?_
    simp [sz_cons, Int.add_assoc]
theorem cuts_cutl (i E : Int) (rs : List Run) : cuts i E (places rs rs.length) = cutl i E 0 rs := by
  rw [← cutl_range]
  simp [places]
theorem wrap64_id {x : Int} (h : -9223372036854775808 ≤ x ∧ x ≤ 9223372036854775807) : wrap64 x = x := IntWalk.wrap64_in _ (by omega)
theorem cut1_eq {i E a : Int} {r : Run} (ha : 0 ≤ a) (hr : 0 ≤ r.2) (hs : a + r.2 ≤ 4398046511104) (hi : 0 ≤ i) (hE : 0 ≤ E) :
    cut1 i E (a, r) = if max a i < min (a + r.2) E then [(r.1, min (a + r.2) E - max a i)] else [] := by
  have e1 : wrap64 (a + r.2) = a + r.2 := wrap64_id (by omega)
  simp only [cut1, e1]
  split
  · rw [wrap64_id (by omega)]
  · rfl
theorem pts_one (c n : Int) : pts [(c, n)] = List.replicate n.toNat c := by simp [pts]

theorem pts_cutl {i E : Int} (hi : 0 ≤ i) (hE : 0 ≤ E) (rs : List Run) (a : Int) (ha : 0 ≤ a) (hp : ∀ r ∈ rs, 1 ≤ r.2) (hs : a + sz rs ≤ 4398046511104) :
    pts (cutl i E a rs) = ((pts rs).take (E - a).toNat).drop (i - a).toNat := by
  induction rs generalizing a with
  | nil => simp [cutl, pts_nil]
  | cons r rs ih =>
    have h1 := hp r (by simp)
    have h0 : 0 ≤ sz rs := sz_nonneg fun q hq => by have := hp q (by simp [hq]); omega
    rw [sz_cons] at hs
    rw [cutl, pts_append, pts_cons, ih (a + r.2) (by omega) (fun q hq => hp q (by simp [hq])) (by omega), cut1_eq ha (by omega) (by omega) hi hE]
    rw [List.take_append, List.drop_append, List.take_replicate, List.drop_replicate, List.length_replicate]
    rw [List.length_replicate]
    have e1 : (E - (a + r.2)).toNat = (E - a).toNat - r.2.toNat := by omega
    rw [e1]
    congr 1
    · split
      · rw [pts_one]
        congr 1
        omega
      · rw [pts_nil, show min (E - a).toNat r.2.toNat - (i - a).toNat = 0 by omega]
        rfl
    · rcases Nat.le_total r.2.toNat (E - a).toNat with h | h
      · congr 1
        omega
      · have : (E - a).toNat - r.2.toNat = 0 := by omega
        rw [this]
        simp

theorem cutl_far {i E : Int} (hi : 0 ≤ i) (hE : 0 ≤ E) (rs : List Run) (a : Int) (ha : 0 ≤ a) (hp : ∀ r ∈ rs, 1 ≤ r.2) (hs : a + sz rs ≤ 4398046511104) (hf : E ≤ a) : cutl i E a rs = [] := by
  induction rs generalizing a with
  | nil => rfl
  | cons r rs ih =>
    have h1 := hp r (by simp)
    have h0 : 0 ≤ sz rs := sz_nonneg fun q hq => by have := hp q (by simp [hq]); omega
    rw [sz_cons] at hs
    rw [cutl, ih (a + r.2) (by omega) (fun q hq => hp q (by simp [hq])) (by omega) (by omega), cut1_eq ha (by omega) (by omega) hi hE, if_neg (by omega)]
    rfl
theorem cutl_head {i E : Int} (hi : 0 ≤ i) (hE : 0 ≤ E) (rs : List Run) (a : Int) (ha : 0 ≤ a) (hp : ∀ r ∈ rs, 1 ≤ r.2) (hs : a + sz rs ≤ 4398046511104) (hf : i ≤ a) : ∀ x ∈ (cutl i E a rs).head?, ∃ r ∈ rs.head?, x.1 = r.1 := by
  intro x hx
  cases rs with
  | nil => simp [cutl] at hx
  | cons r rs =>
    have h1 := hp r (by simp)
    have h0 : 0 ≤ sz rs := sz_nonneg fun q hq => by have := hp q (by simp [hq]); omega
    rw [sz_cons] at hs
    refine ⟨r, by simp, ?_⟩
    rw [cutl, cut1_eq ha (by omega) (by omega) hi hE] at hx
    split at hx
    · simp at hx
      rw [← hx]
    · rw [cutl_far hi hE rs _ (by omega) (fun q hq => hp q (by simp [hq])) (by omega) (by omega)] at hx
      simp at hx
theorem canon_cutl {i E : Int} (hi : 0 ≤ i) (hE : 0 ≤ E) (rs : List Run) (a : Int) (ha : 0 ≤ a) (hc : Canon rs) (hs : a + sz rs ≤ 4398046511104) : Canon (cutl i E a rs) := by
  induction rs generalizing a with
  | nil => exact trivial
  | cons r rs ih =>
    have h1 := hc.1
    have h0 : 0 ≤ sz rs := sz_nonneg hc.2.2.nonneg
    rw [sz_cons] at hs
    have ih2 := ih (a + r.2) (by omega) hc.2.2 (by omega)
    rw [cutl, cut1_eq ha (by omega) (by omega) hi hE]
    split
    · refine ⟨by simp; omega, ?_, ih2⟩
      intro q hq
      obtain ⟨r', hr', e⟩ := cutl_head hi hE rs (a + r.2) (by omega) hc.2.2.pos (by omega) (by omega) q (by simpa using hq)
      simp only
      rw [e]
      exact hc.2.1 r' hr'
    · exact ih2
theorem cutl_codes {i E : Int} {p : Int → Prop} (rs : List Run) (a : Int) (hp : ∀ r ∈ rs, p r.1) : ∀ x ∈ cutl i E a rs, p x.1 := by
  induction rs generalizing a with
  | nil => simp [cutl]
  | cons r rs ih =>
    intro x hx
    rw [cutl, List.mem_append] at hx
    rcases hx with hx | hx
    · unfold cut1 at hx
      split at hx
      · simp at hx
        rw [hx]
        exact hp r (by simp)
      · simp at hx
    · exact ih _ (fun q hq => hp q (by simp [hq])) x hx
theorem cutl_len (i E : Int) (rs : List Run) (a : Int) : (cutl i E a rs).length ≤ rs.length := by
  induction rs generalizing a with
  | nil => simp [cutl]
  | cons r rs ih =>
    have := ih (a + r.2)
    have h2 : (cut1 i E (a, r)).length ≤ 1 := by unfold cut1; split <;> simp
    rw [cutl, List.length_append, List.length_cons]
    omega

theorem substr_len (s : List Run) (i m : Int) : (substr s i m).length ≤ s.length := by
  unfold substr
  split
  · rw [cuts_cutl]; exact cutl_len _ _ _ _
  · simp
/-- A piece's code points. -/
theorem pts_substr {s : List Run} (h : May s) {i m : Int} (hi : 0 ≤ i) : pts (substr s i m) = ((pts s).drop i.toNat).take m.toNat := by
  have hl := h.length
  have hs := h.size
  unfold substr
  split
  · rename_i hc
    rw [cuts_cutl, pts_cutl hi (by omega) s 0 (by omega) h.canon.pos (by omega), List.drop_take]
    simp only [Int.sub_zero]
    rcases Int.le_total m (sz s - i) with hm | hm
    · congr 1
      omega
    · rw [List.take_of_length_le (by rw [List.length_drop]; omega), List.take_of_length_le (by rw [List.length_drop]; omega)]
  · rename_i hc
    rw [pts_nil]
    rcases Int.lt_or_le i (sz s) with h1 | h1
    · have : m.toNat = 0 := by
        have : ¬ 1 ≤ m := fun hm => hc ⟨may_iff.2 h, hi, h1, hm⟩
        omega
      rw [this, List.take_zero]
    · rw [List.drop_eq_nil_of_le (by omega), List.take_nil]
theorem substr_neg {s : List Run} {i m : Int} (hi : i < 0) : substr s i m = [] := if_neg (by omega)
theorem may_substr {s : List Run} (h : May s) (i m : Int) : May (substr s i m) := by
  by_cases hc : 0 ≤ i
  · have hm := may_canon.1 h
    have hca : Canon (substr s i m) := by
      have hs := h.size
      unfold substr
      split
      · rw [cuts_cutl]; exact canon_cutl hc (by omega) s 0 (by omega) hm.2.1 (by omega)
      · exact trivial
    refine may_canon.2 ⟨Nat.le_trans (substr_len s i m) hm.1, hca, ?_, ?_⟩
    · unfold substr
      split
      · rw [cuts_cutl]; exact cutl_codes (p := fun c => 0 ≤ c ∧ c ≤ 196607) s 0 hm.2.2.1
      · simp
    · rw [← hca.length, pts_substr h hc, List.length_take, List.length_drop]
      have := h.length
      omega
  · rw [substr_neg (by omega)]
    exact may_canon.2 ⟨by simp, trivial, by simp, by simp [sz]⟩

/-! ### joins -/
theorem join_nil_left (b : List Run) : join [] b = b := by simp [join]
theorem join_nil_right (a : List Run) : join a [] = a := by simp [join]
theorem join_snoc (a : List Run) (x y : Run) (b : List Run) : join (a ++ [x]) (y :: b) = if x.1 = y.1 then a ++ [(x.1, x.2 + y.2)] ++ b else a ++ [x] ++ y :: b := by
  unfold join
  simp
theorem list_snoc (a : List Run) : a = [] ∨ ∃ b x, a = b ++ [x] := by
  rcases List.eq_nil_or_concat a with h | ⟨b, x, h⟩
  · exact .inl h
  · exact .inr ⟨b, x, by simpa using h⟩
theorem pts_join {a b : List Run} (ha : ∀ r ∈ a, 0 ≤ r.2) (hb : ∀ r ∈ b, 0 ≤ r.2) : pts (join a b) = pts a ++ pts b := by
  rcases list_snoc a with rfl | ⟨a, x, rfl⟩
  · rw [join_nil_left, pts_nil, List.nil_append]
  cases b with
  | nil => rw [join_nil_right, pts_nil, List.append_nil]
  | cons y b =>
    rw [join_snoc]
    split
    · rename_i he
      have h1 := ha x (by simp)
      have h2 := hb y (by simp)
      rw [pts_append, pts_append, pts_append, pts_cons y b, pts_one]
      rw [show pts [x] = List.replicate x.2.toNat x.1 from pts_one _ _, show (x.2 + y.2).toNat = x.2.toNat + y.2.toNat by omega, he]
      simp only [List.append_assoc, ← List.replicate_append_replicate]
    · rw [pts_append]
theorem canon_join {a b : List Run} (ha : Canon a) (hb : Canon b) : Canon (join a b) := by
  rcases list_snoc a with rfl | ⟨a, x, rfl⟩
  · rwa [join_nil_left]
  cases b with
  | nil => rwa [join_nil_right]
  | cons y b =>
    rw [join_snoc]
    obtain ⟨h1, h2, h3⟩ := canon_append.1 ha
    split
    · rename_i he
      have p1 := h2.1
      have p2 := hb.1
      rw [List.append_assoc]
      refine canon_append.2 ⟨h1, ⟨by simp; omega, ?_, hb.2.2⟩, ?_⟩
      · intro q hq
        simp only
        rw [he]
        exact hb.2.1 q (by simpa using hq)
      · intro z hz q hq
        simp at hq
        subst hq
        exact h3 z hz x (by simp)
    · rename_i hne
      refine canon_append.2 ⟨ha, hb, ?_⟩
      intro z hz q hq
      simp at hz hq
      subst hz
      subst hq
      exact fun e => hne e.symm
theorem join_codes {a b : List Run} {p : Int → Prop} (ha : ∀ r ∈ a, p r.1) (hb : ∀ r ∈ b, p r.1) : ∀ r ∈ join a b, p r.1 := by
  rcases list_snoc a with rfl | ⟨a, x, rfl⟩
  · rwa [join_nil_left]
  cases b with
  | nil => rwa [join_nil_right]
  | cons y b =>
    rw [join_snoc]
    intro r hr
    split at hr
    · simp at hr
      rcases hr with hr | rfl | hr
      · exact ha r (by simp [hr])
      · exact ha x (by simp)
      · exact hb r (by simp [hr])
    · simp at hr
      rcases hr with hr | rfl | rfl | hr
      · exact ha r (by simp [hr])
      · exact ha r (by simp)
      · exact hb r (by simp)
      · exact hb r (by simp [hr])
theorem sz_join {a b : List Run} (ha : Canon a) (hb : Canon b) : sz (join a b) = sz a + sz b := by
  rw [← (canon_join ha hb).length, pts_join ha.nonneg hb.nonneg, List.length_append, ← ha.length, ← hb.length]
  omega
theorem may_join {a b : List Run} (ha : May a) (hb : May b) (hs : sz a + sz b ≤ 1099511627776) (hl : (join a b).length ≤ 65536) : May (join a b) :=
  may_canon.2 ⟨hl, canon_join ha.canon hb.canon, join_codes (p := fun c => 0 ≤ c ∧ c ≤ 196607) (may_canon.1 ha).2.2.1 (may_canon.1 hb).2.2.1, by rw [sz_join ha.canon hb.canon]; exact hs⟩
theorem Canon.each {rs : List Run} (h : Canon rs) : ∀ r ∈ rs, 0 ≤ r.2 ∧ r.2 ≤ sz rs := by
  induction rs with
  | nil => simp
  | cons q rs ih =>
    have h1 := h.1
    have h0 : 0 ≤ sz rs := sz_nonneg h.2.2.nonneg
    intro r hr
    rw [sz_cons]
    rcases List.mem_cons.1 hr with rfl | hr
    · omega
    · have := ih h.2.2 r hr
      omega
end Go.Proofs.Ytdjapppfjpgidaa
