/- Plain laws: what the four laws without the document's answer say, of the plain functions. -/
import Derived.Test.YtdjapppfjpgidaaRt
namespace Go.Proofs.Ytdjapppfjpgidaa
open Go.RowKit

theorem len_may {s : List Run} (h : May s) : len s = sz s := by simp [len, may_iff.2 h]
theorem substr_eq {s t : List Run} (hs : May s) (ht : Canon t) {i m : Int} (hi : 0 ≤ i) (h : ((pts s).drop i.toNat).take m.toNat = pts t) : substr s i m = t :=
  canon_uniq (may_substr hs i m).canon ht (by rw [pts_substr hs hi, h])
theorem sz_substr {s : List Run} (hs : May s) {i m : Int} (hi : 0 ≤ i) : sz (substr s i m) = min m.toNat (((pts s).length : Int) - i).toNat := by
  rw [← (may_substr hs i m).length, pts_substr hs hi, List.length_take, List.length_drop]
  omega

/-! ### Parts -/
theorem parts1 {s : List Run} (hs : May s) {i : Int} (hi : 0 ≤ i) : concatR (substr s 0 i) (substr s i (sz s)) = (s, 0) := by
  have h1 := may_substr hs 0 i
  have h2 := may_substr hs i (sz s)
  have hl := hs.length
  have hb := hs.size
  have e : join (substr s 0 i) (substr s i (sz s)) = s := by
    refine canon_uniq (canon_join h1.canon h2.canon) hs.canon ?_
    rw [pts_join h1.canon.nonneg h2.canon.nonneg, pts_substr hs (Int.le_refl 0), pts_substr hs hi, List.take_of_length_le (l := (pts s).drop i.toNat) (by rw [List.length_drop]; omega)]
    simp
  have e2 : sz (substr s 0 i) + sz (substr s i (sz s)) = sz s := by rw [← sz_join h1.canon h2.canon, e]
  rw [concatR, if_pos ⟨may_iff.2 h1, may_iff.2 h2⟩, if_neg (by omega), e, fewR, if_pos hs.1]
theorem parts2 {s : List Run} (hs : May s) {i n j m : Int} (hi : 0 ≤ i) (hj : 0 ≤ j) : substr (substr s i n) j m = substr s (i + j) (if n - j < m then n - j else m) := by
  have h1 := may_substr hs i n
  refine canon_uniq (may_substr h1 j m).canon (may_substr hs _ _).canon ?_
  rw [pts_substr h1 hj, pts_substr hs hi, pts_substr hs (by omega), List.drop_take, List.drop_drop, List.take_take]
  congr 1
  · split <;> omega
  · congr 1
    omega
theorem parts3 {s : List Run} (hs : May s) {i n : Int} (hi : 0 ≤ i) (hn : 0 ≤ n) : len (substr s i n) = (if n < (if sz s - i < 0 then 0 else sz s - i) then n else (if sz s - i < 0 then 0 else sz s - i)) := by
  have hl := hs.length
  rw [len_may (may_substr hs i n), sz_substr hs hi]
  split <;> split <;> omega

/-! ### Joins -/
theorem concat_long {a b : List Run} (ha : May a) (hb : May b) (h : 1099511627776 < sz a + sz b) : concatR a b = ([], 2) := by
  rw [concatR, if_pos ⟨may_iff.2 ha, may_iff.2 hb⟩, if_pos h]
theorem concat_ok {a b : List Run} (ha : May a) (hb : May b) (h : ¬ 1099511627776 < sz a + sz b) (hl : a.length + b.length ≤ 65536) : concatR a b = (join a b, 0) := by
  rw [concatR, if_pos ⟨may_iff.2 ha, may_iff.2 hb⟩, if_neg h, fewR, if_pos (Nat.le_trans (join_len a b) hl)]
theorem join_assoc {a b c : List Run} (ha : Canon a) (hb : Canon b) (hc : Canon c) : join (join a b) c = join a (join b c) := by
  have h1 := canon_join ha hb
  have h2 := canon_join hb hc
  refine canon_uniq (canon_join h1 hc) (canon_join ha h2) ?_
  rw [pts_join h1.nonneg hc.nonneg, pts_join ha.nonneg hb.nonneg, pts_join ha.nonneg h2.nonneg, pts_join hb.nonneg hc.nonneg, List.append_assoc]
theorem joins_same {a b c : List Run} (ha : May a) (hb : May b) (hc : May c) (h1 : ¬ 1099511627776 < sz a + sz b) (h2 : ¬ 1099511627776 < sz b + sz c) (l1 : a.length ≤ 300) (l2 : b.length ≤ 300) (l3 : c.length ≤ 300) :
    concatR (join a b) c = concatR a (join b c) := by
  have j1 := join_len a b
  have j2 := join_len b c
  have m1 := may_join ha hb (by omega) (by omega)
  have m2 := may_join hb hc (by omega) (by omega)
  have s1 := sz_join ha.canon hb.canon
  have s2 := sz_join hb.canon hc.canon
  by_cases h : 1099511627776 < sz a + sz b + sz c
  · rw [concat_long m1 hc (by omega), concat_long ha m2 (by omega)]
  · rw [concat_ok m1 hc (by omega) (by omega), concat_ok ha m2 (by omega) (by omega), join_assoc ha.canon hb.canon hc.canon]
theorem joins_may {a b : List Run} (ha : May a) (hb : May b) (h1 : ¬ 1099511627776 < sz a + sz b) (l1 : a.length ≤ 300) (l2 : b.length ≤ 300) : May (join a b) :=
  may_join ha hb (by omega) (by have := join_len a b; omega)
theorem joins_prefix {a b : List Run} (ha : May a) (hb : May b) (hx : May (join a b)) : prefixR a (join a b) = true := by
  have hl := ha.length
  have e : substr (join a b) 0 (sz a) = a := by
    refine substr_eq hx ha.canon (Int.le_refl 0) ?_
    rw [pts_join ha.canon.nonneg hb.canon.nonneg]
    simp only [Int.toNat_zero, List.drop_zero]
    rw [List.take_left' (by omega)]
  simp [prefixR, may_iff.2 ha, may_iff.2 hx, e]
theorem joins_suffix {a b : List Run} (ha : May a) (hb : May b) (hx : May (join a b)) : suffixR b (join a b) = true := by
  have hl := ha.length
  have hl2 := hb.length
  have hz := sz_join ha.canon hb.canon
  have e : substr (join a b) (sz (join a b) - sz b) (sz b) = b := by
    refine substr_eq hx hb.canon (by omega) ?_
    rw [pts_join ha.canon.nonneg hb.canon.nonneg, List.drop_left' (by omega), List.take_of_length_le (by omega)]
  have : sz b ≤ sz (join a b) := by omega
  simp [suffixR, may_iff.2 hb, may_iff.2 hx, e, this]
theorem contains_at {s t : List Run} (hs : May s) (ht : May t) {q : Nat} (h : pts t <+: (pts s).drop q) (hq : q ≤ (pts s).length) : containsR s t = true := by
  rcases index_spec hs ht (i := 0) (Int.le_refl 0) with ⟨_, h2⟩ | ⟨k, h1, _⟩
  · exact absurd h (h2 q (by omega) hq)
  · simp [containsR, h1]
theorem joins_contains {a b : List Run} (ha : May a) (hb : May b) (hx : May (join a b)) : containsR (join a b) a = true := by
  refine contains_at (q := 0) hx ha ?_ (by omega)
  rw [pts_join ha.canon.nonneg hb.canon.nonneg]
  simp

/-! ### First -/
theorem first_late {s t : List Run} (hs : May s) (ht : May t) {i : Int} (hi : 0 ≤ i) (h : indexR s t i < 0) : indexR s t i = -1 ∧ indexR s t (i + 1) = -1 := by
  rcases index_spec hs ht hi with ⟨h1, h2⟩ | ⟨k, h1, _⟩
  · refine ⟨h1, ?_⟩
    rcases index_spec hs ht (i := i + 1) (by omega) with ⟨h3, _⟩ | ⟨k, _, h4, h5, h6, _⟩
    · exact h3
    · exact absurd h6 (h2 k (by omega) (by omega))
  · omega
theorem first_neg {s t : List Run} {i : Int} (hi : i < 0) : indexR s t i = -1 := if_neg (by omega)
theorem first_any {s t : List Run} (hs : May s) (ht : May t) {i : Int} (h : indexR s t i < 0) : indexR s t i = -1 := by
  rcases Int.lt_or_le i 0 with h1 | h1
  · exact first_neg h1
  · exact (first_late hs ht h1 h).1
theorem first_here {s t : List Run} (hs : May s) (ht : May t) {i : Int} (h : 0 ≤ indexR s t i) :
    0 ≤ i ∧ i ≤ indexR s t i ∧ indexR s t i + sz t ≤ sz s ∧ substr s (indexR s t i) (sz t) = t ∧ containsR s t = true ∧ (sz t = 0 → indexR s t i = i) ∧ (1 ≤ sz t → indexR (substr s 0 (indexR s t i + sz t - 1)) t i = -1) := by
  have hi : 0 ≤ i := by
    rcases Int.lt_or_le i 0 with h1 | h1
    · rw [first_neg h1] at h; omega
    · exact h1
  have hl := hs.length
  have hl2 := ht.length
  rcases index_spec hs ht hi with ⟨h1, _⟩ | ⟨q, h1, h2, h3, h4, h5⟩
  · omega
  · rw [h1]
    refine ⟨hi, h2, by omega, ?_, contains_at hs ht h4 (by omega), fun h0 => ?_, fun h0 => ?_⟩
    · refine substr_eq hs ht.canon (by omega) ?_
      obtain ⟨Z, hZ⟩ := h4
      rw [show ((q : Int)).toNat = q by omega, ← hZ, List.take_left' (by omega)]
    · rcases Nat.lt_or_ge i.toNat q with h6 | h6
      · refine absurd ?_ (h5 i.toNat (by omega) h6)
        have : pts t = [] := List.eq_nil_of_length_eq_zero (by omega)
        rw [this]
        exact List.nil_prefix
      · omega
    · have ha := may_substr hs 0 ((q : Int) + sz t - 1)
      have hp : pts (substr s 0 ((q : Int) + sz t - 1)) = (pts s).take (q + (pts t).length - 1) := by
        rw [pts_substr hs (Int.le_refl 0)]
        simp only [Int.toNat_zero, List.drop_zero]
        congr 1
        omega
      rcases index_spec ha ht hi with ⟨h6, _⟩ | ⟨k, _, h7, h8, h9, _⟩
      · exact h6
      · rw [hp, List.length_take] at h8
        rw [hp, List.drop_take] at h9
        exact absurd (h9.trans (List.take_prefix _ _)) (h5 k h7 (by omega))

/-! ### Replaced -/
theorem replaced_none {s t u : List Run} (hs : May s) (ht : May t) (hu : May u) (h : indexR s t 0 < 0) : replaceR s t u = (s, 0) := by
  rw [replaceR, if_pos ⟨may_iff.2 hs, may_iff.2 ht, may_iff.2 hu⟩, if_pos h]
theorem replaced_long {s t u : List Run} (hs : May s) (ht : May t) (hu : May u) (h : ¬ indexR s t 0 < 0) (hl : 1099511627776 < sz s - sz t + sz u) : replaceR s t u = ([], 2) := by
  rw [replaceR, if_pos ⟨may_iff.2 hs, may_iff.2 ht, may_iff.2 hu⟩, if_neg h, if_pos hl]
theorem replaced_some {s t u : List Run} (hs : May s) (ht : May t) (hu : May u) (h : ¬ indexR s t 0 < 0) (hl : ¬ 1099511627776 < sz s - sz t + sz u) (l1 : s.length ≤ 300) (l3 : u.length ≤ 300) :
    ∃ a r, concatR (substr s 0 (indexR s t 0)) u = (a, 0) ∧ concatR a (substr s (indexR s t 0 + sz t) (sz s)) = (r, 0) ∧ replaceR s t u = (r, 0) ∧ May r ∧ sz r = sz s - sz t + sz u ∧ a.length ≤ 65536 := by
  obtain ⟨_, h2, h3, _⟩ := first_here hs ht (i := 0) (by omega)
  have hb := hs.length
  have hz1 := sz_substr hs (i := 0) (m := indexR s t 0) (Int.le_refl 0)
  have hz0 := ht.size
  have hz2 := sz_substr hs (i := indexR s t 0 + sz t) (m := sz s) (by omega)
  have m1 := may_substr hs 0 (indexR s t 0)
  have m2 := may_substr hs (indexR s t 0 + sz t) (sz s)
  have k1 := substr_len s 0 (indexR s t 0)
  have k2 := substr_len s (indexR s t 0 + sz t) (sz s)
  have j1 := join_len (substr s 0 (indexR s t 0)) u
  have ma := may_join m1 hu (by omega) (by omega)
  have sa := sz_join m1.canon hu.canon
  have j2 := join_len (join (substr s 0 (indexR s t 0)) u) (substr s (indexR s t 0 + sz t) (sz s))
  have sr := sz_join ma.canon m2.canon
  have mr := may_join ma m2 (by omega) (by omega)
  refine ⟨_, _, concat_ok m1 hu (by omega) (by omega), concat_ok ma m2 (by omega) (by omega), ?_, mr, by omega, by omega⟩
  rw [replaceR, if_pos ⟨may_iff.2 hs, may_iff.2 ht, may_iff.2 hu⟩, if_neg h, if_neg hl, fewR, if_pos (by omega)]
end Go.Proofs.Ytdjapppfjpgidaa
