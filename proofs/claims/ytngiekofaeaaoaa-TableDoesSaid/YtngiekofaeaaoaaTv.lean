/- Walks over the reference of package table: lists of texts. -/
import Derived.Test.YtngiekofaeaaoaaTl
namespace Go.Proofs.Ytngiekofaeaaoaa
open Go.RowKit

def strs (ks : List ByteArray) : List Value := ks.map TS.kv
theorem strs_length (ks : List ByteArray) : (strs ks).length = ks.length := by simp [strs]
theorem strs_one (ks : List ByteArray) : ∀ x ∈ strs ks, x.oneCell' = true := TS.one_kv ks
theorem strs_get (ks : List ByteArray) (j : Nat) (h : j < ks.length) : (strs ks)[j]? = some (.string (ks.getD j ⟨#[]⟩)) := by
  simp [strs, h, List.getD_eq_getElem?_getD, TS.kv]
theorem strs_append (xs ys : List ByteArray) : strs xs ++ strs ys = strs (xs ++ ys) := by simp [strs]
theorem strs_take (xs : List ByteArray) (k : Nat) : (strs xs).take k = strs (xs.take k) := by simp [strs, List.map_take]

/-- The place of a text in a list. -/
def rpos (ks : List ByteArray) (k : ByteArray) : Int := if posB ks k = true then posI ks k else -1
theorem rpos_hit {ks : List ByteArray} {k : ByteArray} {j : Nat} (h : ks[j]? = some k) (hn : ∀ i, i < j → ks[i]? ≠ some k) : rpos ks k = (j : Int) := by
  have e : idx ks k = some j := by
    obtain ⟨i, hi, _⟩ := idx_mem (List.mem_of_getElem? h)
    have hs := idx_some hi
    rcases Nat.lt_trichotomy i j with h1 | h1 | h1
    · exact absurd hs.2.1 (hn i h1)
    · rw [← h1]; exact hi
    · exact absurd h (hs.2.2 j h1)
  simp [rpos, posB, posI, e]
theorem rpos_miss {ks : List ByteArray} {k : ByteArray} (hn : ∀ i, i < ks.length → ks[i]? ≠ some k) : rpos ks k = -1 := by
  have e : idx ks k = none := idx_none.2 fun hm => by
    obtain ⟨i, hi⟩ := List.mem_iff_getElem?.1 hm
    exact hn i (List.getElem?_eq_some_iff.1 hi).1 hi
  simp [rpos, posB, e]

theorem getD_some {ks : List ByteArray} {j : Nat} (h : j < ks.length) : ks[j]? = some (ks.getD j ⟨#[]⟩) := by
  simp [List.getD_eq_getElem?_getD, h]

theorem text_ne {x k : ByteArray} (h : x ≠ k) : (x.toList == k.toList) = false := by
  rw [beq_eq_false_iff_ne]
  intro e
  exact h (Go.WideShapes.bytes_inj (by simpa [ByteArray.toList_eq] using e))

theorem rfind_zero (w : World) (a : Option Addr) (c : Nat) (k : ByteArray) : Calls Try.prog 32 #[.slice a 0 c, .string k] w fun e w' => e = .returned (.int .i64 (-1)) ∧ w = w' := by
  go_enter Try.func32, Try.ntmps32
  go_wp2_with fail
  refine wp_loop_rounds 1 ?_
  rw [rounds_succ]
  go_wp2_with fail
  go_ret
  exact ⟨rfl, rfl⟩

set_option maxHeartbeats 400000 in
theorem rfind_some (w : World) (g o c n : Nat) (ks : List ByteArray) (k : ByteArray) (h1 : ks.length = n) (hl : n ≤ 1000000) (hx : ∀ j, j < n → w.cell? ⟨g, o + j, none⟩ = some (.string (ks.getD j ⟨#[]⟩))) :
    Calls Try.prog 32 #[.slice (some ⟨g, o, none⟩) n c, .string k] w fun e w' => e = .returned (.int .i64 (rpos ks k)) ∧ w = w' := by
  have H1 := Lib.hid h1
  have HX := Lib.hid hx
  clear h1 hx
  go_enter Try.func32, Try.ntmps32
  go_wp2_with fail
  go_loopw [5] (fun i wr => ∃ j : Nat, j ≤ n ∧ i = .int .i64 j ∧ (∀ i, i < j → ks[i]? ≠ some k) ∧ w = wr) (fun i _ => n - (intOf i).toNat)
  case atStart => exact ⟨0, by omega, rfl, by intro i hi; omega, rfl⟩
  case round =>
    obtain ⟨j, hj, rfl, hno, rfl⟩ := hrel
    have HL := Lib.hid hno
    clear hno
    by_cases hlt : j < n
    · have q1 := HX.out j hlt
      have HG := Lib.hid (getD_some (ks := ks) (j := j) (by rw [H1.out]; exact hlt))
      generalize ks.getD j ⟨#[]⟩ = x at *
      by_cases he : x = k
      · have HH := Lib.hid (rpos_hit (k := k) (by rw [HG.out, he]) HL.out)
        clear HG
        subst he
        go_wp2_with fail
        go_ret
        exact ⟨by rw [HH.out]; rfl, rfl⟩
      · have hb := text_ne he
        have HE := Lib.hid he
        clear he
        go_wp2_with fail
        go_roundw
        case rel =>
          refine ⟨j + 1, by omega, by go_num, fun i hi => ?_, trivial⟩
          rcases Nat.lt_or_ge i j with h | h
          · exact HL.out i h
          · obtain rfl : i = j := by omega
            rw [HG.out]
            exact fun e => HE.out (Option.some.inj e)
        case measure => simp [intOf]; omega
    · obtain rfl : j = n := by omega
      have HH := Lib.hid (rpos_miss (k := k) (ks := ks) (fun i hi => HL.out i (by rw [← H1.out]; exact hi)))
      go_wp2_with fail
      go_ret
      exact ⟨by rw [HH.out]; rfl, rfl⟩

theorem rfind_any {w : World} {P : Nat → Prop} {r : Value} {ks : List ByteArray} (h : Rd w P r (strs ks)) (k : ByteArray) (hl : ks.length ≤ 1000000) :
    Calls Try.prog 32 #[r, .string k] w fun e w' => e = .returned (.int .i64 (rpos ks k)) ∧ w = w' := by
  by_cases hp : 0 < ks.length
  · obtain ⟨g, o, c, rfl, _, _, _, hx⟩ := h.some_at (by rw [strs_length]; exact hp)
    rw [strs_length] at hx ⊢
    exact rfind_some w g o c _ ks k rfl hl (fun j hj => (hx j hj).trans (strs_get _ _ hj))
  · obtain ⟨a, c, rfl⟩ := h.shape
    obtain rfl : ks = [] := List.eq_nil_of_length_eq_zero (by omega)
    have : rpos [] k = -1 := rpos_miss (by intro i hi; simp at hi)
    rw [this]
    exact rfind_zero w a c k

/-- A list of texts is answered, and more. -/
def NewStrs (w : World) (P : Nat → Prop) (ks : List ByteArray) (v : Value) (w' : World) : Prop := Rd w' (fun j => P j ∨ w.heap.size ≤ j) v (strs ks) ∧ Below w.heap.size w w'

theorem rd_cut_len {w : World} {P : Nat → Prop} {a : Option Addr} {n c : Nat} {ks : List ByteArray} (h : Rd w P (.slice a n c) (strs ks)) (k : Nat) (hk : k ≤ ks.length) : Rd w P (.slice a k c) (strs (ks.take k)) := by
  rcases h with ⟨e, h0⟩ | ⟨g, o, cap, e, h1, h2, h3, h4⟩
  · cases e
    have h5 : ks = [] := by simpa [strs] using h0
    subst h5
    obtain rfl : k = 0 := by simpa using hk
    exact .inl ⟨rfl, by simp [strs]⟩
  · cases e
    have := Rd.cut (k := k) (.inr ⟨g, o, c, rfl, h1, h2, h3, h4⟩ : Rd w P (.slice (some ⟨g, o, none⟩) (strs ks).length c) (strs ks)) (by rw [strs_length]; exact hk)
    rwa [strs_take] at this

theorem one_str (x : ByteArray) : ∀ y ∈ [Value.string x], y.oneCell' = true := TS.one_kv1 x

theorem radd_old {w : World} {P : Nat → Prop} {r : Value} {ks : List ByteArray} (h : Rd w P r (strs ks)) (k : ByteArray) (hl : ks.length ≤ 1000000) (hp : posB ks k = true) :
    Calls Try.prog 30 #[r, .string k] w fun e w' => e = .returned (.tuple #[r, .int .i64 (posI ks k), .bool false]) ∧ w = w' := by
  have HF := Lib.hid (rfind_any h k hl)
  have hr : rpos ks k = posI ks k := by simp [rpos, hp]
  have h0 : 0 ≤ posI ks k := by unfold posI; split <;> omega
  rw [hr] at HF
  obtain ⟨a, c, rfl⟩ := h.shape
  clear h hr hp
  generalize posI ks k = z at *
  go_enter Try.func30, Try.ntmps30
  go_wp2_with fail
  refine HF.out.mono ?_
  rintro e w' ⟨rfl, rfl⟩
  go_wp2_with fail
  go_ret3
  exact ⟨rfl, rfl⟩

set_option maxHeartbeats 400000 in
theorem radd_new {w : World} {P : Nat → Prop} {r : Value} {ks : List ByteArray} (h : Rd w P r (strs ks)) (k : ByteArray) (hl : ks.length ≤ 1000000) (hp : posB ks k = false) :
    Calls Try.prog 30 #[r, .string k] w fun e w' => ∃ v, e = .returned (.tuple #[v, .int .i64 ks.length, .bool true]) ∧ NewStrs w P (ks ++ [k]) v w' := by
  have HF := Lib.hid (rfind_any h k hl)
  have hr : rpos ks k = -1 := by simp [rpos, hp]
  rw [hr] at HF
  obtain ⟨a, c, rfl⟩ := h.shape
  have HS := Lib.hid h
  have H1 : Hid ((([] : List Value).length + (strs ks).length) * (16 + 1) ≤ 70000000000000) := by show _ ≤ _; simp [strs_length]; omega
  have H2 : Hid (((strs ks).length + [Value.string k].length) * (16 + 1) ≤ 70000000000000) := by show _ ≤ _; simp [strs_length]; omega
  have hsl := strs_length ks
  rw [hsl] at HF HS ⊢
  clear h hr hp hsl
  go_enter Try.func30, Try.ntmps30
  go_wp2_with fail
  refine HF.out.mono ?_
  rintro e w' ⟨rfl, rfl⟩
  go_wp2_with (first
    | (at_builtin; refine app_wp rfl (.const (.slice none 0 0)) (.tmp 16) rfl Try.underlying57 TS.info9 rfl (by omega) w.heap.size (.slice none 0 0) _ rfl rfl (Own.nil _ _ _) HS.out (strs_one _) H1.out (Nat.le_refl _) ?_
       intro ra n1 c1 w1 ho hg hl1
       have HO : Hid (Own (w1.alloc (.cells #[.string k] 9)) w.heap.size 9 (.slice ra n1 c1) (strs ks)) := Own.below ho ((Below.refl _ _).alloc (Nat.le_refl _) _)
       have HZ : Hid (w.heap.size ≤ (w1.alloc (.cells #[.string k] 9)).heap.size) := Nat.le_trans hg.size (by simp))
    | (at_builtin; refine app_wp rfl (.tmp 18) (.tmp 20) rfl Try.underlying57 TS.info9 rfl (by omega) w.heap.size (.slice ra n1 c1) _ rfl rfl HO.out (rd_one w1 (.string k) 9) (one_str k) H2.out HZ.out ?_
       intro ra2 n2 c2 w2 ho2 hg2 hl2))
  go_ret3
  refine ⟨_, rfl, ?_, ?_⟩
  · have := ho2.new (P := P) (Nat.le_refl w.heap.size)
    rwa [show strs ks ++ [Value.string k] = strs (ks ++ [k]) by rw [← strs_append]; rfl] at this
  · refine Below.grown ?_ hg2 (by have := HZ.out; exact this) (fun j e => (HO.out.lt e).2)
    exact ((Below.refl _ _).grown hg (Nat.le_refl _) (fun j e => by simp [Value.ownBlock] at e)).alloc hg.size _

theorem radd_any {w : World} {P : Nat → Prop} {r : Value} {ks : List ByteArray} (h : Rd w P r (strs ks)) (k : ByteArray) (hl : ks.length ≤ 1000000) :
    Calls Try.prog 30 #[r, .string k] w fun e w' => ∃ v, e = .returned (.tuple #[v, .int .i64 (TS.addI ks k), .bool (TS.addB ks k)]) ∧ NewStrs w P (TS.addL ks k) v w' := by
  by_cases hp : posB ks k = true
  · refine (radd_old h k hl hp).mono ?_
    rintro e w' ⟨rfl, rfl⟩
    refine ⟨r, by simp [TS.addI, TS.addB, hp], ?_, Below.refl _ _⟩
    simp only [TS.addL, hp, if_true]
    exact h.mono fun _ _ h => .inl h
  · refine (radd_new h k hl (by simpa using hp)).mono ?_
    rintro e w' ⟨v, rfl, hv⟩
    refine ⟨v, by simp [TS.addI, TS.addB, hp], ?_⟩
    simpa only [TS.addL, if_neg hp] using hv

theorem rcut_all {w : World} {P : Nat → Prop} {r : Value} {ks : List ByteArray} (h : Rd w P r (strs ks)) (n : Int) (hn : (ks.length : Int) ≤ n) :
    Calls Try.prog 28 #[r, .int .i64 n] w fun e w' => e = .returned r ∧ w = w' := by
  obtain ⟨a, c, rfl⟩ := h.shape
  rw [strs_length]
  clear h
  go_enter Try.func28, Try.ntmps28
  go_wp2_with fail
  go_ret
  exact ⟨rfl, rfl⟩
theorem rcut_neg {w : World} {P : Nat → Prop} {r : Value} {ks : List ByteArray} (h : Rd w P r (strs ks)) (n : Int) (hn : n < 0) :
    Calls Try.prog 28 #[r, .int .i64 n] w fun e w' => e = .returned (.slice none 0 0) ∧ w = w' := by
  obtain ⟨a, c, rfl⟩ := h.shape
  rw [strs_length]
  have h2 : ¬ (ks.length : Int) ≤ n := by omega
  clear h
  go_enter Try.func28, Try.ntmps28
  go_wp2_with fail
  go_ret
  exact ⟨rfl, rfl⟩
theorem rcut_some {w : World} {P : Nat → Prop} {r : Value} {ks : List ByteArray} (h : Rd w P r (strs ks)) (n : Nat) (hn : n < ks.length) (hl : ks.length ≤ 1000000) :
    Calls Try.prog 28 #[r, .int .i64 n] w fun e w' => ∃ v, e = .returned v ∧ NewStrs w P (ks.take n) v w' := by
  obtain ⟨g, o, c, rfl, hc, _, _, _⟩ := h.some_at (by rw [strs_length]; omega)
  have HS := Lib.hid (rd_cut_len h n (by omega))
  rw [strs_length] at hc ⊢
  have h2 : ¬ (ks.length : Int) ≤ (n : Int) := by omega
  have h3 : ¬ (n : Int) < 0 := by omega
  have H1 : Hid ((([] : List Value).length + (strs (ks.take n)).length) * (16 + 1) ≤ 70000000000000) := by show _ ≤ _; simp [strs_length]; omega
  clear h
  go_enter Try.func28, Try.ntmps28
  go_wp2_with (at_builtin; refine app_wp rfl (.const (.slice none 0 0)) (.tmp 14) rfl Try.underlying57 TS.info9 rfl (by omega) w.heap.size (.slice none 0 0) _ rfl rfl (Own.nil _ _ _) HS.out (strs_one _) H1.out (Nat.le_refl _) ?_; intro ra n1 c1 w1 ho hg hl1)
  go_ret
  exact ⟨_, rfl, ho.new (P := P) (Nat.le_refl w.heap.size), (Below.refl _ _).grown hg (Nat.le_refl _) (fun j e => by simp [Value.ownBlock] at e)⟩
theorem rcut_any {w : World} {P : Nat → Prop} {r : Value} {ks : List ByteArray} (h : Rd w P r (strs ks)) (n : Int) (hl : ks.length ≤ 1000000) :
    Calls Try.prog 28 #[r, .int .i64 n] w fun e w' => ∃ v, e = .returned v ∧ NewStrs w P (ks.take n.toNat) v w' := by
  by_cases h1 : (ks.length : Int) ≤ n
  · refine (rcut_all h n h1).mono ?_
    rintro e w' ⟨rfl, rfl⟩
    refine ⟨r, rfl, ?_, Below.refl _ _⟩
    rw [List.take_of_length_le (by omega)]
    exact h.mono fun _ _ h => .inl h
  · by_cases h2 : n < 0
    · refine (rcut_neg h n h2).mono ?_
      rintro e w' ⟨rfl, rfl⟩
      refine ⟨_, rfl, ?_, Below.refl _ _⟩
      rw [show n.toNat = 0 by omega]
      exact .inl ⟨rfl, rfl⟩
    · have := rcut_some h n.toNat (by omega) hl
      rwa [Int.toNat_of_nonneg (by omega)] at this
end Go.Proofs.Ytngiekofaeaaoaa
