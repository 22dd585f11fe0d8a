/- The reference's text, Substr. -/
import Derived.Test.YtdjapppfjpgidaaId
namespace Go.Proofs.Ytdjapppfjpgidaa
open Go.RowKit

theorem text_any {w : World} {P : Nat → Prop} {v : Value} {l : List Int} (h : RdI w P v l) (hp : ∀ x ∈ l, 0 ≤ x ∧ x ≤ 196607) (hl : l.length ≤ 60000) :
    Calls Try.prog 35 #[v] w (NewR w (rle l)) := by
  have HC := Lib.hid (runs_any h hp hl)
  obtain ⟨a, c, rfl, _⟩ := h.shape
  clear h hp
  generalize rle l = r at *
  go_enter Try.func35, Try.ntmps35
  go_wp2_with fail
  refine HC.out.mono ?_
  rintro e w1 ⟨ra, rc, rfl, hr, hb⟩
  have H := Lib.hid (And.intro hr hb)
  clear hr hb
  go_wp2_with fail
  go_ret
  exact ⟨ra, rc, rfl, H.out.1, H.out.2⟩

theorem may_codes {s : List Run} (h : May s) : ∀ x ∈ pts s, 0 ≤ x ∧ x ≤ 196607 := by
  intro x hx
  obtain ⟨r, hr, hx⟩ := List.mem_flatMap.1 hx
  rw [List.eq_of_mem_replicate hx]
  exact (may_canon.1 h).2.2.1 r hr

/-- What is picked of a list: from place i on, at most n. -/
def picked (l : List Int) (i n : Int) : List Int := if 0 ≤ i then (l.drop i.toNat).take n.toNat else []
theorem picked_nil (i n : Int) : picked [] i n = [] := by unfold picked; split <;> simp
theorem picked_yes {l : List Int} {i n : Int} {k : Nat} (hk : k < l.length) (h0 : 0 ≤ i) (h1 : i ≤ k) (h2 : (k : Int) - i < n) : picked (l.take (k + 1)) i n = picked (l.take k) i n ++ [l.getD k 0] := by
  have hl : (l.take k).length = k := by simp; omega
  simp only [picked, if_pos h0]
  rw [take_snoc l k hk, List.drop_append_of_le_length (by omega), List.take_append, List.length_drop, hl]
  congr 1
  rw [List.take_of_length_le (by simp; omega)]
theorem picked_no {l : List Int} {i n : Int} {k : Nat} (hk : k < l.length) (h : ¬ (0 ≤ i ∧ i ≤ k ∧ (k : Int) - i < n)) : picked (l.take (k + 1)) i n = picked (l.take k) i n := by
  have hl : (l.take k).length = k := by simp; omega
  unfold picked
  split
  · rw [take_snoc l k hk]
    by_cases h1 : i ≤ k
    · rw [List.drop_append_of_le_length (by omega), List.take_append_of_le_length (by rw [List.length_drop]; omega)]
    · rw [List.drop_eq_nil_of_le (by simp; omega), List.drop_eq_nil_of_le (by omega)]
  · rfl
theorem substr_rle {s : List Run} (h : May s) (i n : Int) : rle (picked (pts s) i n) = substr s i n := by
  unfold picked
  split
  · rename_i h0
    rw [← pts_substr h h0, rle_pts (may_substr h i n).canon]
  · rw [substr_neg (by omega)]
    rfl
theorem picked_codes {s : List Run} (h : May s) (i n : Int) : ∀ x ∈ picked (pts s) i n, 0 ≤ x ∧ x ≤ 196607 := by
  intro x hx
  unfold picked at hx
  split at hx
  · exact may_codes h x (List.mem_of_mem_drop (List.mem_of_mem_take hx))
  · simp at hx
theorem picked_len (l : List Int) (i n : Int) : (picked l i n).length ≤ l.length := by
  unfold picked
  split
  · simp; omega
  · simp

set_option maxHeartbeats 4000000 in
theorem rsubstr_any {w : World} {P : Nat → Prop} {v : Value} {s : List Run} (h : Rr w P v s) (hs : may s = true → sz s ≤ 50000) (i m : Int) :
    Calls Try.prog 14 #[v, .int .i64 i, .int .i64 m] w (NewR w (substr s i m)) := by
  have HM := Lib.hid (rmay_any h)
  have HR := Lib.hid h
  obtain ⟨a, c, rfl, _⟩ := h.shape
  clear h
  cases hm : may s with
  | false =>
    have he : substr s i m = [] := if_neg (by simp [hm])
    rw [hm] at HM
    rw [he]
    clear hm he hs
    go_enter Try.func14, Try.ntmps14
    go_wp2_with fail
    refine HM.out.mono ?_
    rintro e w1 ⟨rfl, hb⟩
    have HB := Lib.hid hb
    clear hb
    go_wp2_with fail
    go_ret
    exact ⟨none, 0, rfl, Rr.nil _ _, HB.out⟩
  | true =>
    have hM := may_iff.1 hm
    have hsz := hs hm
    have HPt := Lib.hid fun (w1 : World) (hb : Below w.heap.size w w1) => points_any (HR.out.below hb) hM (by omega)
    have HT := Lib.hid fun (w1 : World) (P1 : Nat → Prop) (v1 : Value) (h1 : RdI w1 P1 v1 (picked (pts s) i m)) => text_any h1 (picked_codes hM i m) (by have := picked_len (pts s) i m; have := hM.length; omega)
    rw [substr_rle hM] at HT
    have hll : (pts s).length ≤ 50000 := by have := hM.length; omega
    rw [hm] at HM
    clear hm hM hs hsz
    generalize substr s i m = r at *
    generalize pts s = l at *
    generalize hn : l.length = n at *
    have Hn := Lib.hid hn
    clear hn
    go_enter Try.func14, Try.ntmps14
    go_wp2_with fail
    refine HM.out.mono ?_
    rintro e w1 ⟨rfl, hb⟩
    have HB1 := Lib.hid hb
    clear hb
    go_wp2_with fail
    refine (HPt.out _ HB1.out).mono ?_
    rintro e w2 ⟨la, lc, rfl, ho, hb⟩
    have HB2 := Lib.hid (HB1.out.trans (hb.mono HB1.out.size))
    have HL := Lib.hid ho.rd
    rw [Hn.out] at HL ⊢
    clear ho hb
    go_wp2_with fail
    go_loopw [9, 10] (fun v i' wr => ∃ k : Nat, k ≤ n ∧ i' = .int .i64 k ∧ OwnI wr w2.heap.size v (picked (l.take k) i m) ∧ Below w2.heap.size w2 wr) (fun _ i' _ => n - (intOf i').toNat)
    case atStart => exact ⟨0, by omega, rfl, by rw [List.take_zero, picked_nil]; exact OwnI.nil _ _, Below.refl _ _⟩
    case round =>
      obtain ⟨k, hk, rfl, ho, hb⟩ := hrel
      obtain ⟨ra, rc, rfl⟩ := ho.shape
      have HO := Lib.hid ho
      have HB := Lib.hid hb
      clear ho
      by_cases hlt : k < n
      · have hlk : k < l.length := by rw [Hn.out]; exact hlt
        obtain ⟨g, o, rfl, _, hgs, h0⟩ := HL.out.at (i := k) hlk
        have d0 := (hb.cell (p := ⟨g, o + k, none⟩) hgs).trans h0
        have HY := Lib.hid fun (h0 : 0 ≤ i) (h1 : i ≤ k) (h2 : (k : Int) - i < m) => picked_yes (n := m) hlk h0 h1 h2
        have HN := Lib.hid fun (h : ¬ (0 ≤ i ∧ i ≤ k ∧ (k : Int) - i < m)) => picked_no (n := m) hlk h
        have hql : (picked (l.take k) i m).length ≤ 50000 := by have := picked_len (l.take k) i m; have := List.length_take_le k l; omega
        have HQl := Lib.hid hql
        clear h0 hb hlk hql
        generalize l.getD k 0 = x at *
        generalize picked (l.take k) i m = q at *
        cases e1 : decide (0 ≤ i) with
        | false =>
          have HE := Lib.hid (HN.out (by simp at e1; omega))
          clear HY HN
          go_wp2_with fail
          go_roundw
          case rel => exact ⟨k + 1, by omega, by go_num, by rw [HE.out]; exact HO.out, HB.out⟩
          case measure => simp [intOf]; omega
        | true =>
          cases e2 : decide (i ≤ (k : Int)) with
          | false =>
            have HE := Lib.hid (HN.out (by simp at e2; omega))
            clear HY HN
            go_wp2_with fail
            go_roundw
            case rel => exact ⟨k + 1, by omega, by go_num, by rw [HE.out]; exact HO.out, HB.out⟩
            case measure => simp [intOf]; omega
          | true =>
            have j1 : IntKind.i64.wrap ((k : Int) - i) = (k : Int) - i := IntWalk.i64_in _ (by simp at e1 e2; omega)
            cases e3 : decide ((k : Int) - i < m) with
            | false =>
              have HE := Lib.hid (HN.out (by simp at e3; omega))
              clear HY HN
              go_wp2_with fail
              go_roundw
              case rel => exact ⟨k + 1, by omega, by go_num, by rw [HE.out]; exact HO.out, HB.out⟩
              case measure => simp [intOf]; omega
            | true =>
              have HE := Lib.hid (HY.out (by simpa using e1) (by simpa using e2) (by simpa using e3))
              clear HY HN
              have HO2 := Lib.hid (HO.out.below (below_one wr (.cells #[.int .i64 x] 3)))
              have HLn : Hid (q.length + [x].length ≤ 1000000000000) := by show _ ≤ _; have := HQl.out; simp; omega
              have HZ : Hid (w2.heap.size ≤ (wr.alloc (.cells #[.int .i64 x] 3)).heap.size) := by show _ ≤ _; have := HB.out.size; simp; omega
              go_wp2_with (at_builtin; refine iapp_wp rfl (.tmp 37) (.tmp 42) rfl w2.heap.size (.slice ra q.length rc) _ rfl rfl HO2.out (rdi_one wr x) HLn.out HZ.out ?_; intro r3 n3 c3 w3 hn3 ho3 hg3 hl3; replace hn3 := Lib.hid hn3)
              go_roundw
              case rel =>
                refine ⟨k + 1, by omega, by go_num, ?_, (HB.out.alloc HB.out.size _).grown hg3 HZ.out (fun k e => (HO2.out.lt e).2)⟩
                rw [HE.out]
                exact ho3
              case measure => simp [intOf]; omega
      · obtain rfl : k = n := by omega
        have hz : l.take k = l := List.take_of_length_le (by rw [Hn.out]; omega)
        rw [hz] at HO ⊢
        have HBw := Lib.hid (HB2.out.trans (hb.mono HB2.out.size))
        clear hb
        go_wp2_with fail
        refine (HT.out _ _ _ HO.out.rd).mono ?_
        rintro e w3 ⟨rb, rd, rfl, hr, hb3⟩
        have HR3 : Hid (Rr w3 (fun k => w.heap.size ≤ k) (.slice rb r.length rd) r) := hr.mono fun k _ e => Nat.le_trans HBw.out.size e
        have HB3 := Lib.hid (HBw.out.trans (hb3.mono HBw.out.size))
        clear hr hb3
        go_wp2_with fail
        go_ret
        exact ⟨rb, rd, rfl, HR3.out, HB3.out⟩
end Go.Proofs.Ytdjapppfjpgidaa
