/- The reference's Runs and text. -/
import Derived.Test.YtdjapppfjpgidaaIc
namespace Go.Proofs.Ytdjapppfjpgidaa
open Go.RowKit

/-- A code point behind runs. -/
def step (out : List Run) (x : Int) : List Run :=
  match out.getLast? with
  | some r => if r.1 = x then out.dropLast ++ [(r.1, r.2 + 1)] else out ++ [(x, 1)]
  | none => [(x, 1)]
/-- Code points as runs. -/
def rle (l : List Int) : List Run := l.foldl step []
theorem rle_snoc (l : List Int) (x : Int) : rle (l ++ [x]) = step (rle l) x := by simp [rle]
theorem step_snoc (a : List Run) (r : Run) (x : Int) : step (a ++ [r]) x = if r.1 = x then a ++ [(r.1, r.2 + 1)] else a ++ [r] ++ [(x, 1)] := by simp [step]
theorem step_canon {out : List Run} (h : Canon out) (x : Int) : Canon (step out x) ∧ pts (step out x) = pts out ++ [x] ∧ (step out x).length ≤ out.length + 1 := by
  rcases list_snoc out with rfl | ⟨a, r, rfl⟩
  · simp [step, Canon, pts]
  · rw [step_snoc]
    obtain ⟨h1, h2, h3⟩ := canon_append.1 h
    have hp := h2.1
    split
    · rename_i e
      refine ⟨canon_append.2 ⟨h1, ⟨by simp; omega, by simp, trivial⟩, ?_⟩, ?_, by simp⟩
      · intro y hy z hz
        simp at hz
        subst hz
        exact h3 y hy r (by simp)
      · rw [pts_append, pts_append, pts_one, show pts [r] = List.replicate r.2.toNat r.1 from pts_one _ _, show (r.2 + 1).toNat = r.2.toNat + 1 by omega, List.replicate_succ', e]
        simp
    · rename_i e
      refine ⟨canon_append.2 ⟨h, ⟨by simp, by simp, trivial⟩, ?_⟩, ?_, by simp⟩
      · intro y hy z hz
        simp at hz hy
        subst hz
        subst hy
        exact fun e2 => e e2.symm
      · rw [pts_append, pts_one]
        rfl
theorem foldl_step (l : List Int) (out : List Run) (h : Canon out) : Canon (l.foldl step out) ∧ pts (l.foldl step out) = pts out ++ l ∧ (l.foldl step out).length ≤ out.length + l.length := by
  induction l generalizing out with
  | nil => simp [h]
  | cons x l ih =>
    obtain ⟨h1, h2, h3⟩ := step_canon h x
    obtain ⟨i1, i2, i3⟩ := ih (step out x) h1
    refine ⟨i1, ?_, ?_⟩
    · rw [List.foldl_cons, i2, h2]; simp
    · rw [List.foldl_cons, List.length_cons]; omega
theorem rle_canon (l : List Int) : Canon (rle l) := (foldl_step l [] trivial).1
theorem pts_rle (l : List Int) : pts (rle l) = l := by
  have := (foldl_step l [] trivial).2.1
  rwa [pts_nil, List.nil_append] at this
theorem rle_len (l : List Int) : (rle l).length ≤ l.length := by
  have := (foldl_step l [] trivial).2.2
  rwa [List.length_nil, Nat.zero_add] at this
theorem rle_pts {rs : List Run} (h : Canon rs) : rle (pts rs) = rs := canon_uniq (rle_canon _) h (pts_rle _)
theorem canon_last {a : List Run} {r : Run} (h : Canon (a ++ [r])) : (pts (a ++ [r])).getLast? = some r.1 := by
  obtain ⟨_, h2, _⟩ := canon_append.1 h
  have hp := h2.1
  rw [pts_append, show pts [r] = List.replicate r.2.toNat r.1 from pts_one _ _, show r.2.toNat = (r.2.toNat - 1) + 1 by omega, List.replicate_succ']
  simp
theorem take_snoc (l : List Int) (k : Nat) (h : k < l.length) : l.take (k + 1) = l.take k ++ [l.getD k 0] := by
  rw [List.take_succ_eq_append_getElem h]
  simp [List.getD_eq_getElem?_getD, h]
theorem rle_more {l : List Int} {k : Nat} (hk : 0 < k) (h : k < l.length) (he : l.getD (k - 1) 0 = l.getD k 0) :
    ∃ n, (rle (l.take k)).length = n + 1 ∧ rle (l.take (k + 1)) = (rle (l.take k)).set n (((rle (l.take k)).getD n (0, 0)).1, ((rle (l.take k)).getD n (0, 0)).2 + 1) := by
  obtain ⟨j, rfl⟩ : ∃ j, k = j + 1 := ⟨k - 1, by omega⟩
  have hc := rle_canon (l.take (j + 1))
  have hp := pts_rle (l.take (j + 1))
  rw [take_snoc l (j + 1) h, rle_snoc]
  generalize rle (l.take (j + 1)) = out at *
  rcases list_snoc out with rfl | ⟨a, r, rfl⟩
  · rw [take_snoc l j (by omega)] at hp
    simp [pts_nil] at hp
  · have hl := canon_last hc
    rw [hp, take_snoc l j (by omega)] at hl
    simp at hl
    refine ⟨a.length, by simp, ?_⟩
    have : r.1 = l.getD (j + 1) 0 := by rw [← he, ← hl]; simp
    rw [step_snoc, if_pos this]
    simp
theorem rle_new {l : List Int} {k : Nat} (h : k < l.length) (he : k = 0 ∨ l.getD (k - 1) 0 ≠ l.getD k 0) : rle (l.take (k + 1)) = rle (l.take k) ++ [(l.getD k 0, 1)] := by
  have hc := rle_canon (l.take k)
  have hp := pts_rle (l.take k)
  rw [take_snoc l k h, rle_snoc]
  generalize rle (l.take k) = out at *
  rcases list_snoc out with rfl | ⟨a, r, rfl⟩
  · rfl
  · have hl := canon_last hc
    rcases Nat.eq_zero_or_pos k with rfl | hk
    · rw [hp] at hl
      simp at hl
    · obtain ⟨j, rfl⟩ : ∃ j, k = j + 1 := ⟨k - 1, by omega⟩
      rw [hp, take_snoc l j (by omega)] at hl
      simp at hl
      rw [step_snoc, if_neg]
      intro e
      rcases he with he | he
      · omega
      · apply he
        rw [← e, ← hl]
        simp

set_option maxHeartbeats 4000000 in
theorem runs_any {w : World} {P : Nat → Prop} {v : Value} {l : List Int} (h : RdI w P v l) (hp : ∀ x ∈ l, 0 ≤ x ∧ x ≤ 196607) (hl : l.length ≤ 60000) :
    Calls Try.prog 45 #[v] w (NewRE w (rle l, 0)) := by
  have HR := Lib.hid h
  have HP : Hid (∀ k, k < l.length → pt (l.getD k 0) = true) := fun k hk => pt_iff.2 (hp _ (by rw [List.getD_eq_getElem?_getD, List.getElem?_eq_getElem hk]; exact List.getElem_mem _))
  obtain ⟨a, c, rfl, _⟩ := h.shape
  clear h hp
  generalize hn : l.length = n at *
  have Hn := Lib.hid hn
  clear hn
  go_enter Try.func45, Try.ntmps45
  go_wp2_with fail
  go_loopw [4, 5] (fun v i wr => ∃ k : Nat, k ≤ n ∧ i = .int .i64 k ∧ Own2 wr w.heap.size v (rle (l.take k)) ∧ Below w.heap.size w wr) (fun _ i _ => n - (intOf i).toNat)
  case atStart => exact ⟨0, by omega, rfl, Own2.nil _ _, Below.refl _ _⟩
  case round =>
    obtain ⟨k, hk, rfl, ho, hb⟩ := hrel
    obtain ⟨ra, rc, rfl⟩ := ho.shape
    have HO := Lib.hid ho
    have HB := Lib.hid hb
    clear ho
    have hrl : (rle (l.take k)).length ≤ 60000 := by have := rle_len (l.take k); have := List.length_take_le k l; omega
    by_cases hlt : k < n
    · obtain ⟨g, o, rfl, _, hgs, h0⟩ := HR.out.at (i := k) (by rw [Hn.out]; exact hlt)
      have d0 := (hb.cell (p := ⟨g, o + k, none⟩) hgs).trans h0
      have hpt := HP.out k hlt
      have hprev : ∃ q : Int, q = l.getD (k - 1) 0 ∧ (0 < k → wr.cell? ⟨g, o + (k - 1), none⟩ = some (.int .i64 q)) := by
        refine ⟨_, rfl, fun hp => ?_⟩
        obtain ⟨g', o', e1, _, hg2, e2⟩ := HR.out.at (i := k - 1) (by rw [Hn.out]; omega)
        cases e1
        exact (hb.cell (p := ⟨g, o + (k - 1), none⟩) hg2).trans e2
      obtain ⟨q, hq, hqc⟩ := hprev
      have HMo : Hid (0 < k → q = l.getD k 0 → _) := fun h1 h2 => rle_more (l := l) h1 (by rw [Hn.out]; exact hlt) (by rw [← hq]; exact h2)
      have HNe : Hid ((k = 0 ∨ q ≠ l.getD k 0) → _) := fun h => rle_new (l := l) (k := k) (by rw [Hn.out]; exact hlt) (by rw [← hq]; exact h)
      clear hq h0 hb
      generalize l.getD k 0 = x at *
      have HCo : Hid (Canon (rle (l.take k)) ∧ sz (rle (l.take k)) ≤ 60000) := ⟨rle_canon _, by rw [← (rle_canon (l.take k)).length, pts_rle]; have := List.length_take_le k l; omega⟩
      generalize rle (l.take k) = out at *
      go_wp2_with fail
      refine (point_any _ _).mono ?_
      rintro e w1 ⟨rfl, rfl⟩
      rw [hpt]
      clear hpt
      rcases Nat.eq_zero_or_pos k with hk0 | hk0
      · subst hk0
        have HE := Lib.hid (HNe.out (.inl rfl))
        simp only [Nat.add_zero] at d0
        clear HNe HMo
        go_wp2_with fail
        go_quiet (fail)
        obtain ⟨w2, hw2⟩ : ∃ w2, w2 = wr.drewN nq := ⟨_, rfl⟩
        have HO2 : Hid (Own2 (w2.alloc (.cells #[.int .i64 x, .int .i64 1] 38)) w.heap.size (.slice ra out.length rc) out) := (HO.out.kept fun _ _ => by rw [hw2]; rfl : Own2 w2 w.heap.size (.slice ra out.length rc) out).below (below_one w2 _)
        have HB2 : Hid (Below w.heap.size w w2) := by rw [hw2]; exact below_drewN HB.out _
        have d2 : w2.cell? ⟨g, o, none⟩ = some (.int .i64 x) := by rw [hw2]; exact d0
        have HZ : Hid (w.heap.size ≤ (w2.alloc (.cells #[.int .i64 x, .int .i64 1] 38)).heap.size) := by show _ ≤ _; have := HB2.out.size; simp; omega
        have HL : Hid (out.length + [((x, 1) : Run)].length ≤ 1000000000000) := by show _ ≤ _; simp; omega
        rw [← hw2]
        clear hw2 d0 hqc
        go_wp2_with (at_builtin; refine rapp_wp rfl (.tmp 48) (.tmp 54) rfl w.heap.size (.slice ra out.length rc) _ rfl rfl HO2.out (rr_one w2 (x, 1)) HL.out HZ.out ?_; intro r3 n3 c3 w3 hn3 ho3 hg3 hl3; replace hn3 := Lib.hid hn3)
        go_roundw
        case rel =>
          refine ⟨1, by omega, by go_num, ?_, (HB2.out.alloc HB2.out.size _).grown hg3 HZ.out (fun k e => (HO2.out.lt e).2)⟩
          rw [HE.out]
          exact ho3
        case measure => simp [intOf]; omega
      · have hkd : decide (0 < k) = true := by simpa using hk0
        have hqc := hqc hk0
        by_cases hx : q = x
        · have hxb : (q == x) = true := by simpa using hx
          obtain ⟨m, HM1, HM2⟩ := HMo.out hk0 hx
          have HE := Lib.hid HM2
          have Hm := Lib.hid HM1
          clear HNe HMo HM2 HM1
          have hml : m < out.length := by rw [Hm.out]; omega
          have hN := HCo.out.1.each (out.getD m (0, 0)) (getD_mem hml)
          have hN2 := HCo.out.2
          obtain ⟨gg, rfl⟩ : ∃ gg, ra = some ⟨gg, 0, none⟩ := by
            rcases HO.out.cases with ⟨e, h0⟩ | ⟨gg, cap, cur, e, _⟩
            · rw [h0] at hml; simp at hml
            · injection e with e1 _ _; exact ⟨gg, e1⟩
          obtain ⟨_, _, hcm, hgB, hgs2, hcel, _, hfr⟩ := HO.out.cell
          have o1 := hcel (m * 2 + 1) (by omega)
          rw [(flat_get out m hml).2] at o1
          have o2 := hfr (m * 2 + 1)
          have HSet : Hid (∀ (w' : World) (z : Int), Own2 w' w.heap.size (.slice (some ⟨gg, 0, none⟩) out.length rc) out → Own2 (w'.setCell ⟨gg, m * 2 + 1, none⟩ (.int .i64 z)) w.heap.size (.slice (some ⟨gg, 0, none⟩) out.length rc) (out.set m ((out.getD m (0, 0)).1, z))) := fun w' z h => h.setN hml z
          generalize out.getD m (0, 0) = r at *
          obtain ⟨r1, r2⟩ := r
          simp only at *
          have z1 : IntKind.i64.wrap (r2 + 1) = r2 + 1 := IntWalk.i64_in _ (by omega)
          have HLs : Hid ((out.set m (r1, r2 + 1)).length = out.length) := by show _ = _; simp
          clear hN hN2 hcel hfr HCo hcm hx
          generalize hL : out.length = L at *
          have HLo := Lib.hid hL
          have i1 : IntKind.i64.wrap ((L : Int) - 1) = (L : Int) - 1 := IntWalk.i64_in _ (by omega)
          have i2 : 0 ≤ (L : Int) - 1 := by omega
          have i3 : (L : Int) - 1 < (L : Int) := by omega
          have i4 : ((L : Int) - 1).toNat = m := by have := Hm.out; omega
          have i5 : m < L := hml
          clear hL
          go_wp2_with fail
          go_quiet (fail)
          obtain ⟨w2, hw2⟩ : ∃ w2, w2 = wr.drewN nq := ⟨_, rfl⟩
          have HO2 : Hid (Own2 w2 w.heap.size (.slice (some ⟨gg, 0, none⟩) L rc) out) := HO.out.kept fun _ _ => by rw [hw2]; rfl
          have HB2 : Hid (Below w.heap.size w w2) := by rw [hw2]; exact below_drewN HB.out _
          have z2 : w2.cell? ⟨gg, m * 2 + 1, none⟩ = some (.int .i64 r2) := by rw [hw2]; exact o1
          have z3 : w2.frozen? ⟨gg, m * 2 + 1, none⟩ = false := by rw [hw2]; exact o2
          rw [← hw2]
          clear hw2 d0 hqc o1 o2
          go_wp2_with fail
          go_roundw
          case rel =>
            refine ⟨k + 1, by omega, by go_num, ?_, HB2.out.setCell (p := ⟨gg, m * 2 + 1, none⟩) (by simpa using hgB) _⟩
            rw [HE.out]
            exact HSet.out w2 _ HO2.out
          case measure => simp [intOf]; omega
        · have hxb : (q == x) = false := by simpa using hx
          have HE := Lib.hid (HNe.out (.inr hx))
          clear HNe HMo
          go_wp2_with fail
          go_quiet (fail)
          obtain ⟨w2, hw2⟩ : ∃ w2, w2 = wr.drewN nq := ⟨_, rfl⟩
          have HO2 : Hid (Own2 (w2.alloc (.cells #[.int .i64 x, .int .i64 1] 38)) w.heap.size (.slice ra out.length rc) out) := (HO.out.kept fun _ _ => by rw [hw2]; rfl : Own2 w2 w.heap.size (.slice ra out.length rc) out).below (below_one w2 _)
          have HB2 : Hid (Below w.heap.size w w2) := by rw [hw2]; exact below_drewN HB.out _
          have d2 : w2.cell? ⟨g, o + k, none⟩ = some (.int .i64 x) := by rw [hw2]; exact d0
          have HZ : Hid (w.heap.size ≤ (w2.alloc (.cells #[.int .i64 x, .int .i64 1] 38)).heap.size) := by show _ ≤ _; have := HB2.out.size; simp; omega
          have HL : Hid (out.length + [((x, 1) : Run)].length ≤ 1000000000000) := by show _ ≤ _; simp; omega
          rw [← hw2]
          clear hw2 d0 hqc
          go_wp2_with (at_builtin; refine rapp_wp rfl (.tmp 48) (.tmp 54) rfl w.heap.size (.slice ra out.length rc) _ rfl rfl HO2.out (rr_one w2 (x, 1)) HL.out HZ.out ?_; intro r3 n3 c3 w3 hn3 ho3 hg3 hl3; replace hn3 := Lib.hid hn3)
          go_roundw
          case rel =>
            refine ⟨k + 1, by omega, by go_num, ?_, (HB2.out.alloc HB2.out.size _).grown hg3 HZ.out (fun k e => (HO2.out.lt e).2)⟩
            rw [HE.out]
            exact ho3
          case measure => simp [intOf]; omega
    · obtain rfl : k = n := by omega
      have hz : l.take k = l := List.take_of_length_le (by rw [Hn.out]; omega)
      rw [hz] at HO hrl ⊢
      have hd : decide ((65536 : Int) < ((rle l).length : Int)) = false := by simp; omega
      go_wp2_with fail
      go_ret2
      exact ⟨ra, rc, rfl, HO.out.rr, HB.out⟩
end Go.Proofs.Ytdjapppfjpgidaa
