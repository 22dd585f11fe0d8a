/- Walks over package table: the stack's Pop, Mark, Back, Marks, All. -/
import Derived.Test.YtngiekofaeaaoaaTb
namespace Go.Proofs.Ytngiekofaeaaoaa
open Go.RowKit

theorem floor_any (w : World) {B sb : Nat} {vl vm : Value} {xs ms : List Int} (h : Stk w B sb vl vm xs ms) (hl : ms.length ≤ 1000000) :
    Calls Try.prog 36 #[.pointer (some ⟨sb, 0, none⟩)] w fun e w' => e = .returned (.int .i64 (flo ms)) ∧ ∃ n, w' = w.drewN n := by
  by_cases hp : 0 < ms.length
  · exact floor_some w h hp hl
  · obtain rfl : ms = [] := List.eq_nil_of_length_eq_zero (by omega)
    exact (floor_none w h).mono fun _ _ ⟨h1, h2⟩ => ⟨h1, 0, h2⟩

theorem Stk.drewN {w : World} {B sb : Nat} {vl vm : Value} {xs ms : List Int} (h : Stk w B sb vl vm xs ms) (n : Nat) : Stk (w.drewN n) B sb vl vm xs ms := h.kept fun _ _ => rfl

theorem floor_q (w : World) (k : Nat) {B sb : Nat} {vl vm : Value} {xs ms : List Int} (h : Stk w B sb vl vm xs ms) (hl : ms.length ≤ 1000000) :
    Calls Try.prog 36 #[.pointer (some ⟨sb, 0, none⟩)] (w.drewN k) fun e w' => e = .returned (.int .i64 (flo ms)) ∧ ∃ n, w' = w.drewN n :=
  (floor_any (w.drewN k) (h.drewN k) hl).mono fun _ _ ⟨h1, n, h2⟩ => ⟨h1, k + n, by rw [h2, World.drewN_drewN]⟩

/-- A store behind a row's end. -/
theorem Own.poke {w : World} {B e g n c : Nat} {cs : List Value} (h : Own w B e (.slice (some ⟨g, 0, none⟩) n c) cs) {j : Nat} (hj : cs.length ≤ j) (u : Value) : Own (w.setCell ⟨g, j, none⟩ u) B e (.slice (some ⟨g, 0, none⟩) n c) cs := by
  rcases h.cases with ⟨h0, _⟩ | ⟨g', cap, cur, h0, hB, hb, h1, h2, h3, h4⟩
  · cases h0
  · cases h0
    refine Own.mk (cur := cur.setIfInBounds j u) hB ?_ h1 h2 (by simpa using h3) ?_
    · simp [World.setCell, Array.getElem?_modify, hb]
    · rw [Array.toList_setIfInBounds, List.take_set_of_le hj]
      exact h4

theorem pop_none (w : World) {B sb : Nat} {vl vm : Value} {xs ms : List Int} (h : Stk w B sb vl vm xs ms) (hm : ms.length ≤ 1000000) (he : (xs.length : Int) = flo ms) :
    Calls Try.prog 13 #[.pointer (some ⟨sb, 0, none⟩)] w fun e w' => e = .returned (.tuple #[.int .i64 0, .bool false]) ∧ ∃ n, w' = w.drewN n := by
  have H := Lib.hid h
  have c0 := h.c0
  obtain ⟨a, c, rfl⟩ := h.l.shape
  rw [ints_length] at c0 H
  have hd : ((xs.length : Int) == flo ms) = true := by rw [he]; simp
  clear h he
  go_enter Try.func13, Try.ntmps13
  go_wp2_with fail
  go_quiet ((go_at_call 36; exact floor_q _ _ H.out hm))
  go_wp2_with fail
  go_ret2
  exact ⟨rfl, _, rfl⟩

set_option maxHeartbeats 400000 in
theorem pop_some (w : World) {B sb : Nat} {vl vm : Value} {xs ms : List Int} (x : Int) (h : Stk w B sb vl vm (xs ++ [x]) ms) (hl : xs.length ≤ 1000000) (hm : ms.length ≤ 1000000) (he : flo ms ≤ (xs.length : Int)) :
    Calls Try.prog 13 #[.pointer (some ⟨sb, 0, none⟩)] w fun e w' => e = .returned (.tuple #[.int .i64 x, .bool true]) ∧ Left w B sb vl vm xs ms w' := by
  have H := Lib.hid h
  have hs := h.lt
  have c0 := h.c0
  have hf0 := h.f 0
  obtain ⟨g, c, rfl, h1, h2, hc, hf⟩ := h.l.some_at (by simp [ints])
  have hne : g ≠ sb := fun e => h.n1 (by rw [e]; rfl)
  have hll : (ints (xs ++ [x])).length = xs.length + 1 := by simp [ints]
  rw [hll] at c0 h1 hc H
  have hcell := hc xs.length (by omega)
  have hfr := hf xs.length
  have hx : (ints (xs ++ [x]))[xs.length]? = some (.int .i64 x) := by simp [ints]
  rw [hx] at hcell
  have hd : ((xs.length : Int) + 1 == flo ms) = false := beq_eq_false_iff_ne.2 (by omega)
  have hgl := World.block_lt_of_cell? w _ hcell
  clear h he hc hf hx hll h2
  generalize hn : xs.length = n at *
  have Hn := Lib.hid hn
  clear hn
  go_enter Try.func13, Try.ntmps13
  go_wp2_with fail
  go_quiet ((go_at_call 36; exact floor_q _ _ H.out hm))
  go_wp2_with fail
  go_ret2
  have hn := Hn.out
  have hll : (ints (xs ++ [x])).length = n + 1 := by simp [ints, hn]
  have hcut := (H.out.drewN nq).l.cut (k := n) (by omega)
  rw [ints_take, ← hn, List.take_left, hn] at hcut
  have hlen : (ints xs).length ≤ n := by rw [ints_length]; omega
  obtain ⟨k1, k2⟩ := (H.out.drewN nq).setL (hcut.poke hlen (.int .i64 0)) (w' := (w.drewN nq).setCell ⟨g, n, none⟩ (.int .i64 0))
    ⟨rfl, rfl, rfl, by simp [World.setCell], fun k _ e => Below.heap_setCell _ _ _ _ (fun e' => e (by rw [e']; rfl))⟩ (.inl rfl)
  refine ⟨rfl, ?_⟩
  rw [hll]
  exact ⟨_, _, k1, Touch.pre (below_drewN (Below.refl _ _) nq) k2⟩

theorem mark_any (w : World) {B sb : Nat} {vl vm : Value} {xs ms : List Int} (h : Stk w B sb vl vm xs ms) (hm : ms.length ≤ 1000000) :
    Calls Try.prog 15 #[.pointer (some ⟨sb, 0, none⟩)] w fun e w' => e = .returned (.tuple #[]) ∧ Left w B sb vl vm xs (ms ++ [(xs.length : Int)]) w' := by
  have H := Lib.hid h
  have hs := h.lt
  have c0 := h.c0
  have c1 := h.c1
  have hf1 := h.f 1
  have hB := h.base
  obtain ⟨a, c, rfl⟩ := h.l.shape
  rw [ints_length] at c0 H
  have hew : (w.alloc (.cells #[.int .i64 (xs.length : Int)] 3)).drew.heap.size = w.heap.size + 1 := by simp [World.drew]
  have HA := Lib.hid (H.out.below (w' := (w.alloc (.cells #[.int .i64 (xs.length : Int)] 3)).drew) (((Below.refl _ _).alloc (Nat.le_refl _) _).drew))
  have H3 : Hid (B ≤ (w.alloc (.cells #[.int .i64 (xs.length : Int)] 3)).drew.heap.size) := by
    show _ ≤ _
    rw [hew]
    omega
  have H2 : Hid (((ints ms).length + [Value.int .i64 (xs.length : Int)].length) * (8 + 1) ≤ 70000000000000) := by
    have := ints_length ms
    simp only [List.length_singleton]
    show _ ≤ _
    omega
  clear h
  go_enter Try.func15, Try.ntmps15
  go_wp2_with fail
  go_region_law (first | (refine app_step rfl (.tmp 8) (.tmp 14) rfl Try.underlying25 info3 rfl (by omega) B vm _ rfl rfl HA.out.m ((rd_one w (.int .i64 (xs.length : Int)) 3).below (below_drewN (Below.refl _ _) 1)) (one_int _) H2.out H3.out ?_; intro ra n c2 w1 ho hg hl'; have d0 := grown_cell hg HA.out.c1 HA.out.n2; have d1 := (grown_frozen hg 1 HA.out.lt HA.out.n2).trans (HA.out.f 1)))
  all_goals
    go_wp2_with fail
    go_end0
    obtain ⟨k1, k2⟩ := HA.out.setM (ns := ms ++ [(xs.length : Int)]) (by rw [← ints_append]; exact ho) hg (hl'.imp id fun e => .inr ⟨_, e, Nat.le_refl _⟩)
    rw [ints_length]
    exact ⟨rfl, _, _, k1, Touch.pre (((Below.refl _ _).alloc (Nat.le_refl _) _).drew) k2⟩

theorem marks_any (w : World) {B sb : Nat} {vl vm : Value} {xs ms : List Int} (h : Stk w B sb vl vm xs ms) :
    Calls Try.prog 22 #[.pointer (some ⟨sb, 0, none⟩)] w fun e w' => e = .returned (.int .i64 ms.length) ∧ w = w' := by
  have c1 := h.c1
  obtain ⟨a, c, rfl⟩ := h.m.shape
  rw [ints_length] at c1
  clear h
  go_enter Try.func22, Try.ntmps22
  go_wp2_with fail
  go_ret
  exact ⟨rfl, rfl⟩

/-- What Pop tells, and whether there is something, and what stays. -/
def popV (L ms : List Int) : Int := if (L.length : Int) = flo ms then 0 else L.getLast?.getD 0
def popB (L ms : List Int) : Bool := if (L.length : Int) = flo ms then false else true
def popL (L ms : List Int) : List Int := if (L.length : Int) = flo ms then L else L.dropLast

theorem pop_any (w : World) {B sb : Nat} {vl vm : Value} {L ms : List Int} (h : Stk w B sb vl vm L ms) (hl : L.length ≤ 1000000) (hm : ms.length ≤ 1000000) (h0 : 0 ≤ flo ms) (he : flo ms ≤ (L.length : Int)) :
    Calls Try.prog 13 #[.pointer (some ⟨sb, 0, none⟩)] w fun e w' => e = .returned (.tuple #[.int .i64 (popV L ms), .bool (popB L ms)]) ∧ Left w B sb vl vm (popL L ms) ms w' := by
  by_cases hq : (L.length : Int) = flo ms
  · refine (pop_none w h hm hq).mono ?_
    rintro e w' ⟨rfl, n, rfl⟩
    refine ⟨by simp [popV, popB, hq], vl, vm, ?_, ?_⟩
    · rw [popL, if_pos hq]; exact h.drewN n
    · exact Touch.pre (below_drewN (Below.refl _ _) n) (Touch.refl _ _)
  · have hne : L ≠ [] := by
      rintro rfl
      simp at he hq
      omega
    have hL : L = L.dropLast ++ [L.getLast hne] := (List.dropLast_concat_getLast hne).symm
    have hlen : L.length = L.dropLast.length + 1 := by
      have := congrArg List.length hL
      simpa using this
    refine (pop_some w (xs := L.dropLast) (L.getLast hne) (by rw [← hL]; exact h) (by omega) hm (by omega)).mono ?_
    rintro e w' ⟨rfl, hl⟩
    refine ⟨?_, ?_⟩
    · simp only [popV, popB, if_neg hq, List.getLast?_eq_some_getLast hne, Option.getD_some]
    · rw [popL, if_neg hq]; exact hl

/-- How long the row in a stack's first field is. -/
def lenAt (w : World) (sb : Nat) : Nat := match w.cell? ⟨sb, 0, none⟩ with | some (.slice _ n _) => n | _ => 0
def bitOf : Value → Nat | .bool true => 1 | _ => 0
theorem lenAt_stk {w : World} {B sb : Nat} {vl vm : Value} {xs ms : List Int} (h : Stk w B sb vl vm xs ms) : lenAt w sb = xs.length := by
  have c0 := h.c0
  obtain ⟨a, c, rfl⟩ := h.l.shape
  simp [lenAt, c0, ints]

theorem popB_cases {xs ys ms : List Int} (hf : flo ms = xs.length) :
    (ys = [] ∧ popB (xs ++ ys) ms = false ∧ popL (xs ++ ys) ms = xs ++ ys) ∨ (ys ≠ [] ∧ popB (xs ++ ys) ms = true ∧ popL (xs ++ ys) ms = xs ++ ys.dropLast) := by
  by_cases hy : ys = []
  · subst hy
    left
    simp [popB, popL, hf]
  · right
    have hp : 0 < ys.length := List.length_pos_iff.2 hy
    have hq : ¬ ((xs ++ ys).length : Int) = flo ms := by rw [hf]; simp; omega
    refine ⟨hy, by simp only [popB, if_neg hq], ?_⟩
    simp only [popL, if_neg hq]
    exact List.dropLast_append_of_ne_nil hy

/-- What holds at the head of Back's loop. -/
structure BackRel (w0 : World) (B sb : Nat) (vl vm : Value) (xs ms : List Int) (v : Value) (zs : List Int) (wr : World) : Prop where
  st : Left w0 B sb vl vm (xs ++ zs) ms wr
  le : (xs ++ zs).length ≤ 1000000
  ok : v = .bool true ∨ v = .bool false ∧ zs = []

theorem Left.trans {w w1 w2 : World} {B sb : Nat} {vl vm : Value} {xs' ms' : List Int} {vl1 vm1 : Value} (h : Touch (stkF sb vl vm) (stkF sb vl1 vm1) w w1) (k : Left w1 B sb vl1 vm1 xs' ms' w2) : Left w B sb vl vm xs' ms' w2 := by
  obtain ⟨a, b, k1, k2⟩ := k
  exact ⟨a, b, k1, h.trans k2⟩

set_option maxHeartbeats 400000 in
theorem back_some (w : World) {B sb : Nat} {vl vm : Value} {xs ys ms : List Int} (h : Stk w B sb vl vm (xs ++ ys) (ms ++ [(xs.length : Int)])) (hl : (xs ++ ys).length ≤ 1000000) (hm : (ms ++ [(xs.length : Int)]).length ≤ 1000000) :
    Calls Try.prog 17 #[.pointer (some ⟨sb, 0, none⟩)] w fun e w' => e = .returned (.bool true) ∧ Left w B sb vl vm xs ms w' := by
  have H := Lib.hid h
  have hd : ((ms.length : Int) + 1 == 0) = false := beq_eq_false_iff_ne.2 (by omega)
  have hmm := flo_snoc ms (xs.length : Int)
  have HF := Lib.hid hmm
  have P0 := pop_any w h hl hm (by omega) (by rw [hmm]; simp; omega)
  have C0 := popB_cases (ys := ys) hmm
  have HP := Lib.hid P0
  have HC := Lib.hid C0
  clear h hmm P0 C0
  go_enter Try.func17, Try.ntmps17
  go_wp2_with fail
  refine (marks_any _ H.out).mono ?_
  rintro e w1 ⟨rfl, rfl⟩
  go_wp2_with fail
  refine HP.out.mono ?_
  rintro e w2 ⟨rfl, hleft⟩
  have hstart : BackRel w B sb vl vm xs (ms ++ [(xs.length : Int)]) (.bool (popB (xs ++ ys) (ms ++ [(xs.length : Int)]))) ys.dropLast w2 := by
    rcases HC.out with ⟨h1, h2, h3⟩ | ⟨h1, h2, h3⟩
    · subst h1
      exact ⟨by rw [h3] at hleft; exact hleft, hl, .inr ⟨by rw [h2], rfl⟩⟩
    · refine ⟨by rw [h3] at hleft; exact hleft, ?_, .inl (by rw [h2])⟩
      simp at hl ⊢
      omega
  have HS := Lib.hid hstart
  clear hstart hleft HP HC
  generalize popB (xs ++ ys) (ms ++ [(xs.length : Int)]) = b0 at *
  generalize popV (xs ++ ys) (ms ++ [(xs.length : Int)]) = v0 at *
  go_wp2_with fail
  go_loopw [4] (fun v wr => ∃ zs, BackRel w B sb vl vm xs (ms ++ [(xs.length : Int)]) v zs wr) (fun v wr => lenAt wr sb + bitOf v)
  case atStart => exact ⟨_, HS.out⟩
  case round =>
    obtain ⟨zs, ⟨vl1, vm1, hst, htch⟩, hle, hok⟩ := hrel
    have hst' := Lib.hid hst
    have htch' := Lib.hid htch
    have L1 := Lib.hid (lenAt_stk hst)
    have C1 := Lib.hid (popB_cases (ys := zs) HF.out)
    clear hst htch
    rcases hok with rfl | ⟨rfl, rfl⟩
    · go_wp2_with fail
      refine (pop_any _ hst'.out hle hm (by rw [HF.out]; omega) (by rw [HF.out]; simp; omega)).mono ?_
      rintro e w3 ⟨rfl, hl3⟩
      have hnext : (∃ zs', BackRel w B sb vl vm xs (ms ++ [(xs.length : Int)]) (.bool (popB (xs ++ zs) (ms ++ [(xs.length : Int)]))) zs' w3) ∧ lenAt w3 sb + bitOf (.bool (popB (xs ++ zs) (ms ++ [(xs.length : Int)]))) < lenAt wr sb + bitOf (.bool true) := by
        rw [L1.out]
        have hh := Left.trans htch'.out hl3
        obtain ⟨_, _, k1, _⟩ := hl3
        have e1 := lenAt_stk k1
        rcases C1.out with ⟨h1, h2, h3⟩ | ⟨h1, h2, h3⟩
        · rw [h2, e1, h3]
          rw [h3] at hh
          exact ⟨⟨zs, hh, hle, .inr ⟨rfl, h1⟩⟩, by simp [bitOf]⟩
        · rw [h2, e1, h3]
          rw [h3] at hh
          have : zs.dropLast.length + 1 = zs.length := by
            have := List.length_pos_iff.2 h1
            simp; omega
          refine ⟨⟨zs.dropLast, hh, ?_, .inl rfl⟩, ?_⟩
          · simp at hle ⊢; omega
          · simp [bitOf]; simp at this; omega
      have HN := Lib.hid hnext
      clear hnext hl3 L1 C1 hst' htch' HS
      generalize popB (xs ++ zs) (ms ++ [(xs.length : Int)]) = b1 at *
      generalize popV (xs ++ zs) (ms ++ [(xs.length : Int)]) = v1 at *
      go_wp2_with fail
      go_roundw
      case rel => exact HN.out.1
      case measure => exact HN.out.2
    · have c1 := hst'.out.c1
      have hf1 := hst'.out.f 1
      obtain ⟨g, c, rfl, h1, h2, _, _⟩ := hst'.out.m.some_at (by simp [ints])
      rw [ints_length, List.length_append, List.length_singleton] at c1 h1
      clear h2
      have hnn : (ms.length : Int) ≤ 1000000 := by simp at hm; omega
      clear C1
      generalize hn : ms.length = n at *
      have Hn := Lib.hid hn
      clear hn
      go_wp2_with fail
      go_region
      go_wp2_with fail
      go_ret
      have hn := Hn.out
      have hll : (ints (ms ++ [(xs.length : Int)])).length = n + 1 := by simp [ints, hn]
      have K := hst'.out
      rw [List.append_nil] at K
      have T := htch'.out
      rw [hll] at K T
      have hcut := K.m.cut (k := n) (by omega)
      rw [ints_take, ← hn, List.take_left, hn] at hcut
      obtain ⟨k1, k2⟩ := K.setM (w' := wr) hcut ⟨rfl, rfl, rfl, Nat.le_refl _, fun _ _ _ => rfl⟩ (.inl rfl)
      exact ⟨rfl, _, _, k1.kept fun _ _ => rfl, T.trans k2.drew⟩

theorem back_none (w : World) {B sb : Nat} {vl vm : Value} {xs : List Int} (h : Stk w B sb vl vm xs []) :
    Calls Try.prog 17 #[.pointer (some ⟨sb, 0, none⟩)] w fun e w' => e = .returned (.bool false) ∧ w = w' := by
  have H := Lib.hid h
  clear h
  go_enter Try.func17, Try.ntmps17
  go_wp2_with fail
  refine (marks_any _ H.out).mono ?_
  rintro e w1 ⟨rfl, rfl⟩
  go_wp2_with fail
  go_ret
  exact ⟨rfl, rfl⟩

/-! ### a nil stack -/
theorem push_nil (w : World) (x : Int) : Calls Try.prog 11 #[.pointer none, .int .i64 x] w fun e w' => e = .returned (.tuple #[]) ∧ w = w' := by
  go_enter Try.func11, Try.ntmps11
  go_wp2
  go_end0
  exact ⟨rfl, rfl⟩
theorem mark_nil (w : World) : Calls Try.prog 15 #[.pointer none] w fun e w' => e = .returned (.tuple #[]) ∧ w = w' := by
  go_enter Try.func15, Try.ntmps15
  go_wp2
  go_end0
  exact ⟨rfl, rfl⟩
theorem marks_nil (w : World) : Calls Try.prog 22 #[.pointer none] w fun e w' => e = .returned (.int .i64 0) ∧ w = w' := by
  go_enter Try.func22, Try.ntmps22
  go_wp2
  go_ret
  exact ⟨rfl, rfl⟩
theorem back_nil (w : World) : Calls Try.prog 17 #[.pointer none] w fun e w' => e = .returned (.bool false) ∧ w = w' := by
  go_enter Try.func17, Try.ntmps17
  go_wp2_with fail
  refine (marks_nil _).mono ?_
  rintro e w1 ⟨rfl, rfl⟩
  go_wp2_with fail
  go_ret
  exact ⟨rfl, rfl⟩
theorem all_nil (w : World) : Calls Try.prog 20 #[.pointer none] w fun e w' => e = .returned (.slice none 0 0) ∧ w = w' := by
  go_enter Try.func20, Try.ntmps20
  go_wp2
  go_ret
  exact ⟨rfl, rfl⟩
theorem pop_nil (w : World) : Calls Try.prog 13 #[.pointer none] w fun e w' => e = .returned (.tuple #[.int .i64 0, .bool false]) ∧ ∃ n, w' = w.drewN n := by
  go_enter Try.func13, Try.ntmps13
  go_wp2_with fail
  go_quiet (fail)
  go_wp2_with fail
  go_ret2
  exact ⟨rfl, _, rfl⟩
end Go.Proofs.Ytngiekofaeaaoaa
