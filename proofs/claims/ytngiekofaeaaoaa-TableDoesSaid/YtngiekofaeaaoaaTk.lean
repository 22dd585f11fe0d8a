/- Walks: the chapter's examples of package table. -/
import Derived.Test.YtngiekofaeaaoaaTi
import Derived.Test.YtngiekofaeaaoaaTs
namespace Go.Proofs.Ytngiekofaeaaoaa
open Go.RowKit

theorem Left.below {w w' : World} {B sb : Nat} {vl vm : Value} {xs ms xs' ms' : List Int} (h : Stk w B sb vl vm xs ms) (hl : Left w B sb vl vm xs' ms' w') (hs : B ≤ w.heap.size) : Below B w w' := by
  obtain ⟨_, _, _, ht⟩ := hl
  exact ht.below (fun k hk => (h.foot hk).1) hs

/-- A new stack. -/
theorem Stk.fresh (w : World) {B : Nat} (hB : B ≤ w.heap.size) : Stk (w.alloc (.cells #[.slice none 0 0, .slice none 0 0] 27)) B w.heap.size (.slice none 0 0) (.slice none 0 0) [] [] :=
  ⟨heap_alloc_new w _, hB, Own.nil _ _ _, Own.nil _ _ _, by simp [Value.ownBlock], by simp [Value.ownBlock], by simp [Value.ownBlock]⟩

/-- A table that is to be had, whatever its blocks. -/
def HasT (w0 w : World) (tb : Nat) (ks : List ByteArray) (N : Nat) : Prop := ∃ vl vm, TS.Tbl w w0.heap.size tb vl vm ks N ∧ Below w0.heap.size w0 w
def HasS (w0 w : World) (sb : Nat) (xs ms : List Int) : Prop := ∃ vl vm, Stk w w0.heap.size sb vl vm xs ms ∧ Below w0.heap.size w0 w

theorem HasT.left {w0 w w' : World} {tb N N' : Nat} {vl vm : Value} {ks ks' : List ByteArray} (h : TS.Tbl w w0.heap.size tb vl vm ks N) (hb : Below w0.heap.size w0 w) (hl : TS.LeftT w w0.heap.size tb vl vm ks' N' w') : HasT w0 w' tb ks' N' := by
  have hb' := hl.below h hb.size
  obtain ⟨vl', vm', k1, _⟩ := hl
  exact ⟨vl', vm', k1, hb.trans hb'⟩
theorem HasS.left {w0 w w' : World} {sb : Nat} {vl vm : Value} {xs ms xs' ms' : List Int} (h : Stk w w0.heap.size sb vl vm xs ms) (hb : Below w0.heap.size w0 w) (hl : Left w w0.heap.size sb vl vm xs' ms' w') : HasS w0 w' sb xs' ms' := by
  have hb' := hl.below h hb.size
  obtain ⟨vl', vm', k1, _⟩ := hl
  exact ⟨vl', vm', k1, hb.trans hb'⟩

/-- Contracts of calls on a table, or a stack, of the call's own. -/
theorem sadd (w0 w : World) {tb N : Nat} {ks : List ByteArray} (h : HasT w0 w tb ks N) (k : ByteArray) (hk : TS.okk k) (hl : ks.length ≤ 1000000) (hN : N ≤ 1000000) {i : Int} {b : Bool} {ks' : List ByteArray} (h1 : TS.addI ks k = i) (h2 : TS.addB ks k = b) (h3 : TS.addL ks k = ks') :
    Calls Try.prog 29 #[.pointer (some ⟨tb, 0, none⟩), .string k] w fun e w' => e = .returned (.tuple #[.int .i64 i, .bool b]) ∧ HasT w0 w' tb ks' (N + 1) := by
  obtain ⟨vl, vm, ht, hb⟩ := h
  refine (TS.add_any w ht hk hl hN).mono ?_
  rintro e w' ⟨rfl, hleft⟩
  rw [h1, h2]
  rw [h3] at hleft
  exact ⟨rfl, HasT.left ht hb hleft⟩
theorem scut (w0 w : World) {tb N : Nat} {ks : List ByteArray} (h : HasT w0 w tb ks N) (n : Int) (hl : ks.length ≤ 1000000) :
    Calls Try.prog 27 #[.pointer (some ⟨tb, 0, none⟩), .int .i64 n] w fun e w' => e = .returned (.tuple #[]) ∧ HasT w0 w' tb (ks.take n.toNat) N := by
  obtain ⟨vl, vm, ht, hb⟩ := h
  refine (TS.cut_any w ht n hl).mono ?_
  rintro e w' ⟨rfl, hleft⟩
  exact ⟨rfl, HasT.left ht hb hleft⟩
theorem spush (w0 w : World) {sb : Nat} {xs ms : List Int} (h : HasS w0 w sb xs ms) (x : Int) (hl : xs.length ≤ 1000000) :
    Calls Try.prog 11 #[.pointer (some ⟨sb, 0, none⟩), .int .i64 x] w fun e w' => e = .returned (.tuple #[]) ∧ HasS w0 w' sb (xs ++ [x]) ms := by
  obtain ⟨vl, vm, ht, hb⟩ := h
  refine (push_any w x ht hl).mono ?_
  rintro e w' ⟨rfl, hleft⟩
  exact ⟨rfl, HasS.left ht hb hleft⟩
theorem smark (w0 w : World) {sb : Nat} {xs ms : List Int} (h : HasS w0 w sb xs ms) (hl : ms.length ≤ 1000000) :
    Calls Try.prog 15 #[.pointer (some ⟨sb, 0, none⟩)] w fun e w' => e = .returned (.tuple #[]) ∧ HasS w0 w' sb xs (ms ++ [(xs.length : Int)]) := by
  obtain ⟨vl, vm, ht, hb⟩ := h
  refine (mark_any w ht hl).mono ?_
  rintro e w' ⟨rfl, hleft⟩
  exact ⟨rfl, HasS.left ht hb hleft⟩
theorem spop (w0 w : World) {sb : Nat} {L ms : List Int} (h : HasS w0 w sb L ms) (hl : L.length ≤ 1000000) (hm : ms.length ≤ 1000000) (h0 : 0 ≤ flo ms) (he : flo ms ≤ (L.length : Int)) {v : Int} {b : Bool} {L' : List Int} (h1 : popV L ms = v) (h2 : popB L ms = b) (h3 : popL L ms = L') :
    Calls Try.prog 13 #[.pointer (some ⟨sb, 0, none⟩)] w fun e w' => e = .returned (.tuple #[.int .i64 v, .bool b]) ∧ HasS w0 w' sb L' ms := by
  obtain ⟨vl, vm, ht, hb⟩ := h
  refine (pop_any w ht hl hm h0 he).mono ?_
  rintro e w' ⟨rfl, hleft⟩
  rw [h1, h2]
  rw [h3] at hleft
  exact ⟨rfl, HasS.left ht hb hleft⟩
theorem sback (w0 w : World) {sb : Nat} {xs ys ms : List Int} (h : HasS w0 w sb (xs ++ ys) (ms ++ [(xs.length : Int)])) (hl : (xs ++ ys).length ≤ 1000000) (hm : (ms ++ [(xs.length : Int)]).length ≤ 1000000) :
    Calls Try.prog 17 #[.pointer (some ⟨sb, 0, none⟩)] w fun e w' => e = .returned (.bool true) ∧ HasS w0 w' sb xs ms := by
  obtain ⟨vl, vm, ht, hb⟩ := h
  refine (back_some w ht hl hm).mono ?_
  rintro e w' ⟨rfl, hleft⟩
  exact ⟨rfl, HasS.left ht hb hleft⟩

set_option maxHeartbeats 1000000 in
theorem awake_any (w : World) : Calls Try.prog 9 #[] w fun e w' => e = .returned (.bool true) ∧ Below w.heap.size w w' := by
  have T0 : Hid (HasT w (w.alloc (.cells #[.slice none 0 0, .map none] 60)) w.heap.size [] 0) := ⟨_, _, TS.Tbl.fresh w (Nat.le_refl _), (Below.refl _ _).alloc (Nat.le_refl _) _⟩
  go_enter Try.func9, Try.ntmps9
  go_wp2_with fail
  refine (sadd w _ T0.out ⟨#[97]⟩ (by show 1 ≤ maxLen; unfold maxLen; omega) (by simp) (by simp) (i := 0) (b := true) (ks' := [⟨#[97]⟩]) (by decide) (by decide) (by decide)).mono ?_
  rintro e w1 ⟨rfl, T1⟩
  replace T1 := Lib.hid T1
  go_wp2_with fail
  refine (sadd w _ T1.out ⟨#[98]⟩ (by show 1 ≤ maxLen; unfold maxLen; omega) (by simp) (by simp) (i := 1) (b := true) (ks' := [⟨#[97]⟩, ⟨#[98]⟩]) (by decide) (by decide) (by decide)).mono ?_
  rintro e w2 ⟨rfl, T2⟩
  replace T2 := Lib.hid T2
  go_wp2_with fail
  refine (sadd w _ T2.out ⟨#[97]⟩ (by show 1 ≤ maxLen; unfold maxLen; omega) (by simp) (by simp) (i := 0) (b := false) (ks' := [⟨#[97]⟩, ⟨#[98]⟩]) (by decide) (by decide) (by decide)).mono ?_
  rintro e w3 ⟨rfl, T3⟩
  replace T3 := Lib.hid T3
  go_wp2_with fail
  refine (scut w _ T3.out 1 (by simp)).mono ?_
  rintro e w4 ⟨rfl, T4⟩
  replace T4 := Lib.hid T4
  go_wp2_with fail
  refine (sadd w _ T4.out ⟨#[99]⟩ (by show 1 ≤ maxLen; unfold maxLen; omega) (by simp) (by simp) (i := 1) (b := true) (ks' := [⟨#[97]⟩, ⟨#[99]⟩]) (by decide) (by decide) (by decide)).mono ?_
  rintro e w5 ⟨rfl, T5⟩
  have S0 : Hid (HasS w (w5.alloc (.cells #[.slice none 0 0, .slice none 0 0] 27)) w5.heap.size [] []) := by
    obtain ⟨_, _, _, hb⟩ := T5
    exact ⟨_, _, Stk.fresh w5 hb.size, hb.alloc hb.size _⟩
  clear T0 T1 T2 T3 T4 T5
  go_wp2_with fail
  refine (spush w _ S0.out 1 (by simp)).mono ?_
  rintro e w6 ⟨rfl, S1⟩
  replace S1 := Lib.hid S1
  go_wp2_with fail
  refine (smark w _ S1.out (by simp)).mono ?_
  rintro e w7 ⟨rfl, S2⟩
  replace S2 := Lib.hid S2
  go_wp2_with fail
  refine (spush w _ S2.out 2 (by simp)).mono ?_
  rintro e w8 ⟨rfl, S3⟩
  replace S3 := Lib.hid S3
  go_wp2_with fail
  refine (spop w _ S3.out (by simp) (by simp) (by decide) (by decide) (v := 2) (b := true) (L' := [1]) (by decide) (by decide) (by decide)).mono ?_
  rintro e w9 ⟨rfl, S4⟩
  replace S4 := Lib.hid S4
  go_wp2_with fail
  refine (spop w _ S4.out (by simp) (by simp) (by decide) (by decide) (v := 0) (b := false) (L' := [1]) (by decide) (by decide) (by decide)).mono ?_
  rintro e w10 ⟨rfl, S5⟩
  replace S5 := Lib.hid S5
  go_wp2_with fail
  refine (sback w _ (xs := [1]) (ys := []) (ms := []) S5.out (by simp) (by simp)).mono ?_
  rintro e w11 ⟨rfl, vl, vm, S6, hb⟩
  have S7 := Lib.hid S6
  have HB := Lib.hid hb
  clear S0 S1 S2 S3 S4 S5 S6 hb
  go_wp2_with fail
  refine (all_any _ S7.out (by simp)).mono ?_
  rintro e w12 ⟨v, rfl, hr, hb2⟩
  obtain ⟨a, c, rfl⟩ := hr.shape
  have HB2 := Lib.hid (HB.out.trans (hb2.mono HB.out.size))
  clear hr hb2
  simp only [ints, List.map_cons, List.map_nil, List.length_cons, List.length_nil, Nat.zero_add]
  go_wp2_with fail
  go_ret
  exact ⟨rfl, HB2.out⟩
end Go.Proofs.Ytngiekofaeaaoaa
