/- Walks: stacks between marks, as lists one above the other; an argument of pairs. -/
import Derived.Test.YtngiekofaeaaoaaTl
import Derived.Deep.SlicePairs
import Derived.OpenShut
namespace Go.Proofs.Ytngiekofaeaaoaa
open Go.RowKit

/-- Where the marks stand. -/
def offs (Ls : List (List Int)) : List Int := (List.range Ls.length).map fun i => ((Ls.take (i + 1)).flatten.length : Int)
theorem offs_len (Ls : List (List Int)) : (offs Ls).length = Ls.length := by simp [offs]
theorem offs_snoc (Ls : List (List Int)) (L : List Int) : offs (Ls ++ [L]) = offs Ls ++ [((Ls.flatten ++ L).length : Int)] := by
  simp only [offs, List.length_append, List.length_singleton, List.range_succ, List.map_append, List.map_cons, List.map_nil]
  congr 1
  · refine List.map_congr_left fun i hi => ?_
    have := List.mem_range.1 hi
    rw [List.take_append_of_le_length (by omega)]
  · rw [List.take_of_length_le (by simp)]
    simp
theorem flo_offs (Ls : List (List Int)) : flo (offs Ls) = (Ls.flatten.length : Int) := by
  rcases List.eq_nil_or_concat Ls with rfl | ⟨Ms, L, rfl⟩
  · rfl
  · rw [List.concat_eq_append, offs_snoc, flo_snoc]
    simp

/-- Back leaves these above the last mark. -/
def backTop (Ls : List (List Int)) (top : List Int) : List Int := Ls.getLast?.getD top

theorem pop_cases {xs ys ms : List Int} (hf : flo ms = xs.length) : popV (xs ++ ys) ms = ys.getLast?.getD 0 ∧ popB (xs ++ ys) ms = !ys.isEmpty ∧ popL (xs ++ ys) ms = xs ++ ys.dropLast := by
  rcases popB_cases (ys := ys) hf with ⟨rfl, h2, h3⟩ | ⟨h1, h2, h3⟩
  · refine ⟨?_, by rw [h2]; rfl, by rw [h3]; simp⟩
    simp [popV, hf]
  · have hp : 0 < ys.length := List.length_pos_iff.2 h1
    have hq : ¬ ((xs ++ ys).length : Int) = flo ms := by rw [hf]; simp; omega
    refine ⟨?_, by rw [h2]; cases ys <;> simp_all, h3⟩
    simp only [popV, if_neg hq]
    rw [List.getLast?_append]
    cases e : ys.getLast? with
    | none => simp at e; exact absurd e h1
    | some z => simp

/-- A stack of the call's own: lists one above the other. -/
def HasB (w0 w : World) (sb : Nat) (Ls : List (List Int)) (top : List Int) : Prop := HasS w0 w sb (Ls.flatten ++ top) (offs Ls)

theorem bpush (w0 w : World) {sb : Nat} {Ls : List (List Int)} {top : List Int} (h : HasB w0 w sb Ls top) (x : Int) (hl : (Ls.flatten ++ top).length ≤ 1000000) :
    Calls Try.prog 11 #[.pointer (some ⟨sb, 0, none⟩), .int .i64 x] w fun e w' => e = .returned (.tuple #[]) ∧ HasB w0 w' sb Ls (top ++ [x]) := by
  refine (spush w0 w h x hl).mono ?_
  rintro e w' ⟨rfl, h1⟩
  exact ⟨rfl, by rw [HasB, ← List.append_assoc]; exact h1⟩
theorem bmark (w0 w : World) {sb : Nat} {Ls : List (List Int)} {top : List Int} (h : HasB w0 w sb Ls top) (hl : Ls.length ≤ 1000000) :
    Calls Try.prog 15 #[.pointer (some ⟨sb, 0, none⟩)] w fun e w' => e = .returned (.tuple #[]) ∧ HasB w0 w' sb (Ls ++ [top]) [] := by
  refine (smark w0 w h (by rw [offs_len]; exact hl)).mono ?_
  rintro e w' ⟨rfl, h1⟩
  exact ⟨rfl, by rw [HasB, offs_snoc]; simpa using h1⟩
theorem bpop (w0 w : World) {sb : Nat} {Ls : List (List Int)} {top : List Int} (h : HasB w0 w sb Ls top) (hl : (Ls.flatten ++ top).length ≤ 1000000) (hm : Ls.length ≤ 1000000) :
    Calls Try.prog 13 #[.pointer (some ⟨sb, 0, none⟩)] w fun e w' => e = .returned (.tuple #[.int .i64 (top.getLast?.getD 0), .bool (!top.isEmpty)]) ∧ HasB w0 w' sb Ls top.dropLast := by
  have hf := flo_offs Ls
  obtain ⟨h1, h2, h3⟩ := pop_cases (ys := top) hf
  exact spop w0 w h hl (by rw [offs_len]; exact hm) (by rw [hf]; omega) (by rw [hf]; simp; omega) h1 h2 h3
theorem bback (w0 w : World) {sb : Nat} {Ls : List (List Int)} {L top : List Int} (h : HasB w0 w sb (Ls ++ [L]) top) (hl : ((Ls ++ [L]).flatten ++ top).length ≤ 1000000) (hm : (Ls ++ [L]).length ≤ 1000000) :
    Calls Try.prog 17 #[.pointer (some ⟨sb, 0, none⟩)] w fun e w' => e = .returned (.bool true) ∧ HasB w0 w' sb Ls L := by
  have hh : HasS w0 w sb ((Ls.flatten ++ L) ++ top) (offs Ls ++ [((Ls.flatten ++ L).length : Int)]) := by
    have := h
    rw [HasB, offs_snoc] at this
    simpa using this
  exact sback w0 w hh (by simpa using hl) (by rw [← offs_snoc, offs_len]; exact hm)
theorem bback0 (w0 w : World) {sb : Nat} {top : List Int} (h : HasB w0 w sb [] top) :
    Calls Try.prog 17 #[.pointer (some ⟨sb, 0, none⟩)] w fun e w' => e = .returned (.bool false) ∧ w = w' := by
  obtain ⟨vl, vm, ht, _⟩ := h
  exact back_none w ht
theorem bmarks (w0 w : World) {sb : Nat} {Ls : List (List Int)} {top : List Int} (h : HasB w0 w sb Ls top) :
    Calls Try.prog 22 #[.pointer (some ⟨sb, 0, none⟩)] w fun e w' => e = .returned (.int .i64 Ls.length) ∧ w = w' := by
  obtain ⟨vl, vm, ht, _⟩ := h
  have := marks_any w ht
  rwa [offs_len] at this
/-- A new row is told, which lies beside the stack. -/
theorem ball (w0 w : World) {sb : Nat} {Ls : List (List Int)} {top : List Int} (h : HasB w0 w sb Ls top) (hl : (Ls.flatten ++ top).length ≤ 1000000) :
    Calls Try.prog 20 #[.pointer (some ⟨sb, 0, none⟩)] w (NewRow w (Ls.flatten ++ top)) := by
  obtain ⟨vl, vm, ht, _⟩ := h
  exact all_any w ht hl
theorem HasB.below0 {w0 w w' : World} {sb : Nat} {Ls : List (List Int)} {top : List Int} (h : HasB w0 w sb Ls top) (hb : Below w.heap.size w w') : HasB w0 w' sb Ls top := by
  obtain ⟨vl, vm, ht, h0⟩ := h
  exact ⟨vl, vm, ht.below hb, h0.trans (hb.mono h0.size)⟩
theorem HasB.out {w0 w : World} {sb : Nat} {Ls : List (List Int)} {top : List Int} (h : HasB w0 w sb Ls top) : Below w0.heap.size w0 w := by
  obtain ⟨_, _, _, hb⟩ := h
  exact hb

/-- How many marks a stack has. -/
def marksAt (w : World) (sb : Nat) : Nat := match w.cell? ⟨sb, 1, none⟩ with | some (.slice _ n _) => n | _ => 0
theorem marksAt_stk {w0 w : World} {sb : Nat} {Ls : List (List Int)} {top : List Int} (h : HasB w0 w sb Ls top) : marksAt w sb = Ls.length := by
  obtain ⟨vl, vm, ht, _⟩ := h
  have c1 := ht.c1
  obtain ⟨a, c, rfl⟩ := ht.m.shape
  simp [marksAt, c1, ints_length, offs_len]

/-- A slice of pairs of whole numbers that came in. -/
def Pairs (w : World) (a : Option Addr) (len : Nat) (K X : Nat → Int) : Prop :=
  ∀ i, i < len → ∃ b o, a = some ⟨b, o, none⟩ ∧ b < w.heap.size ∧ w.cell? ⟨b, o + i * 2, none⟩ = some (.int .i64 (K i)) ∧ w.cell? ⟨b, o + i * 2 + 1, none⟩ = some (.int .i64 (X i))
theorem Pairs.below {w w' : World} {a : Option Addr} {len : Nat} {K X : Nat → Int} (h : Pairs w a len K X) (hb : Below w.heap.size w w') : Pairs w' a len K X := fun i hi => by
  obtain ⟨b, o, h1, h2, h3, h4⟩ := h i hi
  exact ⟨b, o, h1, Nat.lt_of_lt_of_le h2 hb.size, (hb.cell (p := ⟨b, _, none⟩) h2).trans h3, (hb.cell (p := ⟨b, _, none⟩) h2).trans h4⟩

/-- A slice of calls of a stack, opened. -/
theorem pairs_of {H : Type} {enc : TypeId × Value → H} {w : World} {base : Nat} {spare : Nat → Bool} {held : Bool} {fuel : Nat} {a : Option Addr} {len cap : Nat} {x : DataW H × List MemPlace}
    (h : DataW.trod enc Try.prog w base spare held fuel 22 (Value.slice a len cap).cells.toList = some x) : ∃ K X, Pairs w a len K X := by
  rcases Go.Deep.open_slice_pairs Try.underlying22 Try.underlying33 (by kernel_rfl) rfl rfl (by kernel_rfl) (by kernel_rfl) h with ⟨hcs, _⟩ | ⟨y, l, c, m, n, V0, V1, D0, D1, P0, P1, hcs, _, hl, _, hm, _, hx⟩
  · simp [Value.cells] at hcs
    obtain ⟨rfl, rfl, rfl⟩ := hcs
    exact ⟨fun _ => 0, fun _ => 0, fun i hi => by omega⟩
  · simp [Value.cells] at hcs
    obtain ⟨rfl, rfl, rfl⟩ := hcs
    have hlm : len ≤ m := by rw [hm]; split <;> omega
    have each : ∀ i, i < len → ∃ q : Int × Int, w.cell? (y.add (i * 2)) = some (.int .i64 q.1) ∧ w.cell? (y.add (i * 2 + 1)) = some (.int .i64 q.2) := by
      intro i hi
      obtain ⟨e1, e2, e3, e4⟩ := hx i (by omega)
      obtain ⟨k, hk, _, _⟩ := DataW.trod_int Try.underlying3 e3
      obtain ⟨z, hz, _, _⟩ := DataW.trod_int Try.underlying3 e4
      simp at hk hz
      exact ⟨(k, z), by rw [e1, hk], by rw [e2, hz]⟩
    obtain ⟨q, hq⟩ := Go.Deep.choose_lt each
    obtain ⟨b, o, s⟩ := y
    refine ⟨fun i => (q i).1, fun i => (q i).2, fun i hi => ?_⟩
    obtain ⟨e1, e2⟩ := hq i hi
    have hq0 := (hq 0 (by omega)).1
    have hs : s = none := by
      cases s with
      | none => rfl
      | some _ => simp [Addr.add, World.cell?] at hq0; split at hq0 <;> simp at hq0
    subst hs
    have e1' : w.cell? ⟨b, o + i * 2, none⟩ = some (.int .i64 (q i).1) := by
      rw [← e1]
      rw [Go.WideShapes.add_plain]
    have e2' : w.cell? ⟨b, o + i * 2 + 1, none⟩ = some (.int .i64 (q i).2) := by
      rw [← e2]
      rw [Go.WideShapes.add_plain, Nat.add_assoc]
    exact ⟨b, o, rfl, World.block_lt_of_cell? w _ e1', e1', e2'⟩
end Go.Proofs.Ytngiekofaeaaoaa
