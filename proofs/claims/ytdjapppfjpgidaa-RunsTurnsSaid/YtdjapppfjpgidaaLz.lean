/- A slice of runs that came in, opened. -/
import Derived.Test.YtdjapppfjpgidaaRu
import Derived.Deep.SlicePairs
namespace Go.Proofs.Ytdjapppfjpgidaa
open Go.RowKit

theorem runs_of {H : Type} {enc : TypeId × Value → H} {w : World} {base : Nat} {spare : Nat → Bool} {held : Bool} {fuel : Nat} {a : Option Addr} {len cap : Nat} {x : DataW H × List MemPlace}
    (h : DataW.trod enc Try.prog w base spare held fuel 22 (Value.slice a len cap).cells.toList = some x) : ∃ s : List Run, Rr w (fun _ => True) (.slice a len cap) s := by
  rcases Go.Deep.open_slice_pairs Try.underlying22 Try.underlying38 (by kernel_rfl) rfl rfl (by kernel_rfl) (by kernel_rfl) h with ⟨hcs, _⟩ | ⟨y, l, c, m, n, V0, V1, D0, D1, P0, P1, hcs, _, hl, _, hm, _, hx⟩
  · simp [Value.cells] at hcs
    obtain ⟨rfl, rfl, rfl⟩ := hcs
    exact ⟨[], Rr.nil _ _⟩
  · simp [Value.cells] at hcs
    obtain ⟨rfl, rfl, rfl⟩ := hcs
    have hlm : len ≤ m := by rw [hm]; split <;> omega
    have each : ∀ i, i < len → ∃ q : Int × Int, w.cell? (y.add (i * 2)) = some (.int .i64 q.1) ∧ w.cell? (y.add (i * 2 + 1)) = some (.int .i64 q.2) := by
      intro i hi
      obtain ⟨e1, e2, e3, e4⟩ := hx i (by omega)
      obtain ⟨k, hk, _, _⟩ := DataW.trod_int Try.underlying3 e3
      obtain ⟨z, hz, _, _⟩ := DataW.trod_int Try.underlying3 e4
      simp at hk hz
      exact ⟨(k, z), by rw [e1, hk], by rw [e2, hz]⟩
    obtain ⟨q, hq⟩ := Go.Deep.choose_lt each
    obtain ⟨b, o, s⟩ := y
    refine ⟨(List.range len).map q, some ⟨b, o, s⟩, cap, by simp, by simpa using hl, by simp, fun i hi => ?_⟩
    have hi2 : i < len := by simpa using hi
    obtain ⟨e1, e2⟩ := hq i hi2
    have hq0 := (hq 0 (by omega)).1
    have hs : s = none := by
      cases s with
      | none => rfl
      | some _ => simp [Addr.add, World.cell?] at hq0; split at hq0 <;> simp at hq0
    subst hs
    have e1' : w.cell? ⟨b, o + i * 2, none⟩ = some (.int .i64 (q i).1) := by
      rw [← e1]
      rw [Go.WideShapes.add_plain]
    have e2' : w.cell? ⟨b, o + i * 2 + 1, none⟩ = some (.int .i64 (q i).2) := by
      rw [← e2]
      rw [Go.WideShapes.add_plain, Nat.add_assoc]
    have e3 : ((List.range len).map q).getD i (0, 0) = q i := by
      rw [List.getD_eq_getElem?_getD, List.getElem?_map, List.getElem?_range hi2]
      rfl
    rw [e3]
    exact ⟨b, o, rfl, trivial, World.block_lt_of_cell? w _ e1', e1', e2'⟩
end Go.Proofs.Ytdjapppfjpgidaa
