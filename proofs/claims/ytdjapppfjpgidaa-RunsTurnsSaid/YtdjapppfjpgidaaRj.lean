/- Walks: Substr, At. -/
import Derived.Test.YtdjapppfjpgidaaRi
namespace Go.Proofs.Ytdjapppfjpgidaa
open Go.RowKit Go.Shelf

/-- A piece of a text. -/
def substr (rs : List Run) (i m : Int) : List Run := if may rs = true ∧ 0 ≤ i ∧ i < sz rs ∧ 1 ≤ m then cuts i (i + min m (sz rs - i)) (places rs rs.length) else []
/-- Runs are answered, in new memory. -/
def NewR (w : World) (rs : List Run) (e : Ending) (w' : World) : Prop := ∃ a c, e = .returned (.slice a rs.length c) ∧ Rr w' (fun k => w.heap.size ≤ k) (.slice a rs.length c) rs ∧ Below w.heap.size w w'
theorem Fresh.new {w w' : World} {rs : List Run} {e : Ending} (h : Fresh w rs e w') : NewR w rs e w' := by
  obtain ⟨a, c, h1, h2, h3⟩ := h
  exact ⟨a, c, h1, h2.rr, h3⟩

set_option maxHeartbeats 1000000 in
theorem substr_none {w : World} {P : Nat → Prop} {v : Value} {rs : List Run} (h : Rr w P v rs) (i m : Int) (hc : i < 0 ∨ len rs ≤ i ∨ m < 1) :
    Calls Try.prog 13 #[v, .int .i64 i, .int .i64 m] w (NewR w []) := by
  have HL := Lib.hid fun (w1 : World) (hb : Below w.heap.size w w1) => len_any (h.below hb)
  obtain ⟨a, c, rfl, _⟩ := h.shape
  clear h
  generalize len rs = A at *
  by_cases h1 : i < 0
  · clear hc
    go_enter Try.func13, Try.ntmps13
    go_wp2_with fail
    refine (HL.out _ ((Below.refl _ _).alloc (Nat.le_refl _) _)).mono ?_
    rintro e w1 ⟨rfl, hb⟩
    have q0 := (hb.cell (p := ⟨w.heap.size, 0, none⟩) (by simp)).trans (show (w.alloc (.cells #[.int .i64 i] 3)).cell? ⟨w.heap.size, 0, none⟩ = some (.int .i64 i) by simp)
    have HB : Hid (Below w.heap.size w w1) := ((Below.refl _ _).alloc (Nat.le_refl _) _).trans (hb.mono (by simp))
    clear hb
    go_wp2_with fail
    go_ret
    exact ⟨none, 0, rfl, Rr.nil _ _, HB.out⟩
  · by_cases h2 : A ≤ i
    · clear hc
      go_enter Try.func13, Try.ntmps13
      go_wp2_with fail
      refine (HL.out _ ((Below.refl _ _).alloc (Nat.le_refl _) _)).mono ?_
      rintro e w1 ⟨rfl, hb⟩
      have q0 := (hb.cell (p := ⟨w.heap.size, 0, none⟩) (by simp)).trans (show (w.alloc (.cells #[.int .i64 i] 3)).cell? ⟨w.heap.size, 0, none⟩ = some (.int .i64 i) by simp)
      have HB : Hid (Below w.heap.size w w1) := ((Below.refl _ _).alloc (Nat.le_refl _) _).trans (hb.mono (by simp))
      clear hb
      go_wp2_with fail
      go_ret
      exact ⟨none, 0, rfl, Rr.nil _ _, HB.out⟩
    · have h3 : m < 1 := by omega
      clear hc
      go_enter Try.func13, Try.ntmps13
      go_wp2_with fail
      refine (HL.out _ ((Below.refl _ _).alloc (Nat.le_refl _) _)).mono ?_
      rintro e w1 ⟨rfl, hb⟩
      have q0 := (hb.cell (p := ⟨w.heap.size, 0, none⟩) (by simp)).trans (show (w.alloc (.cells #[.int .i64 i] 3)).cell? ⟨w.heap.size, 0, none⟩ = some (.int .i64 i) by simp)
      have HB : Hid (Below w.heap.size w w1) := ((Below.refl _ _).alloc (Nat.le_refl _) _).trans (hb.mono (by simp))
      clear hb
      go_wp2_with fail
      go_ret
      exact ⟨none, 0, rfl, Rr.nil _ _, HB.out⟩

theorem substr_any {w : World} {P : Nat → Prop} {v : Value} {rs : List Run} (h : Rr w P v rs) (i m : Int) (hm2 : m ≤ 9223372036854775807) :
    Calls Try.prog 13 #[v, .int .i64 i, .int .i64 m] w (NewR w (substr rs i m)) := by
  by_cases hc : may rs = true ∧ 0 ≤ i ∧ i < sz rs ∧ 1 ≤ m
  · rw [substr, if_pos hc]
    obtain ⟨a, c, rfl, _⟩ := h.shape
    refine (callsIn_wide.1 (substr_in w a rs.length c rs (h.mono fun _ hk _ => hk) hc.1 i m hc.2.1 hc.2.2.1 hc.2.2.2 hm2)).mono ?_
    rintro e w' ⟨ra, rc, h1, h2, h3⟩
    exact ⟨ra, rc, h1, h2, h3⟩
  · rw [substr, if_neg hc]
    refine substr_none h i m ?_
    rcases Int.lt_or_le i 0 with h1 | h1
    · exact .inl h1
    rcases Int.lt_or_le m 1 with h2 | h2
    · exact .inr (.inr h2)
    refine .inr (.inl ?_)
    cases hmay : may rs with
    | true =>
      have : len rs = sz rs := by simp [len, hmay]
      rw [this]
      rcases Int.lt_or_le i (sz rs) with h3 | h3
      · exact absurd ⟨hmay, h1, h3, h2⟩ hc
      · exact h3
    | false => simpa [len, hmay] using h1

theorem at_any {w : World} {P : Nat → Prop} {v : Value} {rs : List Run} (h : Rr w P v rs) (i : Int) : Calls Try.prog 15 #[v, .int .i64 i] w (NewR w (substr rs i 1)) := by
  have HS := Lib.hid (substr_any h i 1 (by omega))
  obtain ⟨a, c, rfl, _⟩ := h.shape
  clear h
  generalize substr rs i 1 = out at *
  go_enter Try.func15, Try.ntmps15
  go_wp2_with fail
  refine HS.out.mono ?_
  rintro e w1 ⟨ra, rc, rfl, h2, h3⟩
  have H := Lib.hid (And.intro h2 h3)
  clear h2 h3
  go_wp2_with fail
  go_ret
  exact ⟨ra, rc, rfl, H.out.1, H.out.2⟩
end Go.Proofs.Ytdjapppfjpgidaa
