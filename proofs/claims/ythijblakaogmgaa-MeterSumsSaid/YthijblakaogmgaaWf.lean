/- Walks: MeterDoes, MeterWithin, MeterSums where the slice is long, or has nothing. -/
import Derived.Test.YthijblakaogmgaaWe
namespace Go.Proofs.Ythijblakaogmgaa
open Go.Conc Go.RowKit

theorem does_long (bud : Int) (a : Option Addr) (len cap : Nat) (w : World) (hlen : 300 < len) :
    Calls Try.prog 3 #[.int .i64 bud, .slice a len cap] w fun e w' => e = .returned (.bool true) ∧ Below w.heap.size w w' := by
  have hd : decide ((300 : Int) < (len : Int)) = true := by simp; omega
  go_enter Try.func3, Try.ntmps3
  go_wp2_with fail
  refine (awake_any _).mono ?_
  rintro e w1 ⟨rfl, hb1⟩
  go_wp2_with fail
  refine (new_any _ _).mono ?_
  rintro e w2 ⟨rfl, rfl⟩
  have hbx := made_below w1 bud
  generalize made w1 bud = w2 at *
  go_wp2_with fail
  go_ret
  exact ⟨rfl, hb1.trans (hbx.mono hb1.size)⟩

theorem does_zero (bud : Int) (a : Option Addr) (cap : Nat) (w : World) :
    Calls Try.prog 3 #[.int .i64 bud, .slice a 0 cap] w fun e w' => e = .returned (.bool true) ∧ Below w.heap.size w w' := by
  go_enter Try.func3, Try.ntmps3
  go_wp2_with fail
  refine (awake_any _).mono ?_
  rintro e w1 ⟨rfl, hb1⟩
  go_wp2_with fail
  refine (new_any _ _).mono ?_
  rintro e w2 ⟨rfl, rfl⟩
  have hbx := made_below w1 bud
  generalize made w1 bud = w2 at *
  go_wp2_with fail
  refine wp_loop_rounds 1 ?_
  rw [rounds_succ]
  go_wp2_with fail
  go_ret
  exact ⟨rfl, (hb1.trans (hbx.mono hb1.size)).alloc (Nat.le_trans hb1.size hbx.size) _⟩

theorem within_long (bud : Int) (a : Option Addr) (len cap : Nat) (w : World) (hlen : 300 < len) :
    Calls Try.prog 4 #[.int .i64 bud, .slice a len cap] w fun e w' => e = .returned (.bool true) ∧ Below w.heap.size w w' := by
  have hd : decide ((300 : Int) < (len : Int)) = true := by simp; omega
  go_enter Try.func4, Try.ntmps4
  go_wp2_with fail
  refine (awake_any _).mono ?_
  rintro e w1 ⟨rfl, hb1⟩
  go_wp2_with fail
  refine (new_any _ _).mono ?_
  rintro e w2 ⟨rfl, rfl⟩
  have hbx := made_below w1 bud
  generalize made w1 bud = w2 at *
  go_wp2_with fail
  go_ret
  exact ⟨rfl, hb1.trans (hbx.mono hb1.size)⟩

theorem within_zero (bud : Int) (a : Option Addr) (cap : Nat) (w : World) :
    Calls Try.prog 4 #[.int .i64 bud, .slice a 0 cap] w fun e w' => e = .returned (.bool true) ∧ Below w.heap.size w w' := by
  go_enter Try.func4, Try.ntmps4
  go_wp2_with fail
  refine (awake_any _).mono ?_
  rintro e w1 ⟨rfl, hb1⟩
  go_wp2_with fail
  refine (new_any _ _).mono ?_
  rintro e w2 ⟨rfl, rfl⟩
  have hbx := made_below w1 bud
  generalize made w1 bud = w2 at *
  go_wp2_with fail
  refine wp_loop_rounds 1 ?_
  rw [rounds_succ]
  go_wp2_with fail
  go_ret
  exact ⟨rfl, hb1.trans (hbx.mono hb1.size)⟩

theorem sums_long (bud : Int) (a : Option Addr) (len cap : Nat) (w : World) (hlen : 300 < len) :
    Calls Try.prog 7 #[.int .i64 bud, .slice a len cap] w fun e w' => e = .returned (.bool true) ∧ Below w.heap.size w w' := by
  have hd : decide ((300 : Int) < (len : Int)) = true := by simp; omega
  go_enter Try.func7, Try.ntmps7
  go_wp2_with fail
  refine (awake_any _).mono ?_
  rintro e w1 ⟨rfl, hb1⟩
  go_wp2_with fail
  refine (new_any _ _).mono ?_
  rintro e w2 ⟨rfl, rfl⟩
  have hbx := made_below w1 bud
  generalize made w1 bud = w2 at *
  go_wp2_with fail
  go_ret
  exact ⟨rfl, hb1.trans (hbx.mono hb1.size)⟩

theorem sums_zero (bud : Int) (a : Option Addr) (cap : Nat) (w : World) :
    Calls Try.prog 7 #[.int .i64 bud, .slice a 0 cap] w fun e w' => e = .returned (.bool true) ∧ Below w.heap.size w w' := by
  go_enter Try.func7, Try.ntmps7
  go_wp2_with fail
  refine (awake_any _).mono ?_
  rintro e w1 ⟨rfl, hb1⟩
  go_wp2_with fail
  refine (new_any _ _).mono ?_
  rintro e w2 ⟨rfl, rfl⟩
  have hx := Lib.hid (made_meter w1 bud)
  have hbx := made_below w1 bud
  generalize made w1 bud = w2 at *
  go_wp2_with fail
  refine wp_loop_rounds 1 ?_
  rw [rounds_succ]
  go_wp2_with fail
  refine (spent_any _ hx.out).mono ?_
  rintro e w3 ⟨rfl, rfl⟩
  go_wp2_with fail
  go_ret
  exact ⟨rfl, hb1.trans (hbx.mono hb1.size)⟩

/-- A slice that came in: nothing, or a row. -/
theorem row_at {w : World} {a : Option Addr} {len cap : Nat} {zs : List Int} (hpos : 0 < len)
    (h : (a = none ∧ len = 0 ∧ cap = 0 ∧ zs = []) ∨ ∃ x, a = some x ∧ len ≤ cap ∧ cap ≤ maxLen ∧ zs.length = cap ∧ (∀ i, i < zs.length → w.cell? (x.add i) = some (.int .i64 (zs.getD i 0))) ∧ ∀ n ∈ zs, (Lit.int .i64 n).wf = true) :
    ∃ b o, a = some ⟨b, o, none⟩ ∧ RowAt w b o len zs := by
  rcases h with ⟨_, h, _⟩ | ⟨x, rfl, hl, _, hz, hc, _⟩
  · omega
  · obtain ⟨b, o, s⟩ := x
    have h0 := hc 0 (by omega)
    have hs : s = none := by
      cases s with
      | none => rfl
      | some _ => simp [Addr.add, World.cell?] at h0; split at h0 <;> simp at h0
    subst hs
    refine ⟨b, o, rfl, World.block_lt_of_cell? w _ h0, fun i hi => by have := hc i (by omega); rw [← this]; by_cases hi0 : i = 0 <;> simp [Addr.add, hi0]⟩

theorem does_all (bud : Int) (a : Option Addr) (len cap : Nat) (zs : List Int) (w : World) (hu : bud ≤ 9223372036854775807)
    (h : (a = none ∧ len = 0 ∧ cap = 0 ∧ zs = []) ∨ ∃ x, a = some x ∧ len ≤ cap ∧ cap ≤ maxLen ∧ zs.length = cap ∧ (∀ i, i < zs.length → w.cell? (x.add i) = some (.int .i64 (zs.getD i 0))) ∧ ∀ n ∈ zs, (Lit.int .i64 n).wf = true) :
    Calls Try.prog 3 #[.int .i64 bud, .slice a len cap] w fun e w' => e = .returned (.bool true) ∧ Below w.heap.size w w' := by
  by_cases hpos : 0 < len
  · by_cases hlen : len ≤ 300
    · obtain ⟨b, o, rfl, hr⟩ := row_at hpos h
      exact does_walk bud b o len cap zs w hu hpos hlen hr
    · exact does_long bud a len cap w (by omega)
  · obtain rfl : len = 0 := by omega
    exact does_zero bud a cap w
end Go.Proofs.Ythijblakaogmgaa
