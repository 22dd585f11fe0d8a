/- Walks: TableCuts. -/
import Derived.Test.YtngiekofaeaaoaaTl
import Derived.OpenShut
namespace Go.Proofs.Ytngiekofaeaaoaa
open Go.RowKit

/-- A slice of whole numbers that came in: its elements are zs. -/
structure Arg (w : World) (a : Option Addr) (len : Nat) (zs : List Int) : Prop where
  hlen : zs.length = len
  ok : ∀ x ∈ zs, TI.okk x
  cell : ∀ i, i < len → ∃ b o, a = some ⟨b, o, none⟩ ∧ b < w.heap.size ∧ w.cell? ⟨b, o + i, none⟩ = some (.int .i64 (zs.getD i 0))

theorem Arg.below {w w' : World} {a : Option Addr} {len : Nat} {zs : List Int} (h : Arg w a len zs) (hb : Below w.heap.size w w') : Arg w' a len zs :=
  ⟨h.hlen, h.ok, fun i hi => by
    obtain ⟨b, o, h1, h2, h3⟩ := h.cell i hi
    exact ⟨b, o, h1, Nat.lt_of_lt_of_le h2 hb.size, (hb.cell (p := ⟨b, o + i, none⟩) h2).trans h3⟩⟩
theorem Arg.get {w : World} {a : Option Addr} {len : Nat} {zs : List Int} (h : Arg w a len zs) {i : Nat} (hi : i < len) : TI.okk (zs.getD i 0) := by
  have hl : i < zs.length := by rw [h.hlen]; exact hi
  rw [List.getD_eq_getElem?_getD, List.getElem?_eq_getElem hl]
  exact h.ok _ (List.getElem_mem hl)
theorem Arg.of {w : World} {a : Option Addr} {len cap : Nat} {zs : List Int}
    (h : (a = none ∧ len = 0 ∧ cap = 0 ∧ zs = []) ∨ ∃ x, a = some x ∧ len ≤ cap ∧ cap ≤ maxLen ∧ zs.length = cap ∧ (∀ i, i < zs.length → w.cell? (x.add i) = some (.int .i64 (zs.getD i 0))) ∧ ∀ n ∈ zs, (Lit.int .i64 n).wf = true) :
    Arg w a len (zs.take len) := by
  rcases h with ⟨rfl, rfl, _, rfl⟩ | ⟨x, rfl, hl, _, hz, hc, hw⟩
  · exact ⟨rfl, by simp, fun i hi => by omega⟩
  · refine ⟨by simp; omega, fun y hy => hw y (List.mem_of_mem_take hy), fun i hi => ?_⟩
    obtain ⟨b, o, s⟩ := x
    have h0 := hc i (by omega)
    have hz0 := hc 0 (by omega)
    have hs : s = none := by
      cases s with
      | none => rfl
      | some _ => simp [Addr.add, World.cell?] at hz0; split at hz0 <;> simp at hz0
    subst hs
    have h1 : w.cell? ⟨b, o + i, none⟩ = some (.int .i64 ((zs.take len).getD i 0)) := by
      rw [List.getD_eq_getElem?_getD, List.getElem?_take, if_pos hi, ← List.getD_eq_getElem?_getD, ← h0]
      by_cases hi0 : i = 0 <;> simp [Addr.add, hi0]
    exact ⟨b, o, rfl, World.block_lt_of_cell? w _ h1, h1⟩

theorem getD_snoc (zs : List Int) (k : Nat) (h : k < zs.length) : zs.take (k + 1) = zs.take k ++ [zs.getD k 0] := by
  rw [List.take_succ_eq_append_getElem h]
  simp [List.getD_eq_getElem?_getD, h]

set_option maxHeartbeats 2000000 in
theorem cuts_walk (a : Option Addr) (len cap : Nat) (zs : List Int) (n k : Int) (w : World) (hr : Arg w a len zs) (hk : TI.okk k) (hlen : len ≤ 200) :
    Calls Try.prog 5 #[.slice a len cap, .int .i64 n, .int .i64 k] w fun e w' => e = .returned (.bool true) ∧ Below w.heap.size w w' := by
  have HA := Lib.hid hr
  have HK := Lib.hid hk
  have hd : decide ((200 : Int) < (len : Int)) = false := by simp; omega
  have hkl := keys_len zs
  rw [hr.hlen] at hkl
  have FF := cuts_facts (keys zs) n k
  have HF := Lib.hid FF
  clear hr hk FF
  go_enter Try.func5, Try.ntmps5
  go_wp2_with fail
  refine (awake_any _).mono ?_
  rintro e w1 ⟨rfl, hb1⟩
  have T0 : Hid (HasI w (w1.alloc (.cells #[.slice none 0 0, .map none] 52)) w1.heap.size [] 0) := ⟨_, _, TI.Tbl.fresh w1 hb1.size, hb1.alloc hb1.size _⟩
  clear hb1
  go_wp2_with fail
  obtain ⟨tb, htb⟩ : ∃ tb, tb = w1.heap.size := ⟨_, rfl⟩
  rw [← htb] at T0 ⊢
  clear htb
  go_loopw [9] (fun i wr => ∃ j : Nat, j ≤ len ∧ i = .int .i64 j ∧ HasI w wr tb (keys (zs.take j)) j) (fun i _ => len - (intOf i).toNat)
  case atStart => exact ⟨0, by omega, rfl, T0.out⟩
  case round =>
    obtain ⟨j, hj, rfl, hrel⟩ := hrel
    have HR := Lib.hid hrel
    have hAw : Hid (Arg wr a len zs) := by
      obtain ⟨_, _, _, hb⟩ := hrel
      exact HA.out.below hb
    clear hrel T0
    by_cases hlt : j < len
    · obtain ⟨b, o, rfl, _, hc⟩ := hAw.out.cell j hlt
      have hok := Lib.hid (hAw.out.get hlt)
      have hsn := Lib.hid (getD_snoc zs j (by rw [HA.out.hlen]; exact hlt))
      have hkj := Lib.hid (keys_len (zs.take j))
      go_wp2_with fail
      refine (iadd w _ HR.out _ hok.out (by have := hkj.out; simp at this; omega) (by omega) rfl rfl rfl).mono ?_
      rintro e w2 ⟨rfl, T1⟩
      have HT1 := Lib.hid T1
      clear T1
      go_wp2_with fail
      go_roundw
      case rel => exact ⟨j + 1, by omega, by go_num, by rw [hsn.out, keys_snoc]; exact HT1.out⟩
      case measure => simp [intOf]; omega
    · obtain rfl : j = len := by omega
      have HX : Hid (HasI w wr tb (keys zs) j) := by
        have := HR.out
        rwa [List.take_of_length_le (by rw [HA.out.hlen]; omega)] at this
      clear HR hAw HA
      generalize keys zs = ks at *
      go_wp2_with fail
      refine (ifind w _ HX.out k HK.out rfl rfl).mono ?_
      rintro e w2 ⟨rfl, rfl⟩
      go_wp2_with fail
      refine (ilen w _ HX.out).mono ?_
      rintro e w2 ⟨rfl, rfl⟩
      go_wp2_with fail
      refine (icut w _ HX.out n (by omega)).mono ?_
      rintro e w2 ⟨rfl, T2⟩
      have H2 := Lib.hid T2
      clear T2 HX
      go_wp2_with fail
      refine (ifind w _ H2.out k HK.out rfl rfl).mono ?_
      rintro e w3 ⟨rfl, rfl⟩
      have hl2 : (ks.take n.toNat).length ≤ 1000000 := by simp; omega
      have HL2 := Lib.hid hl2
      clear hl2
      have A1 := iadd w _ H2.out k HK.out HL2.out (by omega) (i := TI.addI (ks.take n.toNat) k) (b := TI.addB (ks.take n.toNat) k) rfl rfl rfl
      have HA1 := Lib.hid A1
      have HL := Lib.hid (ilen w _ H2.out)
      clear A1 H2
      generalize posB (ks.take n.toNat) k = hasB at *
      generalize posI (ks.take n.toNat) k = b at *
      generalize posB ks k = hadB at *
      generalize posI ks k = i at *
      generalize TI.addB (ks.take n.toNat) k = isB at *
      generalize TI.addI (ks.take n.toNat) k = c at *
      generalize (ks.take n.toNat).length = left at *
      generalize ks.length = all at *
      obtain ⟨F1, F2⟩ := HF.out
      have HF2 := Lib.hid F2
      clear HF F2
      rcases F1 with ⟨rfl, rfl, rfl, rfl, rfl⟩ | ⟨rfl, rfl, rfl, f1, rfl, rfl⟩ | ⟨rfl, rfl, f1, rfl, rfl⟩
      all_goals
        go_wp2_with fail
        refine HL.out.mono ?_
        rintro e w3 ⟨rfl, rfl⟩
        go_wp2_with fail
        refine HA1.out.mono ?_
        rintro e w4 ⟨rfl, _, _, _, hb⟩
        have HB := Lib.hid hb
        clear hb
        rcases HF2.out with ⟨g0, g1⟩ | ⟨g0, g1, g2⟩ | ⟨g0, g1, g2⟩
        all_goals
          have q1 := g1
          clear HF2
          go_wp2_with fail
          all_goals
            go_ret
            exact ⟨rfl, HB.out⟩

theorem cuts_long (a : Option Addr) (len cap : Nat) (n k : Int) (w : World) (hlen : 200 < len) :
    Calls Try.prog 5 #[.slice a len cap, .int .i64 n, .int .i64 k] w fun e w' => e = .returned (.bool true) ∧ Below w.heap.size w w' := by
  have hd : decide ((200 : Int) < (len : Int)) = true := by simp; omega
  go_enter Try.func5, Try.ntmps5
  go_wp2_with fail
  refine (awake_any _).mono ?_
  rintro e w1 ⟨rfl, hb1⟩
  go_wp2_with fail
  go_ret
  exact ⟨rfl, hb1⟩

theorem cuts_all (a : Option Addr) (len cap : Nat) (zs : List Int) (n k : Int) (w : World) (hk : TI.okk k)
    (h : (a = none ∧ len = 0 ∧ cap = 0 ∧ zs = []) ∨ ∃ x, a = some x ∧ len ≤ cap ∧ cap ≤ maxLen ∧ zs.length = cap ∧ (∀ i, i < zs.length → w.cell? (x.add i) = some (.int .i64 (zs.getD i 0))) ∧ ∀ n ∈ zs, (Lit.int .i64 n).wf = true) :
    Calls Try.prog 5 #[.slice a len cap, .int .i64 n, .int .i64 k] w fun e w' => e = .returned (.bool true) ∧ Below w.heap.size w w' := by
  by_cases hlen : len ≤ 200
  · exact cuts_walk a len cap _ n k w (Arg.of h) hk hlen
  · exact cuts_long a len cap n k w (by omega)
end Go.Proofs.Ytngiekofaeaaoaa
