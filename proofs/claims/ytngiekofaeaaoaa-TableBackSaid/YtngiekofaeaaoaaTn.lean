/- Walks: TableBack. -/
import Derived.Test.YtngiekofaeaaoaaTm
namespace Go.Proofs.Ytngiekofaeaaoaa
open Go.RowKit

theorem iat (w0 w : World) {tb N : Nat} {ks : List Int} (h : HasI w0 w tb ks N) (i : Int) (j : Nat) (hj : i = j) (k : Int) (hk : ks[j]? = some k) :
    Calls Try.prog 35 #[.pointer (some ⟨tb, 0, none⟩), .int .i64 i] w fun e w' => e = .returned (.tuple #[.int .i64 k, .bool true]) ∧ w = w' := by
  obtain ⟨vl, vm, ht, hb⟩ := h
  subst hj
  exact TI.at_some w ht j k hk

theorem mem_keys (l : List Int) (x : Int) : x ∈ keys l ↔ x ∈ l := by
  have : ∀ (l : List Int) (acc : List Int), x ∈ l.foldl TI.addL acc ↔ x ∈ acc ∨ x ∈ l := by
    intro l
    induction l with
    | nil => intro acc; simp
    | cons y l ih =>
      intro acc
      rw [List.foldl_cons, ih]
      have : x ∈ TI.addL acc y ↔ x ∈ acc ∨ x = y := by
        unfold TI.addL
        split
        · rename_i h
          constructor
          · exact .inl
          · rintro (h' | rfl)
            · exact h'
            · exact posB_mem.1 h
        · simp
      rw [this, List.mem_cons, or_assoc]
  simpa [keys] using this l []

theorem add_facts (ks : List Int) (x : Int) : ∃ i : Nat, TI.addI ks x = i ∧ (TI.addL ks x)[i]? = some x ∧ posI (TI.addL ks x) x = i ∧ posB (TI.addL ks x) x = true := by
  unfold TI.addI TI.addL
  by_cases h : posB ks x = true
  · rw [if_pos h, if_pos h]
    obtain ⟨i, hi, _⟩ := idx_mem (posB_mem.1 h)
    exact ⟨i, by simp [posI, hi], (idx_some hi).2.1, by simp [posI, hi], h⟩
  · rw [if_neg h, if_neg h]
    have hn : x ∉ ks := fun hm => h (posB_mem.2 hm)
    refine ⟨ks.length, rfl, by simp, ?_, ?_⟩
    · simp [posI, idx_snoc_self hn]
    · simp [posB, idx_snoc_self hn]

theorem posI_inj {ks : List Int} {x y : Int} (hx : x ∈ ks) (hy : y ∈ ks) (h : posI ks x = posI ks y) : x = y := by
  obtain ⟨i, hi, _⟩ := idx_mem hx
  obtain ⟨j, hj, _⟩ := idx_mem hy
  simp only [posI, hi, hj] at h
  obtain rfl : i = j := by omega
  have := (idx_some hi).2.1.symm.trans (idx_some hj).2.1
  simpa using this

/-- Was it there before? -/
def hadB (zs : List Int) (k : Nat) (x : Int) : Bool := decide (x ∈ zs.take k)
theorem hadB_zero (zs : List Int) (x : Int) : hadB zs 0 x = false := by simp [hadB]
theorem hadB_succ (zs : List Int) (k : Nat) (x : Int) (h : k < zs.length) : hadB zs (k + 1) x = (hadB zs k x || (zs.getD k 0 == x)) := by
  simp only [hadB, getD_snoc zs k h]
  by_cases h1 : x ∈ zs.take k <;> simp [h1]
  rw [Bool.eq_iff_iff]
  simp only [decide_eq_true_eq, beq_iff_eq]
  exact eq_comm
theorem hadB_keys (zs : List Int) (k : Nat) (x : Int) : TI.addB (keys (zs.take k)) x = !hadB zs k x := by
  have : TI.addB (keys (zs.take k)) x = !posB (keys (zs.take k)) x := by unfold TI.addB; cases posB (keys (zs.take k)) x <;> simp
  rw [this]
  congr 1
  rw [Bool.eq_iff_iff, posB_mem, mem_keys]
  simp [hadB]

theorem HasI.arg {w0 w : World} {tb N : Nat} {ks : List Int} {a : Option Addr} {len : Nat} {zs : List Int} (h : HasI w0 w tb ks N) (ha : Arg w0 a len zs) : Arg w a len zs := by
  obtain ⟨_, _, _, hb⟩ := h
  exact ha.below hb

theorem HasI.cell {w0 w : World} {tb N : Nat} {ks : List Int} {b o len : Nat} {zs : List Int} (h : HasI w0 w tb ks N) (ha : Arg w0 (some ⟨b, o, none⟩) len zs) {i : Nat} (hi : i < len) : w.cell? ⟨b, o + i, none⟩ = some (.int .i64 (zs.getD i 0)) := by
  obtain ⟨b', o', he, _, hc⟩ := (h.arg ha).cell i hi
  cases he
  exact hc

set_option maxRecDepth 100000 in
set_option maxHeartbeats 4000000 in
theorem back_walk (a : Option Addr) (len cap : Nat) (zs : List Int) (w : World) (hr : Arg w a len zs) (hlen : len ≤ 200) :
    Calls Try.prog 7 #[.slice a len cap] w fun e w' => e = .returned (.bool true) ∧ Below w.heap.size w w' := by
  have HA := Lib.hid hr
  have hd : decide ((200 : Int) < (len : Int)) = false := by simp; omega
  have hkl := keys_len zs
  rw [hr.hlen] at hkl
  clear hr
  go_enter Try.func7, Try.ntmps7
  go_wp2_with fail
  refine (awake_any _).mono ?_
  rintro e w1 ⟨rfl, hb1⟩
  have T0 : Hid (HasI w (w1.alloc (.cells #[.slice none 0 0, .map none] 52)) w1.heap.size [] 0) := ⟨_, _, TI.Tbl.fresh w1 hb1.size, hb1.alloc hb1.size _⟩
  clear hb1
  go_wp2_with fail
  obtain ⟨tb, htb⟩ : ∃ tb, tb = w1.heap.size := ⟨_, rfl⟩
  rw [← htb] at T0 ⊢
  clear htb
  go_loopw [5] (fun i wr => ∃ j : Nat, j ≤ len ∧ i = .int .i64 j ∧ HasI w wr tb (keys (zs.take j)) j) (fun i _ => len - (intOf i).toNat)
  case atStart => exact ⟨0, by omega, rfl, T0.out⟩
  case round =>
    obtain ⟨j, hj, rfl, hrel⟩ := hrel
    have HR := Lib.hid hrel
    clear hrel T0
    by_cases hlt : j < len
    · obtain ⟨b, o, rfl, _, _⟩ := HA.out.cell j hlt
      obtain ⟨x, hx⟩ : ∃ x, x = zs.getD j 0 := ⟨_, rfl⟩
      have HX := Lib.hid hx
      have HOK := Lib.hid (HA.out.get hlt)
      rw [← hx] at HOK
      clear hx
      have H0 := Lib.hid (hadB_zero zs x)
      go_wp2_with fail
      obtain ⟨wo, rfl⟩ : ∃ wo : World, wo = wr := ⟨_, rfl⟩
      go_loopw [6, 7] (fun hv kv wr => ∃ k : Nat, k ≤ j ∧ kv = .int .i64 k ∧ hv = .bool (hadB zs k x) ∧ HasI w wr tb (keys (zs.take j)) j) (fun _ kv _ => j - (intOf kv).toNat)
      case atStart => exact ⟨0, by omega, rfl, by rw [H0.out], HR.out⟩
      case round =>
        obtain ⟨k, hk, rfl, rfl, hrel⟩ := hrel
        have HS := Lib.hid hrel
        clear hrel
        by_cases hkj : k < j
        · have hc := HS.out.cell HA.out hlt
          have hc' := HS.out.cell HA.out (i := k) (by omega)
          rw [← HX.out] at hc
          obtain ⟨y, hy⟩ : ∃ y, y = zs.getD k 0 := ⟨_, rfl⟩
          rw [← hy] at hc'
          have HN : Hid (hadB zs (k + 1) x = (hadB zs k x || (y == x))) := by
            show _ = _
            rw [hy]
            exact hadB_succ zs k x (by rw [HA.out.hlen]; omega)
          have b0 : (0 : Int) ≤ (k : Int) := Int.natCast_nonneg _
          have b1 : (k : Int) < (len : Int) := by omega
          have b2 : (0 : Int) ≤ (j : Int) := Int.natCast_nonneg _
          have b3 : (j : Int) < (len : Int) := by omega
          clear hy
          generalize hadB zs k x = hb at *
          cases hb with
          | true =>
            go_wp2_with fail
            go_quiet (fail)
            go_wp2_with fail
            go_roundw
            case rel => exact ⟨k + 1, by omega, by go_num, by rw [HN.out]; rfl, HS.out.drewN _⟩
            case measure => simp [intOf]; omega
          | false =>
            go_wp2_with fail
            go_quiet (fail)
            go_wp2_with fail
            go_roundw
            case rel => exact ⟨k + 1, by omega, by go_num, by rw [HN.out]; rfl, HS.out.drewN _⟩
            case measure => simp [intOf]; omega
        · obtain rfl : k = j := by omega
          clear H0
          have hc := HS.out.cell HA.out hlt
          rw [← HX.out] at hc
          obtain ⟨p, f1, f2, f3, f4⟩ := add_facts (keys (zs.take k)) x
          have hkk := keys_len (zs.take k)
          have A1 := iadd w _ HS.out x HOK.out (by simp at hkk; omega) (by omega) f1 (hadB_keys zs k x) rfl
          have HA1 := Lib.hid A1
          have HF := Lib.hid (And.intro f2 (And.intro f3 f4))
          have HK : Hid (keys (zs.take (k + 1)) = TI.addL (keys (zs.take k)) x) := by
            show _ = _
            rw [getD_snoc zs k (by rw [HA.out.hlen]; exact hlt), keys_snoc, ← HX.out]
          clear A1 f1 f2 f3 f4 hkk HR
          generalize hadB zs k x = hb at *
          generalize TI.addL (keys (zs.take k)) x = ks2 at *
          cases hb
          all_goals
            go_wp2_with fail
            refine HA1.out.mono ?_
            rintro e w2 ⟨rfl, T1⟩
            have HT1 := Lib.hid T1
            have hc2 := T1.cell HA.out hlt
            rw [← HX.out] at hc2
            clear T1 hc HS HA1
            go_wp2_with fail
            refine (iat w _ HT1.out _ p rfl x HF.out.1).mono ?_
            rintro e w3 ⟨rfl, rfl⟩
            go_wp2_with fail
            refine (ifind w _ HT1.out x HOK.out HF.out.2.1 HF.out.2.2).mono ?_
            rintro e w3 ⟨rfl, rfl⟩
            go_wp2_with fail
            go_roundw
            case rel => exact ⟨k + 1, by omega, by go_num, by rw [HK.out]; exact HT1.out⟩
            case measure => simp [intOf]; omega
    · obtain rfl : j = len := by omega
      have HX : Hid (HasI w wr tb (keys zs) j) := by
        have := HR.out
        rwa [List.take_of_length_le (by rw [HA.out.hlen]; omega)] at this
      clear HR
      have hmk := mem_keys zs
      have HM := Lib.hid hmk
      clear hmk
      generalize keys zs = ks at *
      go_wp2_with fail
      obtain ⟨wo, rfl⟩ : ∃ wo : World, wo = wr := ⟨_, rfl⟩
      go_loopw [14] (fun i wr => ∃ m : Nat, m ≤ j ∧ i = .int .i64 m ∧ HasI w wr tb ks j) (fun i _ => j - (intOf i).toNat)
      case atStart => exact ⟨0, by omega, rfl, HX.out⟩
      case round =>
        obtain ⟨m, hm, rfl, hrel⟩ := hrel
        have HR := Lib.hid hrel
        clear hrel
        by_cases hmj : m < j
        · obtain ⟨b, o, rfl, _, _⟩ := HA.out.cell m hmj
          obtain ⟨x, hx⟩ : ∃ x, x = zs.getD m 0 := ⟨_, rfl⟩
          have HXX := Lib.hid hx
          have HOK := Lib.hid (HA.out.get hmj)
          have HMX : Hid (x ∈ ks) := by
            refine (HM.out x).2 ?_
            rw [hx, List.getD_eq_getElem?_getD, List.getElem?_eq_getElem (by rw [HA.out.hlen]; exact hmj)]
            exact List.getElem_mem _
          rw [← hx] at HOK
          clear hx
          go_wp2_with fail
          obtain ⟨wp, rfl⟩ : ∃ wp : World, wp = wr := ⟨_, rfl⟩
          go_loopw [15] (fun kv wr => ∃ k : Nat, k ≤ m ∧ kv = .int .i64 k ∧ HasI w wr tb ks j) (fun kv _ => m - (intOf kv).toNat)
          case atStart => exact ⟨0, by omega, rfl, HR.out⟩
          case round =>
            obtain ⟨k, hk, rfl, hrel⟩ := hrel
            have HS := Lib.hid hrel
            clear hrel
            by_cases hkm : k < m
            · have hc := HS.out.cell HA.out hmj
              have hc' := HS.out.cell HA.out (i := k) (by omega)
              rw [← HXX.out] at hc
              obtain ⟨y, hy⟩ : ∃ y, y = zs.getD k 0 := ⟨_, rfl⟩
              have HOY := Lib.hid (HA.out.get (show k < j by omega))
              have HMY : Hid (y ∈ ks) := by
                refine (HM.out y).2 ?_
                rw [hy, List.getD_eq_getElem?_getD, List.getElem?_eq_getElem (by rw [HA.out.hlen]; omega)]
                exact List.getElem_mem _
              rw [← hy] at hc' HOY
              clear hy
              have b0 : (0 : Int) ≤ (k : Int) := Int.natCast_nonneg _
              have b1 : (k : Int) < (j : Int) := by omega
              have b2 : (0 : Int) ≤ (m : Int) := Int.natCast_nonneg _
              have b3 : (m : Int) < (j : Int) := by omega
              have A1 := ifind w _ HS.out x HOK.out (i := posI ks x) rfl (posB_mem.2 HMX.out)
              have A2 := ifind w _ HS.out y HOY.out (i := posI ks y) rfl (posB_mem.2 HMY.out)
              have HA1 := Lib.hid A1
              have HA2 := Lib.hid A2
              have hq : (posI ks x == posI ks y) = (x == y) := by
                rw [Bool.eq_iff_iff, beq_iff_eq, beq_iff_eq]
                exact ⟨fun h => posI_inj HMX.out HMY.out h, fun h => by rw [h]⟩
              clear A1 A2
              generalize posI ks x = px at *
              generalize posI ks y = py at *
              go_wp2_with fail
              refine HA1.out.mono ?_
              rintro e w3 ⟨rfl, rfl⟩
              go_wp2_with fail
              refine HA2.out.mono ?_
              rintro e w3 ⟨rfl, rfl⟩
              go_wp2_with fail
              go_quiet (fail)
              go_wp2_with fail
              go_roundw
              case rel => exact ⟨k + 1, by omega, by go_num, HS.out.drewN _⟩
              case measure => simp [intOf]; omega
            · obtain rfl : k = m := by omega
              go_wp2_with fail
              go_roundw
              case rel => exact ⟨k + 1, by omega, by go_num, HS.out⟩
              case measure => simp [intOf]; omega
        · go_wp2_with fail
          refine (ilen w _ HR.out).mono ?_
          rintro e w3 ⟨rfl, rfl⟩
          go_wp2_with fail
          go_ret
          obtain ⟨_, _, _, hb⟩ := HR.out
          exact ⟨rfl, hb⟩

theorem back_long (a : Option Addr) (len cap : Nat) (w : World) (hlen : 200 < len) :
    Calls Try.prog 7 #[.slice a len cap] w fun e w' => e = .returned (.bool true) ∧ Below w.heap.size w w' := by
  have hd : decide ((200 : Int) < (len : Int)) = true := by simp; omega
  go_enter Try.func7, Try.ntmps7
  go_wp2_with fail
  refine (awake_any _).mono ?_
  rintro e w1 ⟨rfl, hb1⟩
  go_wp2_with fail
  go_ret
  exact ⟨rfl, hb1⟩

theorem back_all (a : Option Addr) (len cap : Nat) (zs : List Int) (w : World)
    (h : (a = none ∧ len = 0 ∧ cap = 0 ∧ zs = []) ∨ ∃ x, a = some x ∧ len ≤ cap ∧ cap ≤ maxLen ∧ zs.length = cap ∧ (∀ i, i < zs.length → w.cell? (x.add i) = some (.int .i64 (zs.getD i 0))) ∧ ∀ n ∈ zs, (Lit.int .i64 n).wf = true) :
    Calls Try.prog 7 #[.slice a len cap] w fun e w' => e = .returned (.bool true) ∧ Below w.heap.size w w' := by
  by_cases hlen : len ≤ 200
  · exact back_walk a len cap _ w (Arg.of h) hlen
  · exact back_long a len cap w (by omega)
end Go.Proofs.Ytngiekofaeaaoaa
