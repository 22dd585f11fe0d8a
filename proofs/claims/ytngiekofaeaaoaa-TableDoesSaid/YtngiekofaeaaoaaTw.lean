/- Walks: TableDoes. -/
import Derived.Test.YtngiekofaeaaoaaTv
import Derived.Deep.Slices
import Derived.OpenShut
namespace Go.Proofs.Ytngiekofaeaaoaa
open Go.RowKit

/-- A table of texts, and the reference's list beside it. -/
def Duo (w0 w : World) (tb : Nat) (ks : List ByteArray) (N : Nat) (r : Value) (rs : List ByteArray) : Prop :=
  ∃ vl vm, TS.Tbl w w0.heap.size tb vl vm ks N ∧ Below w0.heap.size w0 w ∧ Rd w (fun j => ¬ TS.tblF tb vl vm j) r (strs rs)

section
variable {w0 w : World} {tb N : Nat} {ks rs : List ByteArray} {r : Value}
theorem Duo.out (h : Duo w0 w tb ks N r rs) : Below w0.heap.size w0 w := by
  obtain ⟨_, _, _, h, _⟩ := h
  exact h
theorem Duo.shape (h : Duo w0 w tb ks N r rs) : ∃ a c, r = .slice a rs.length c := by
  obtain ⟨_, _, _, _, h⟩ := h
  have := h.shape
  rwa [strs_length] at this
theorem ycut (h : Duo w0 w tb ks N r rs) (n : Int) (hl : ks.length ≤ 1000000) :
    Calls Try.prog 27 #[.pointer (some ⟨tb, 0, none⟩), .int .i64 n] w fun e w' => e = .returned (.tuple #[]) ∧ Duo w0 w' tb (ks.take n.toNat) N r rs := by
  obtain ⟨vl, vm, h1, h2, h3⟩ := h
  refine (TS.cut_any w h1 n hl).mono ?_
  rintro e w' ⟨rfl, hleft⟩
  have hb := hleft.below h1 h2.size
  obtain ⟨vl', vm', k1, k2⟩ := hleft
  exact ⟨rfl, vl', vm', k1, h2.trans hb, k2.rd h3⟩
theorem yadd (h : Duo w0 w tb ks N r rs) {k : ByteArray} (hk : TS.okk k) (hl : ks.length ≤ 1000000) (hN : N ≤ 1000000) :
    Calls Try.prog 29 #[.pointer (some ⟨tb, 0, none⟩), .string k] w fun e w' => e = .returned (.tuple #[.int .i64 (TS.addI ks k), .bool (TS.addB ks k)]) ∧ Duo w0 w' tb (TS.addL ks k) (N + 1) r rs := by
  obtain ⟨vl, vm, h1, h2, h3⟩ := h
  refine (TS.add_any w h1 hk hl hN).mono ?_
  rintro e w' ⟨rfl, hleft⟩
  have hb := hleft.below h1 h2.size
  obtain ⟨vl', vm', k1, k2⟩ := hleft
  exact ⟨rfl, vl', vm', k1, h2.trans hb, k2.rd h3⟩
theorem Duo.later {w' : World} {v : Value} {rs' : List ByteArray} {vl vm : Value} (h1 : TS.Tbl w w0.heap.size tb vl vm ks N) (h2 : Below w0.heap.size w0 w) (hn : NewStrs w (fun j => ¬ TS.tblF tb vl vm j) rs' v w') : Duo w0 w' tb ks N v rs' := by
  refine ⟨vl, vm, h1.below hn.2, h2.trans (hn.2.mono h2.size), hn.1.mono fun j _ e => ?_⟩
  rcases e with e | e
  · exact e
  · exact fun e' => by have := (h1.foot e').2; omega
theorem Duo.mono (h : Duo w0 w tb ks N r rs) {N' : Nat} (hn : N ≤ N') : Duo w0 w tb ks N' r rs := by
  obtain ⟨vl, vm, h1, h2, h3⟩ := h
  exact ⟨vl, vm, h1.mono hn, h2, h3⟩
theorem yrcut (h : Duo w0 w tb ks N r rs) (n : Int) (hl : rs.length ≤ 1000000) :
    Calls Try.prog 28 #[r, .int .i64 n] w fun e w' => ∃ a m c, e = .returned (.slice a m c) ∧ m = (rs.take n.toNat).length ∧ Duo w0 w' tb ks N (.slice a m c) (rs.take n.toNat) := by
  obtain ⟨vl, vm, h1, h2, h3⟩ := h
  refine (rcut_any h3 n hl).mono ?_
  rintro e w' ⟨v, rfl, hn⟩
  obtain ⟨a, c, rfl⟩ := hn.1.shape
  exact ⟨a, _, c, rfl, strs_length _, Duo.later h1 h2 hn⟩
theorem yradd (h : Duo w0 w tb ks N r rs) (k : ByteArray) (hl : rs.length ≤ 1000000) :
    Calls Try.prog 30 #[r, .string k] w fun e w' => ∃ a m c, e = .returned (.tuple #[.slice a m c, .int .i64 (TS.addI rs k), .bool (TS.addB rs k)]) ∧ m = (TS.addL rs k).length ∧ Duo w0 w' tb ks N (.slice a m c) (TS.addL rs k) := by
  obtain ⟨vl, vm, h1, h2, h3⟩ := h
  refine (radd_any h3 k hl).mono ?_
  rintro e w' ⟨v, rfl, hn⟩
  obtain ⟨a, c, rfl⟩ := hn.1.shape
  exact ⟨a, _, c, rfl, strs_length _, Duo.later h1 h2 hn⟩
theorem yfind (h : Duo w0 w tb ks N r rs) {k : ByteArray} (hk : TS.okk k) :
    Calls Try.prog 31 #[.pointer (some ⟨tb, 0, none⟩), .string k] w fun e w' => e = .returned (.tuple #[.int .i64 (posI ks k), .bool (posB ks k)]) ∧ w = w' := by
  obtain ⟨vl, vm, h1, _⟩ := h
  exact TS.find_any w h1 hk
theorem yrfind (h : Duo w0 w tb ks N r rs) (k : ByteArray) (hl : rs.length ≤ 1000000) :
    Calls Try.prog 32 #[r, .string k] w fun e w' => e = .returned (.int .i64 (rpos rs k)) ∧ w = w' := by
  obtain ⟨vl, vm, _, _, h3⟩ := h
  exact rfind_any h3 k hl
theorem ylen (h : Duo w0 w tb ks N r rs) : Calls Try.prog 33 #[.pointer (some ⟨tb, 0, none⟩)] w fun e w' => e = .returned (.int .i64 ks.length) ∧ w = w' := by
  obtain ⟨vl, vm, h1, _⟩ := h
  exact TS.len_any w h1
theorem yat (h : Duo w0 w tb ks N r rs) (i : Nat) {k : ByteArray} (hi : ks[i]? = some k) : Calls Try.prog 34 #[.pointer (some ⟨tb, 0, none⟩), .int .i64 i] w fun e w' => e = .returned (.tuple #[.string k, .bool true]) ∧ w = w' := by
  obtain ⟨vl, vm, h1, _⟩ := h
  exact TS.at_some w h1 i k hi
theorem yat_none (h : Duo w0 w tb ks N r rs) (i : Int) (hi : i < 0 ∨ ks.length ≤ i) : Calls Try.prog 34 #[.pointer (some ⟨tb, 0, none⟩), .int .i64 i] w fun e w' => e = .returned (.tuple #[.string ⟨#[]⟩, .bool false]) ∧ w = w' := by
  obtain ⟨vl, vm, h1, _⟩ := h
  exact TS.at_none w h1 i hi
theorem Duo.cell {a : Option Addr} {n c : Nat} (h : Duo w0 w tb ks N (.slice a n c) rs) {i : Nat} (hi : i < rs.length) : ∃ g o, a = some ⟨g, o, none⟩ ∧ n ≤ c ∧ w.cell? ⟨g, o + i, none⟩ = some (.string (rs.getD i ⟨#[]⟩)) := by
  obtain ⟨vl, vm, _, _, h3⟩ := h
  obtain ⟨g, o, c', e, h4, _, _, hx⟩ := h3.some_at (by rw [strs_length]; omega)
  cases e
  exact ⟨g, o, rfl, by rw [strs_length] at *; exact h4, (hx i (by rw [strs_length]; exact hi)).trans (strs_get _ _ hi)⟩
end

theorem find_facts (ks : List ByteArray) (k : ByteArray) : (posB ks k = true ∧ rpos ks k = posI ks k ∧ 0 ≤ posI ks k) ∨ (posB ks k = false ∧ rpos ks k = -1 ∧ posI ks k = 0) := by
  cases e : idx ks k with
  | none => right; simp [posB, posI, rpos, e]
  | some i => left; simp [posB, posI, rpos, e]

/-- A slice of calls of a table that came in. -/
def Ops (w : World) (a : Option Addr) (len : Nat) (C : Nat → Bool) (S : Nat → ByteArray) (M : Nat → Int) : Prop :=
  ∀ i, i < len → ∃ b o, a = some ⟨b, o, none⟩ ∧ b < w.heap.size ∧ w.cell? ⟨b, o + i * 3, none⟩ = some (.bool (C i)) ∧ w.cell? ⟨b, o + i * 3 + 1, none⟩ = some (.string (S i)) ∧ w.cell? ⟨b, o + i * 3 + 2, none⟩ = some (.int .i64 (M i)) ∧ (S i).size ≤ maxLen
theorem Ops.below {w w' : World} {a : Option Addr} {len : Nat} {C : Nat → Bool} {S : Nat → ByteArray} {M : Nat → Int} (h : Ops w a len C S M) (hb : Below w.heap.size w w') : Ops w' a len C S M := fun i hi => by
  obtain ⟨b, o, h1, h2, h3, h4, h5, h6⟩ := h i hi
  exact ⟨b, o, h1, Nat.lt_of_lt_of_le h2 hb.size, (hb.cell (p := ⟨b, _, none⟩) h2).trans h3, (hb.cell (p := ⟨b, _, none⟩) h2).trans h4, (hb.cell (p := ⟨b, _, none⟩) h2).trans h5, h6⟩

set_option maxRecDepth 100000 in
set_option maxHeartbeats 8000000 in
theorem does_walk (a : Option Addr) (len cap : Nat) (C : Nat → Bool) (S : Nat → ByteArray) (M : Nat → Int) (k : ByteArray) (w : World) (hr : Ops w a len C S M) (hk : k.size ≤ maxLen) (hlen : len ≤ 200) :
    Calls Try.prog 6 #[.slice a len cap, .string k] w fun e w' => e = .returned (.bool true) ∧ Below w.heap.size w w' := by
  have HP := Lib.hid hr
  have HK : Hid (TS.okk k) := hk
  have hd : decide ((200 : Int) < (len : Int)) = false := by simp; omega
  clear hr hk
  go_enter Try.func6, Try.ntmps6
  go_wp2_with fail
  refine (awake_any _).mono ?_
  rintro e w1 ⟨rfl, hb1⟩
  have T0 : Hid (Duo w (w1.alloc (.cells #[.slice none 0 0, .map none] 60)) w1.heap.size [] 0 (.slice none 0 0) []) := ⟨_, _, TS.Tbl.fresh w1 hb1.size, hb1.alloc hb1.size _, .inl ⟨rfl, rfl⟩⟩
  clear hb1
  go_wp2_with fail
  obtain ⟨tb, htb⟩ : ∃ tb, tb = w1.heap.size := ⟨_, rfl⟩
  rw [← htb] at T0 ⊢
  clear htb
  go_loopw [7, 8] (fun r i wr => ∃ (j n c : Nat) (ra : Option Addr) (ks : List ByteArray), j ≤ len ∧ i = .int .i64 j ∧ r = .slice ra n c ∧ n = ks.length ∧ Duo w wr tb ks j r ks ∧ n ≤ j) (fun _ i _ => len - (intOf i).toNat)
  case atStart => exact ⟨0, 0, 0, none, [], by omega, rfl, rfl, rfl, T0.out, by omega⟩
  case round =>
    obtain ⟨j, n, c, ra, ks, hj, rfl, rfl, hn, hrel, hnj⟩ := hrel
    have HB := Lib.hid hrel
    have HPw : Hid (Ops wr a len C S M) := HP.out.below hrel.out
    have HN := Lib.hid hn
    clear hrel T0 hn
    by_cases hlt : j < len
    · obtain ⟨b, o, rfl, _, hc1, hc2, hc3, hok⟩ := HPw.out j hlt
      have HP2 : Hid (∀ w3, Below w.heap.size w w3 → ∃ b' o', some (⟨b, o, none⟩ : Addr) = some ⟨b', o', none⟩ ∧ b' < w3.heap.size ∧ w3.cell? ⟨b', o' + j * 3, none⟩ = some (.bool (C j)) ∧ w3.cell? ⟨b', o' + j * 3 + 1, none⟩ = some (.string (S j)) ∧ w3.cell? ⟨b', o' + j * 3 + 2, none⟩ = some (.int .i64 (M j)) ∧ (S j).size ≤ maxLen) :=
        fun w3 hb3 => (HP.out.below hb3) j hlt
      have HO : Hid (TS.okk (S j)) := hok
      clear hok
      generalize C j = cc at *
      generalize S j = ss at *
      generalize M j = mm at *
      cases cc
      · go_wp2_with fail
        refine (yadd HB.out HO.out (by rw [← HN.out]; omega) (by omega)).mono ?_
        rintro e w3 ⟨rfl, T1⟩
        have HT1 := Lib.hid T1
        clear T1
        have q2 : w3.cell? ⟨b, o + j * 3 + 1, none⟩ = some (.string ss) := by
          obtain ⟨b', o', e1, _, _, e2, _, _⟩ := HP2.out w3 HT1.out.out
          cases e1
          exact e2
        go_wp2_with fail
        refine (yradd HT1.out ss (by rw [← HN.out]; omega)).mono ?_
        rintro e w4 ⟨ra4, n4, c4, rfl, m4, T4⟩
        have HT4 := Lib.hid T4
        have m5 : n4 ≤ n + 1 := by
          have := TS.addL_len ks ss
          rw [← HN.out] at this
          omega
        have M4 := Lib.hid m4
        have HF := Lib.hid (find_facts (TS.addL ks ss) k)
        clear T4 m4 hc1 hc2 hc3 q2 HB HPw
        generalize TS.addI ks ss = ai at *
        generalize TS.addB ks ss = ab at *
        generalize TS.addL ks ss = ks2 at *
        have HL4 : Hid (ks2.length ≤ 1000000) := by
          show _ ≤ _
          rw [← M4.out]
          omega
        go_wp2_with fail
        refine (yfind HT4.out HK.out).mono ?_
        rintro e w5 ⟨rfl, rfl⟩
        go_wp2_with fail
        refine (yrfind HT4.out k HL4.out).mono ?_
        rintro e w5 ⟨rfl, rfl⟩
        go_wp2_with fail
        refine (ylen HT4.out).mono ?_
        rintro e w5 ⟨rfl, rfl⟩
        rw [← M4.out]
        generalize posB ks2 k = pb at *
        generalize rpos ks2 k = rp at *
        generalize posI ks2 k = pp at *
        rcases HF.out with ⟨rfl, rfl, f1⟩ | ⟨rfl, rfl, rfl⟩
        all_goals
          clear HF
          go_wp2_with fail
          go_roundw
          case rel => exact ⟨j + 1, n4, c4, ra4, ks2, by omega, by go_num, rfl, M4.out, HT4.out, by omega⟩
          case measure => simp [intOf]; omega
      · go_wp2_with fail
        refine (ycut HB.out mm (by rw [← HN.out]; omega)).mono ?_
        rintro e w3 ⟨rfl, T1⟩
        have HT1 := Lib.hid T1
        clear T1
        have q2 : w3.cell? ⟨b, o + j * 3 + 2, none⟩ = some (.int .i64 mm) := by
          obtain ⟨b', o', e1, _, _, _, e2, _⟩ := HP2.out w3 HT1.out.out
          cases e1
          exact e2
        go_wp2_with fail
        refine (yrcut HT1.out mm (by rw [← HN.out]; omega)).mono ?_
        rintro e w4 ⟨ra4, n4, c4, rfl, m4, T4⟩
        have HT4 := Lib.hid T4
        have m5 : n4 ≤ n + 1 := by
          have := HN.out
          rw [m4, List.length_take]
          omega
        have M4 := Lib.hid m4
        have HF := Lib.hid (find_facts (ks.take mm.toNat) k)
        clear T4 m4 hc1 hc2 hc3 q2 HB HPw
        generalize ks.take mm.toNat = ks2 at *
        have HL4 : Hid (ks2.length ≤ 1000000) := by
          show _ ≤ _
          rw [← M4.out]
          omega
        go_wp2_with fail
        refine (yfind HT4.out HK.out).mono ?_
        rintro e w5 ⟨rfl, rfl⟩
        go_wp2_with fail
        refine (yrfind HT4.out k HL4.out).mono ?_
        rintro e w5 ⟨rfl, rfl⟩
        go_wp2_with fail
        refine (ylen HT4.out).mono ?_
        rintro e w5 ⟨rfl, rfl⟩
        rw [← M4.out]
        generalize posB ks2 k = pb at *
        generalize rpos ks2 k = rp at *
        generalize posI ks2 k = pp at *
        rcases HF.out with ⟨rfl, rfl, f1⟩ | ⟨rfl, rfl, rfl⟩
        all_goals
          clear HF
          go_wp2_with fail
          go_roundw
          case rel => exact ⟨j + 1, n4, c4, ra4, ks2, by omega, by go_num, rfl, M4.out, HT4.out.mono (by omega), by omega⟩
          case measure => simp [intOf]; omega
    · obtain rfl : j = len := by omega
      have n2 : n ≤ 200 := by omega
      clear HP HPw
      go_wp2_with fail
      obtain ⟨wo, rfl⟩ : ∃ wo : World, wo = wr := ⟨_, rfl⟩
      go_loopw [17] (fun i wr => ∃ m : Nat, m ≤ n ∧ i = .int .i64 m ∧ wo = wr) (fun i _ => n - (intOf i).toNat)
      case atStart => exact ⟨0, by omega, rfl, rfl⟩
      case round =>
        obtain ⟨m, hm, rfl, rfl⟩ := hrel
        by_cases hlt : m < n
        · obtain ⟨g, o, rfl, hnc, hcell⟩ := HB.out.cell (i := m) (by rw [← HN.out]; exact hlt)
          have HG := Lib.hid (getD_some (ks := ks) (j := m) (by rw [← HN.out]; exact hlt))
          generalize ks.getD m ⟨#[]⟩ = x at *
          go_wp2_with fail
          refine (yat HB.out m HG.out).mono ?_
          rintro e w5 ⟨rfl, rfl⟩
          go_wp2_with fail
          go_roundw
          case rel => exact ⟨m + 1, by omega, by go_num, trivial⟩
          case measure => simp [intOf]; omega
        · obtain rfl : m = n := by omega
          go_wp2_with fail
          refine (yat_none HB.out _ (.inr (by rw [← HN.out]; omega))).mono ?_
          rintro e w5 ⟨rfl, rfl⟩
          go_wp2_with fail
          refine (yat_none HB.out _ (.inl (by omega))).mono ?_
          rintro e w5 ⟨rfl, rfl⟩
          go_wp2_with fail
          go_ret
          exact ⟨rfl, HB.out.out⟩

set_option maxRecDepth 100000 in
theorem does_long (a : Option Addr) (len cap : Nat) (k : ByteArray) (w : World) (hlen : 200 < len) :
    Calls Try.prog 6 #[.slice a len cap, .string k] w fun e w' => e = .returned (.bool true) ∧ Below w.heap.size w w' := by
  have hd : decide ((200 : Int) < (len : Int)) = true := by simp; omega
  go_enter Try.func6, Try.ntmps6
  go_wp2_with fail
  refine (awake_any _).mono ?_
  rintro e w1 ⟨rfl, hb1⟩
  go_wp2_with fail
  go_ret
  exact ⟨rfl, hb1⟩

theorem does_all (a : Option Addr) (len cap : Nat) (C : Nat → Bool) (S : Nat → ByteArray) (M : Nat → Int) (k : ByteArray) (w : World) (hr : Ops w a len C S M) (hk : k.size ≤ maxLen) :
    Calls Try.prog 6 #[.slice a len cap, .string k] w fun e w' => e = .returned (.bool true) ∧ Below w.heap.size w w' := by
  by_cases hlen : len ≤ 200
  · exact does_walk a len cap C S M k w hr hk hlen
  · exact does_long a len cap k w (by omega)

/-- A slice of calls of a table, opened. -/
theorem ops_of {H : Type} {enc : TypeId × Value → H} {w : World} {base : Nat} {spare : Nat → Bool} {held : Bool} {fuel : Nat} {a : Option Addr} {len cap : Nat} {x : DataW H × List MemPlace}
    (h : DataW.trod enc Try.prog w base spare held fuel 55 (Value.slice a len cap).cells.toList = some x) : ∃ C S M, Ops w a len C S M := by
  rcases Go.Deep.open_slice Try.underlying55 h with ⟨hcs, _⟩ | ⟨y, l, c, m, n, D, Pl, hcs, _, hl, _, hm, _, hx⟩
  · simp [Value.cells] at hcs
    obtain ⟨rfl, rfl, rfl⟩ := hcs
    exact ⟨fun _ => false, fun _ => ⟨#[]⟩, fun _ => 0, fun i hi => by omega⟩
  · simp [Value.cells] at hcs
    obtain ⟨rfl, rfl, rfl⟩ := hcs
    have hlm : len ≤ m := by rw [hm]; split <;> omega
    have ce : Try.prog.cellsOf 62 = 3 := by kernel_rfl
    have each : ∀ i, i < len → ∃ q : Bool × ByteArray × Int, w.cell? (y.add (i * 3)) = some (.bool q.1) ∧ w.cell? (y.add (i * 3 + 1)) = some (.string q.2.1) ∧ w.cell? (y.add (i * 3 + 2)) = some (.int .i64 q.2.2) ∧ q.2.1.size ≤ maxLen := by
      intro i hi
      obtain ⟨cs', h1, h2⟩ := hx i (by omega)
      rw [ce] at h1
      obtain ⟨_, hlen, hcell⟩ := World.cells?_some h1
      obtain ⟨xs, k, hk, hxy, _, hxl, hf⟩ := DataW.trod_struct Try.underlying62 h2
      match xs, hxl, cs', hlen with
      | [y0, y1, y2], _, [v0, v1, v2], _ =>
        have g0 := hf 0 _ rfl
        have g1 := hf 1 _ rfl
        have g2 := hf 2 _ rfl
        have c4 : Try.prog.cellsOf 4 = 1 := by kernel_rfl
        have c9 : Try.prog.cellsOf 9 = 1 := by kernel_rfl
        have c3 : Try.prog.cellsOf 3 = 1 := by kernel_rfl
        simp [c4, c9, c3] at g0 g1 g2
        have e0 := hcell 0 (by omega)
        have e1 := hcell 1 (by omega)
        have e2 := hcell 2 (by omega)
        rw [Go.Deep.add_add] at e0 e1 e2
        obtain ⟨b0, hb0, _⟩ := DataW.trod_bool Try.underlying4 g0
        obtain ⟨s1, hs1, _, ho1⟩ := DataW.trod_string Try.underlying9 g1
        obtain ⟨z2, hz2, _, _⟩ := DataW.trod_int Try.underlying3 g2
        simp at hb0 hs1 hz2
        subst hb0 hs1 hz2
        exact ⟨(b0, s1, z2), by simpa using e0, by simpa using e1, by simpa using e2, ho1⟩
    obtain ⟨q, hq⟩ := Go.Deep.choose_lt each
    obtain ⟨b, o, s⟩ := y
    refine ⟨fun i => (q i).1, fun i => (q i).2.1, fun i => (q i).2.2, fun i hi => ?_⟩
    obtain ⟨e0, e1, e2, e3⟩ := hq i hi
    have hq0 := (hq 0 (by omega)).1
    have hs : s = none := by
      cases s with
      | none => rfl
      | some _ => simp [Addr.add, World.cell?] at hq0; split at hq0 <;> simp at hq0
    subst hs
    rw [Go.WideShapes.add_plain] at e0 e1 e2
    exact ⟨b, o, rfl, World.block_lt_of_cell? w _ e0, e0, by rw [Nat.add_assoc]; exact e1, by rw [Nat.add_assoc]; exact e2, e3⟩
end Go.Proofs.Ytngiekofaeaaoaa
