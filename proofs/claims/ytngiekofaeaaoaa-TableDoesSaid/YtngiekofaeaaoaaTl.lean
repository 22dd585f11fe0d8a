/- Walks: TableNone, TableCuts. -/
import Derived.Test.YtngiekofaeaaoaaTk
namespace Go.Proofs.Ytngiekofaeaaoaa
open Go.RowKit

set_option maxHeartbeats 1000000 in
theorem none_walk (k : ByteArray) (n : Int) (w : World) : Calls Try.prog 8 #[.string k, .int .i64 n] w fun e w' => e = .returned (.bool true) ∧ Below w.heap.size w w' := by
  go_enter Try.func8, Try.ntmps8
  go_wp2_with fail
  refine (awake_any _).mono ?_
  rintro e w1 ⟨rfl, hb⟩
  have HB := Lib.hid hb
  clear hb
  go_wp2_with fail
  refine (TS.add_nilp _ k).mono ?_
  rintro e w2 ⟨rfl, rfl⟩
  go_wp2_with fail
  refine (TS.find_nil _ k).mono ?_
  rintro e w2 ⟨rfl, rfl⟩
  go_wp2_with fail
  refine (TS.at_nil _ n).mono ?_
  rintro e w2 ⟨rfl, rfl⟩
  go_wp2_with fail
  refine (TS.cut_nilp _ n).mono ?_
  rintro e w2 ⟨rfl, rfl⟩
  go_wp2_with fail
  refine (push_nil _ n).mono ?_
  rintro e w2 ⟨rfl, rfl⟩
  go_wp2_with fail
  refine (mark_nil _).mono ?_
  rintro e w2 ⟨rfl, rfl⟩
  go_wp2_with fail
  refine (pop_nil _).mono ?_
  rintro e w2 ⟨rfl, nq, rfl⟩
  go_wp2_with fail
  refine (back_nil _).mono ?_
  rintro e w2 ⟨rfl, rfl⟩
  go_wp2_with fail
  refine (TS.len_nil _).mono ?_
  rintro e w2 ⟨rfl, rfl⟩
  go_wp2_with fail
  refine (marks_nil _).mono ?_
  rintro e w2 ⟨rfl, rfl⟩
  go_wp2_with fail
  refine (all_nil _).mono ?_
  rintro e w2 ⟨rfl, rfl⟩
  go_wp2_with fail
  go_ret
  exact ⟨rfl, below_drewN HB.out nq⟩

/-! ### tables of whole numbers -/
def HasI (w0 w : World) (tb : Nat) (ks : List Int) (N : Nat) : Prop := ∃ vl vm, TI.Tbl w w0.heap.size tb vl vm ks N ∧ Below w0.heap.size w0 w
theorem HasI.left {w0 w w' : World} {tb N N' : Nat} {vl vm : Value} {ks ks' : List Int} (h : TI.Tbl w w0.heap.size tb vl vm ks N) (hb : Below w0.heap.size w0 w) (hl : TI.LeftT w w0.heap.size tb vl vm ks' N' w') : HasI w0 w' tb ks' N' := by
  have hb' := hl.below h hb.size
  obtain ⟨vl', vm', k1, _⟩ := hl
  exact ⟨vl', vm', k1, hb.trans hb'⟩
theorem HasI.drewN {w0 w : World} {tb N : Nat} {ks : List Int} (h : HasI w0 w tb ks N) (n : Nat) : HasI w0 (w.drewN n) tb ks N := by
  obtain ⟨vl, vm, ht, hb⟩ := h
  exact ⟨vl, vm, ht.drewN n, below_drewN hb n⟩
theorem iadd (w0 w : World) {tb N : Nat} {ks : List Int} (h : HasI w0 w tb ks N) (k : Int) (hk : TI.okk k) (hl : ks.length ≤ 1000000) (hN : N ≤ 1000000) {i : Int} {b : Bool} {ks' : List Int} (h1 : TI.addI ks k = i) (h2 : TI.addB ks k = b) (h3 : TI.addL ks k = ks') :
    Calls Try.prog 23 #[.pointer (some ⟨tb, 0, none⟩), .int .i64 k] w fun e w' => e = .returned (.tuple #[.int .i64 i, .bool b]) ∧ HasI w0 w' tb ks' (N + 1) := by
  obtain ⟨vl, vm, ht, hb⟩ := h
  refine (TI.add_any w ht hk hl hN).mono ?_
  rintro e w' ⟨rfl, hleft⟩
  rw [h1, h2]
  rw [h3] at hleft
  exact ⟨rfl, HasI.left ht hb hleft⟩
theorem icut (w0 w : World) {tb N : Nat} {ks : List Int} (h : HasI w0 w tb ks N) (n : Int) (hl : ks.length ≤ 1000000) :
    Calls Try.prog 26 #[.pointer (some ⟨tb, 0, none⟩), .int .i64 n] w fun e w' => e = .returned (.tuple #[]) ∧ HasI w0 w' tb (ks.take n.toNat) N := by
  obtain ⟨vl, vm, ht, hb⟩ := h
  refine (TI.cut_any w ht n hl).mono ?_
  rintro e w' ⟨rfl, hleft⟩
  exact ⟨rfl, HasI.left ht hb hleft⟩
theorem ifind (w0 w : World) {tb N : Nat} {ks : List Int} (h : HasI w0 w tb ks N) (k : Int) (hk : TI.okk k) {i : Int} {b : Bool} (h1 : posI ks k = i) (h2 : posB ks k = b) :
    Calls Try.prog 24 #[.pointer (some ⟨tb, 0, none⟩), .int .i64 k] w fun e w' => e = .returned (.tuple #[.int .i64 i, .bool b]) ∧ w = w' := by
  obtain ⟨vl, vm, ht, hb⟩ := h
  rw [← h1, ← h2]
  exact TI.find_any w ht hk
theorem ilen (w0 w : World) {tb N : Nat} {ks : List Int} (h : HasI w0 w tb ks N) :
    Calls Try.prog 25 #[.pointer (some ⟨tb, 0, none⟩)] w fun e w' => e = .returned (.int .i64 ks.length) ∧ w = w' := by
  obtain ⟨vl, vm, ht, hb⟩ := h
  exact TI.len_any w ht

/-- The keys of a list, each once. -/
def keys (l : List Int) : List Int := l.foldl TI.addL []
theorem keys_snoc (l : List Int) (x : Int) : keys (l ++ [x]) = TI.addL (keys l) x := by simp [keys]
theorem keys_len (l : List Int) : (keys l).length ≤ l.length := by
  have : ∀ (l : List Int) (acc : List Int), (l.foldl TI.addL acc).length ≤ acc.length + l.length := by
    intro l
    induction l with
    | nil => intro acc; simp
    | cons x l ih =>
      intro acc
      have h1 := ih (TI.addL acc x)
      have h2 := TI.addL_len acc x
      simp only [List.foldl_cons, List.length_cons]
      omega
  simpa [keys] using this l []

theorem idx_take {ks : List Int} {k : Int} {m : Nat} : idx (ks.take m) k = (idx ks k).bind fun i => if i < m then some i else none := by
  cases e : idx ks k with
  | none =>
    have h : k ∉ ks.take m := fun h => idx_none.1 e (List.mem_of_mem_take h)
    rw [idx_none.2 h]
    rfl
  | some i =>
    have hs := idx_some e
    by_cases hi : i < m
    · simp only [Option.bind_some, if_pos hi]
      have hlen : i < (ks.take m).length := by simp; omega
      have hg : (ks.take m)[i]? = some k := by rw [List.getElem?_take, if_pos hi]; exact hs.2.1
      cases e2 : idx (ks.take m) k with
      | none => exact absurd (List.mem_of_getElem? hg) (idx_none.1 e2)
      | some j =>
        have hj := idx_some e2
        rcases Nat.lt_trichotomy j i with h | h | h
        · have h2 := hj.2.1
          rw [List.getElem?_take, if_pos (by omega)] at h2
          exact absurd h2 (hs.2.2 j h)
        · rw [h]
        · exact absurd hg (hj.2.2 i h)
    · simp only [Option.bind_some, if_neg hi]
      rw [idx_none]
      intro hm
      obtain ⟨j, hj, hl⟩ := idx_mem hm
      have h2 := (idx_some hj).2.1
      have hjm : j < m := by simp at hl; omega
      rw [List.getElem?_take, if_pos hjm] at h2
      exact hs.2.2 j (by omega) h2

/-- What TableCuts asks: what is there, and what is left. -/
theorem cuts_facts (ks : List Int) (n k : Int) :
    ((posB ks k = false ∧ posI ks k = 0 ∧ posB (ks.take n.toNat) k = false ∧ TI.addB (ks.take n.toNat) k = true ∧ TI.addI (ks.take n.toNat) k = ((ks.take n.toNat).length : Int)) ∨
     (posB ks k = true ∧ posB (ks.take n.toNat) k = true ∧ posI (ks.take n.toNat) k = posI ks k ∧ posI ks k < n ∧ TI.addB (ks.take n.toNat) k = false ∧ TI.addI (ks.take n.toNat) k = posI ks k) ∨
     (posB ks k = true ∧ posB (ks.take n.toNat) k = false ∧ ¬ posI ks k < n ∧ TI.addB (ks.take n.toNat) k = true ∧ TI.addI (ks.take n.toNat) k = ((ks.take n.toNat).length : Int))) ∧
    ((n < 0 ∧ ((ks.take n.toNat).length : Int) = 0) ∨ (0 ≤ n ∧ n < ks.length ∧ ((ks.take n.toNat).length : Int) = n) ∨ (0 ≤ n ∧ (ks.length : Int) ≤ n ∧ ((ks.take n.toNat).length : Int) = ks.length)) := by
  have ht : idx (ks.take n.toNat) k = (idx ks k).bind fun i => if i < n.toNat then some i else none := idx_take
  have hAB : ∀ l : List Int, TI.addB l k = !posB l k := by intro l; unfold TI.addB; cases posB l k <;> simp
  have hAI : ∀ l : List Int, TI.addI l k = if posB l k = true then posI l k else (l.length : Int) := fun l => rfl
  refine ⟨?_, ?_⟩
  · cases e : idx ks k with
    | none =>
      rw [e, Option.bind_none] at ht
      left
      simp [posB, posI, e, ht, hAB, hAI]
    | some i =>
      by_cases hi : i < n.toNat
      · rw [e, Option.bind_some, if_pos hi] at ht
        right; left
        simp [posB, posI, e, ht, hAB, hAI]
        omega
      · rw [e, Option.bind_some, if_neg hi] at ht
        right; right
        simp [posB, posI, e, ht, hAB, hAI]
        omega
  · simp only [List.length_take]
    omega
end Go.Proofs.Ytngiekofaeaaoaa
