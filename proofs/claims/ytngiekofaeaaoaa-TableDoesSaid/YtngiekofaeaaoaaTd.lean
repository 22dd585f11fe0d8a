/- Walks over package table and its reference: All, Ints, the reference's stack. -/
import Derived.Test.YtngiekofaeaaoaaTc
namespace Go.Proofs.Ytngiekofaeaaoaa
open Go.RowKit

/-- A slice of numbers is answered, in new memory. -/
def NewRow (w : World) (xs : List Int) (e : Ending) (w' : World) : Prop := ∃ v, e = .returned v ∧ Rd w' (fun k => w.heap.size ≤ k) v (ints xs) ∧ Below w.heap.size w w'

theorem clone_nil (w : World) : Calls Try.prog 37 #[.slice none 0 0] w (NewRow w []) := by
  have he := fun w a l c => Lib.run_eql_slice_nil (P := Try.prog) w 25 3 a l c 0 0 Try.underlying25
  go_enter Try.func37, Try.ntmps37
  go_wp2
  go_ret
  exact ⟨_, rfl, .inl ⟨rfl, rfl⟩, Below.refl _ _⟩

theorem clone_some (w : World) {P : Nat → Prop} {g o n cap : Nat} {xs : List Int} (h : Rd w P (.slice (some ⟨g, o, none⟩) n cap) (ints xs)) (hl : xs.length ≤ 1000000) : Calls Try.prog 37 #[.slice (some ⟨g, o, none⟩) n cap] w (NewRow w xs) := by
  have hs := Lib.hid (h.below ((Below.refl _ _).alloc (Nat.le_refl _) (.cells #[] 3)))
  have H2 : Hid ((([] : List Value).length + (ints xs).length) * (8 + 1) ≤ 70000000000000) := by
    have := ints_length xs
    show _ ≤ _
    simp only [List.length_nil]
    omega
  have H3 : Hid (w.heap.size ≤ (w.alloc (.cells #[] 3)).heap.size) := by
    show _ ≤ _
    simp
  have HO : Hid (Own (w.alloc (.cells #[] 3)) w.heap.size 3 (.slice (some ⟨w.heap.size, 0, none⟩) 0 0) []) :=
    Own.mk (cs := []) (Nat.le_refl _) (heap_alloc_new w _) (by simp) (by simp) rfl (by simp)
  have he := fun w a l c => Lib.run_eql_slice_nil (P := Try.prog) w 25 3 a l c 0 0 Try.underlying25
  clear h
  go_enter Try.func37, Try.ntmps37
  go_wp2_with (at_builtin; refine app_wp rfl (.tmp 5) (.tmp 6) rfl Try.underlying25 info3 rfl (by omega) w.heap.size (.slice (some ⟨w.heap.size, 0, none⟩) 0 0) _ rfl rfl HO.out hs.out (ints_one xs) H2.out H3.out ?_; intro ra n c2 w1 ho hg hl')
  go_ret
  have hb : Below w.heap.size w w1 := ((Below.refl _ _).alloc (Nat.le_refl _) _).trans ⟨hg.os, hg.tape, hg.output, hg.size, fun k hk => hg.block k (by simp; omega) (fun e => by simp [Value.ownBlock] at e; omega)⟩
  refine ⟨_, rfl, ?_, hb⟩
  refine (ho.rd).mono fun k _ hk => (ho.lt hk).2

theorem clone_any (w : World) {P : Nat → Prop} {v : Value} {xs : List Int} (h : Rd w P v (ints xs)) (hl : xs.length ≤ 1000000) : Calls Try.prog 37 #[v] w (NewRow w xs) := by
  by_cases hn : v = .slice none 0 0
  · subst hn
    rcases h with ⟨_, h⟩ | ⟨g, o, cap, h, _⟩
    · have : xs = [] := by simpa [ints] using h
      subst this
      exact clone_nil w
    · cases h
  · rcases h with ⟨h, _⟩ | ⟨g, o, cap, rfl, h1, h2, h3, h4⟩
    · exact absurd h hn
    · exact clone_some w (.inr ⟨g, o, cap, rfl, h1, h2, h3, h4⟩) hl

theorem all_any (w : World) {B sb : Nat} {vl vm : Value} {xs ms : List Int} (h : Stk w B sb vl vm xs ms) (hl : xs.length ≤ 1000000) :
    Calls Try.prog 20 #[.pointer (some ⟨sb, 0, none⟩)] w (NewRow w xs) := by
  have c0 := h.c0
  have HR := Lib.hid h.l.rd
  clear h
  go_enter Try.func20, Try.ntmps20
  go_wp2_with fail
  refine (clone_any _ HR.out hl).mono ?_
  rintro e w1 ⟨v, rfl, h1, h2⟩
  have K := Lib.hid (And.intro h1 h2)
  clear h1 h2
  go_wp2_with fail
  go_ret
  exact ⟨v, rfl, K.out.1, K.out.2⟩

/-- Two lists of numbers are compared. -/
theorem ints_far (w : World) (a b : Option Addr) (n m c d : Nat) (h : n ≠ m) : Calls Try.prog 19 #[.slice a n c, .slice b m d] w fun e w' => e = .returned (.bool false) ∧ ∃ k, w' = w.drewN k := by
  have hd : ((n : Int) != (m : Int)) = true := by rw [bne_iff_ne]; omega
  go_enter Try.func19, Try.ntmps19
  go_wp2
  go_ret
  exact ⟨rfl, 0, rfl⟩

theorem ints_zero (w : World) (a b : Option Addr) (c d : Nat) : Calls Try.prog 19 #[.slice a 0 c, .slice b 0 d] w fun e w' => e = .returned (.bool true) ∧ ∃ k, w' = w.drewN k := by
  go_enter Try.func19, Try.ntmps19
  go_wp2_with fail
  refine wp_loop_rounds 1 ?_
  rw [rounds_succ]
  go_wp2_with fail
  go_ret
  exact ⟨rfl, 0, rfl⟩

/-- Are lists alike from place k on? -/
def like : List Int → List Int → Nat → Bool
  | xs, ys, k => decide (xs.take k = ys.take k)
theorem like_zero (xs ys : List Int) : like xs ys 0 = true := by simp [like]
theorem like_all {xs ys : List Int} {n : Nat} (h1 : xs.length = n) (h2 : ys.length = n) : like xs ys n = decide (xs = ys) := by
  simp only [like]
  rw [List.take_of_length_le (by omega), List.take_of_length_le (by omega)]
theorem like_step {xs ys : List Int} {k : Nat} (h1 : k < xs.length) (h2 : k < ys.length) (h : like xs ys k = true) (he : xs.getD k 0 = ys.getD k 0) : like xs ys (k + 1) = true := by
  simp only [like, decide_eq_true_eq] at h ⊢
  rw [List.take_succ_eq_append_getElem h1, List.take_succ_eq_append_getElem h2, h]
  simp [List.getD_eq_getElem?_getD, h1, h2] at he
  rw [he]
theorem like_stop {xs ys : List Int} {k : Nat} (he : xs.getD k 0 ≠ ys.getD k 0) : decide (xs = ys) = false := by
  simp only [decide_eq_false_iff_not]
  rintro rfl
  exact he rfl

set_option maxHeartbeats 400000 in
theorem ints_near (w : World) (g1 o1 c g2 o2 d : Nat) (xs ys : List Int) (n : Nat) (h1 : xs.length = n) (h2 : ys.length = n) (hl : n ≤ 1000000)
    (hx : ∀ j, j < n → w.cell? ⟨g1, o1 + j, none⟩ = some (.int .i64 (xs.getD j 0))) (hy : ∀ j, j < n → w.cell? ⟨g2, o2 + j, none⟩ = some (.int .i64 (ys.getD j 0))) :
    Calls Try.prog 19 #[.slice (some ⟨g1, o1, none⟩) n c, .slice (some ⟨g2, o2, none⟩) n d] w fun e w' => e = .returned (.bool (decide (xs = ys))) ∧ ∃ k, w' = w.drewN k := by
  have H1 := Lib.hid h1
  have H2 := Lib.hid h2
  have HX := Lib.hid hx
  have HY := Lib.hid hy
  have H0 := Lib.hid (like_zero xs ys)
  have hd : ((n : Int) != (n : Int)) = false := by simp
  clear h1 h2 hx hy
  go_enter Try.func19, Try.ntmps19
  go_wp2_with fail
  go_loopw [5] (fun i wr => ∃ k : Nat, k ≤ n ∧ i = .int .i64 k ∧ like xs ys k = true ∧ ∃ q, wr = w.drewN q) (fun i _ => n - (intOf i).toNat)
  case atStart => exact ⟨0, by omega, rfl, H0.out, 0, rfl⟩
  case round =>
    obtain ⟨k, hk, rfl, hlk, q, rfl⟩ := hrel
    have HL := Lib.hid hlk
    clear hlk
    by_cases hlt : k < n
    · have q1 := HX.out k hlt
      have q2 := HY.out k hlt
      obtain ⟨x, hx⟩ : ∃ x, x = xs.getD k 0 := ⟨_, rfl⟩
      obtain ⟨y, hy⟩ : ∃ y, y = ys.getD k 0 := ⟨_, rfl⟩
      rw [← hx] at q1
      rw [← hy] at q2
      have HXX := Lib.hid hx
      have HYY := Lib.hid hy
      clear hx hy
      by_cases he : x = y
      · have hb : (x != y) = false := by rw [he]; simp
        have HE := Lib.hid he
        clear he
        go_wp2_with fail
        go_quiet (fail)
        go_wp2_with fail
        go_roundw
        case rel => exact ⟨k + 1, by omega, by go_num, like_step (by rw [H1.out]; exact hlt) (by rw [H2.out]; exact hlt) HL.out (by rw [← HXX.out, ← HYY.out]; exact HE.out), _, rfl⟩
        case measure => simp [intOf]; omega
      · have hb : (x != y) = true := by rw [bne_iff_ne]; exact he
        have HE := Lib.hid he
        clear he
        go_wp2_with fail
        go_quiet (fail)
        go_wp2_with fail
        go_ret
        exact ⟨by rw [like_stop (by rw [← HXX.out, ← HYY.out]; exact HE.out)]; rfl, _, World.drewN_drewN _ _ _⟩
    · obtain rfl : k = n := by omega
      go_wp2_with fail
      go_ret
      exact ⟨by rw [← like_all H1.out H2.out, HL.out]; rfl, _, rfl⟩

theorem Rd.shape {w : World} {P : Nat → Prop} {v : Value} {cs : List Value} (h : Rd w P v cs) : ∃ a c, v = .slice a cs.length c := by
  rcases h with ⟨rfl, rfl⟩ | ⟨g, o, cap, rfl, _⟩
  · exact ⟨_, _, rfl⟩
  · exact ⟨_, _, rfl⟩
theorem Rd.some_at {w : World} {P : Nat → Prop} {v : Value} {cs : List Value} (h : Rd w P v cs) (hp : 0 < cs.length) :
    ∃ g o c, v = .slice (some ⟨g, o, none⟩) cs.length c ∧ cs.length ≤ c ∧ g < w.heap.size ∧ P g ∧ ∀ j, j < cs.length → w.cell? ⟨g, o + j, none⟩ = cs[j]? := by
  rcases h with ⟨rfl, rfl⟩ | ⟨g, o, cap, rfl, h1, h2, h3, h4⟩
  · simp at hp
  · exact ⟨g, o, cap, rfl, h1, h3, h2, h4⟩

theorem ints_any (w : World) {P Q : Nat → Prop} {v u : Value} {xs ys : List Int} (h : Rd w P v (ints xs)) (k : Rd w Q u (ints ys)) (hl : xs.length ≤ 1000000) :
    Calls Try.prog 19 #[v, u] w fun e w' => e = .returned (.bool (decide (xs = ys))) ∧ ∃ n, w' = w.drewN n := by
  by_cases hlen : xs.length = ys.length
  · by_cases hp : 0 < xs.length
    · obtain ⟨g1, o1, c, rfl, _, _, _, hx⟩ := h.some_at (by rw [ints_length]; exact hp)
      obtain ⟨g2, o2, d, rfl, _, _, _, hy⟩ := k.some_at (by rw [ints_length]; omega)
      rw [ints_length] at hx hy
      rw [ints_length, ints_length, ← hlen]
      exact ints_near w g1 o1 c g2 o2 d xs ys _ rfl hlen.symm hl (fun j hj => (hx j hj).trans (ints_get _ _ hj)) (fun j hj => (hy j (by omega)).trans (ints_get _ _ (by omega)))
    · obtain ⟨a, c, rfl⟩ := h.shape
      obtain ⟨b, d, rfl⟩ := k.shape
      have e1 : xs = [] := List.eq_nil_of_length_eq_zero (by omega)
      have e2 : ys = [] := List.eq_nil_of_length_eq_zero (by omega)
      subst e1 e2
      simpa [ints] using ints_zero w a b c d
  · obtain ⟨a, c, rfl⟩ := h.shape
    obtain ⟨b, d, rfl⟩ := k.shape
    have : decide (xs = ys) = false := by
      simp only [decide_eq_false_iff_not]
      rintro rfl
      exact hlen rfl
    rw [this, ints_length, ints_length]
    exact ints_far w a b _ _ c d hlen
end Go.Proofs.Ytngiekofaeaaoaa
