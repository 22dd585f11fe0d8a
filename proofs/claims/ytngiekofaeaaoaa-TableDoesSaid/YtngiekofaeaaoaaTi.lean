/- Walks over package table: the table, at keys of type Int (written by a program out of one template). -/
import Derived.Test.YtngiekofaeaaoaaTg
import Derived.StillTailTactics
namespace Go.Proofs.Ytngiekofaeaaoaa.TI
open Go.RowKit Go.Maps

def kv (k : Int) : Value := (Value.int .i64 k)
def kd (k : Int) : Lit := (Lit.int .i64 k)
def okk (k : Int) : Prop := ((Lit.int .i64 k).wf = true)
theorem info9 : (Try.prog.info? 9).map (fun i => (i.zero, i.size, i.bytes)) = some (some (.string ⟨#[]⟩), 1, 16) := by kernel_rfl
theorem law : Keyed Try.prog 3 := int_keyed Try.underlying3
theorem keyof {k : Int} (h : okk k) : keyOf Try.prog 3 (kv k) = some (kd k) := keyOf_int_mk Try.underlying3 h
theorem inj : ∀ a b, kd a = kd b → a = b := by intro a b h; cases h; rfl
theorem iskey (k : Int) : WideAt.IsKeyLit (kd k) := trivial
theorem zeroE (w : World) : (zeroValue 3).run Try.prog w = .ok (.int .i64 0) w := by kernel_rfl
theorem one_kv (ks : List Int) : ∀ x ∈ ks.map kv, x.oneCell' = true := by
  intro x hx
  obtain ⟨y, _, rfl⟩ := List.mem_map.1 hx
  rfl
theorem one_kv1 (k : Int) : ∀ x ∈ [kv k], x.oneCell' = true := one_kv [k]

/-- The struct of a table, its row and its map. -/
structure Tbl (w : World) (B tb : Nat) (vl vm : Value) (ks : List Int) (N : Nat) : Prop where
  row : w.heap[tb]? = some (.cells #[vl, vm] 52 (0, 0))
  base : B ≤ tb
  l : Own w B 3 vl (ks.map kv)
  n1 : vl.ownBlock ≠ some tb
  nd : ks.Nodup
  ok : ∀ k ∈ ks, okk k
  m : (vm = .map none ∧ ks = []) ∨ ∃ mb D, vm = .map (some mb) ∧ B ≤ mb ∧ w.ownsMap Try.prog 3 (plainElem Try.prog 3) mb N D ∧ Keeps kd D ks

/-- The blocks of a table. -/
def tblF (tb : Nat) (vl vm : Value) (k : Nat) : Prop := k = tb ∨ vl.ownBlock = some k ∨ mapBlock vm = some k

section
variable {w : World} {B tb N : Nat} {vl vm : Value} {ks : List Int}
theorem Tbl.c0 (h : Tbl w B tb vl vm ks N) : w.cell? ⟨tb, 0, none⟩ = some vl := by simp [World.cell?, h.row]
theorem Tbl.c1 (h : Tbl w B tb vl vm ks N) : w.cell? ⟨tb, 1, none⟩ = some vm := by simp [World.cell?, h.row]
theorem Tbl.f (h : Tbl w B tb vl vm ks N) (o : Nat) : w.frozen? ⟨tb, o, none⟩ = false := by simp [World.frozen?, h.row]
theorem Tbl.lt (h : Tbl w B tb vl vm ks N) : tb < w.heap.size := (Array.getElem?_eq_some_iff.1 h.row).1
theorem Tbl.mapAt (h : Tbl w B tb vl vm ks N) {k : Nat} (hk : mapBlock vm = some k) : B ≤ k ∧ k < w.heap.size ∧ k ≠ tb ∧ vl.ownBlock ≠ some k := by
  rcases h.m with ⟨rfl, _⟩ | ⟨mb, D, rfl, hB, hm, _⟩
  · simp [mapBlock] at hk
  · simp [mapBlock] at hk
    subst hk
    have hlt := hm.lt
    obtain ⟨es, clock, hb, _⟩ := hm
    refine ⟨hB, hlt, ?_, fun e => ?_⟩
    · rintro rfl
      have := hb.symm.trans h.row
      simp at this
    · rcases h.l.cases with ⟨rfl, _⟩ | ⟨g, cap, cur, rfl, _, hg, _⟩
      · simp [Value.ownBlock] at e
      · simp [Value.ownBlock] at e
        subst e
        have := hb.symm.trans hg
        simp at this
theorem Tbl.foot (h : Tbl w B tb vl vm ks N) {k : Nat} (hk : tblF tb vl vm k) : B ≤ k ∧ k < w.heap.size := by
  rcases hk with rfl | hk | hk
  · exact ⟨h.base, h.lt⟩
  · exact ⟨(h.l.lt hk).2, (h.l.lt hk).1⟩
  · exact ⟨(h.mapAt hk).1, (h.mapAt hk).2.1⟩
theorem Tbl.kept {w' : World} (h : Tbl w B tb vl vm ks N) (hk : ∀ k, tblF tb vl vm k → w'.heap[k]? = w.heap[k]?) : Tbl w' B tb vl vm ks N := by
  refine ⟨(hk tb (.inl rfl)).trans h.row, h.base, h.l.kept fun k e => hk k (.inr (.inl e)), h.n1, h.nd, h.ok, ?_⟩
  rcases h.m with h' | ⟨mb, D, rfl, hB, ⟨es, clock, hb, hr⟩, hD⟩
  · exact .inl h'
  · exact .inr ⟨mb, D, rfl, hB, ⟨es, clock, (hk mb (.inr (.inr rfl))).trans hb, hr⟩, hD⟩
theorem Tbl.below {w' : World} (h : Tbl w B tb vl vm ks N) (hb : Below w.heap.size w w') : Tbl w' B tb vl vm ks N := h.kept fun k hk => hb.block k (h.foot hk).2
theorem Tbl.drewN (h : Tbl w B tb vl vm ks N) (n : Nat) : Tbl (w.drewN n) B tb vl vm ks N := h.kept fun _ _ => rfl
theorem Tbl.mono (h : Tbl w B tb vl vm ks N) {N' : Nat} (hn : N ≤ N') : Tbl w B tb vl vm ks N' := by
  refine ⟨h.row, h.base, h.l, h.n1, h.nd, h.ok, ?_⟩
  rcases h.m with h' | ⟨mb, D, rfl, hB, hm, hD⟩
  · exact .inl h'
  · exact .inr ⟨mb, D, rfl, hB, hm.mono hn, hD⟩

/-- What a look-up in the field is. -/
theorem Tbl.look (h : Tbl w B tb vl vm ks N) {k : Int} (hk : okk k) : (Instr.lookup 50 vm (kv k) true).run Try.prog w = .ok (.tuple #[.int .i64 (posI ks k), .bool (posB ks k)]) w := by
  rcases h.m with ⟨rfl, rfl⟩ | ⟨mb, D, rfl, _, hm, hD⟩
  · exact Maps.look_nil true law Try.underlying50 (zeroE w) (keyof hk)
  · obtain ⟨v, ps, hrun, hv⟩ := hm.look_ok law Try.underlying50 (zeroE w) (plainElem_int Try.underlying3 (by decide)) (keyof hk)
    obtain ⟨c, rfl, hc, _⟩ := plainElem_int_inv Try.underlying3 hv
    have e := hD.look k (congrArg Prod.fst hc)
    rw [hrun, (hD k).1, e]
end

/-- What a call of a method leaves. -/
def LeftT (w : World) (B tb : Nat) (vl vm : Value) (ks : List Int) (N : Nat) (w' : World) : Prop := ∃ vl' vm', Tbl w' B tb vl' vm' ks N ∧ Touch (tblF tb vl vm) (tblF tb vl' vm') w w'

theorem find_any (w : World) {B tb N : Nat} {vl vm : Value} {ks : List Int} (h : Tbl w B tb vl vm ks N) {k : Int} (hk : okk k) :
    Calls Try.prog 24 #[.pointer (some ⟨tb, 0, none⟩), kv k] w fun e w' => e = .returned (.tuple #[.int .i64 (posI ks k), .bool (posB ks k)]) ∧ w = w' := by
  have c1 := h.c1
  have hl := h.look hk
  clear h
  generalize kv k = key at *
  go_enter Try.func24, Try.ntmps24
  go_wp2_with fail
  go_ret2
  exact ⟨rfl, rfl⟩

theorem len_any (w : World) {B tb N : Nat} {vl vm : Value} {ks : List Int} (h : Tbl w B tb vl vm ks N) :
    Calls Try.prog 25 #[.pointer (some ⟨tb, 0, none⟩)] w fun e w' => e = .returned (.int .i64 ks.length) ∧ w = w' := by
  have c0 := h.c0
  obtain ⟨a, c, rfl⟩ := h.l.shape
  rw [List.length_map] at c0
  clear h
  go_enter Try.func25, Try.ntmps25
  go_wp2_with fail
  go_ret
  exact ⟨rfl, rfl⟩

theorem at_none (w : World) {B tb N : Nat} {vl vm : Value} {ks : List Int} (h : Tbl w B tb vl vm ks N) (i : Int) (hi : i < 0 ∨ ks.length ≤ i) :
    Calls Try.prog 35 #[.pointer (some ⟨tb, 0, none⟩), .int .i64 i] w fun e w' => e = .returned (.tuple #[(.int .i64 0), .bool false]) ∧ w = w' := by
  have H := Lib.hid h
  clear h
  by_cases h0 : i < 0
  · clear hi
    go_enter Try.func35, Try.ntmps35
    go_wp2_with fail
    go_ret2
    exact ⟨rfl, rfl⟩
  · have h1 : (ks.length : Int) ≤ i := by omega
    clear hi
    go_enter Try.func35, Try.ntmps35
    go_wp2_with fail
    refine (len_any _ H.out).mono ?_
    rintro e w1 ⟨rfl, rfl⟩
    go_wp2_with fail
    go_ret2
    exact ⟨rfl, rfl⟩

theorem at_some (w : World) {B tb N : Nat} {vl vm : Value} {ks : List Int} (h : Tbl w B tb vl vm ks N) (i : Nat) (k : Int) (hi : ks[i]? = some k) :
    Calls Try.prog 35 #[.pointer (some ⟨tb, 0, none⟩), .int .i64 i] w fun e w' => e = .returned (.tuple #[kv k, .bool true]) ∧ w = w' := by
  have H := Lib.hid h
  have hlt := (List.getElem?_eq_some_iff.1 hi).1
  have c0 := h.c0
  obtain ⟨g, c, rfl, h1, h2, hc, hf⟩ := h.l.some_at (by rw [List.length_map]; omega)
  have hcell := hc i (by rw [List.length_map]; exact hlt)
  rw [List.getElem?_map, hi, Option.map_some] at hcell
  rw [List.length_map] at c0 H
  clear h hi hc hf h1 h2
  generalize kv k = key at *
  have b0 : ¬ (i : Int) < 0 := by omega
  have b1 : ¬ (ks.length : Int) ≤ (i : Int) := by omega
  go_enter Try.func35, Try.ntmps35
  go_wp2_with fail
  refine (len_any _ H.out).mono ?_
  rintro e w1 ⟨rfl, rfl⟩
  go_wp2_with fail
  go_ret2
  exact ⟨rfl, rfl⟩

theorem add_old (w : World) {B tb N : Nat} {vl vm : Value} {ks : List Int} (h : Tbl w B tb vl vm ks N) {k : Int} (hk : okk k) (hm : k ∈ ks) :
    Calls Try.prog 23 #[.pointer (some ⟨tb, 0, none⟩), kv k] w fun e w' => e = .returned (.tuple #[.int .i64 (posI ks k), .bool false]) ∧ w = w' := by
  have c1 := h.c1
  have hl := h.look hk
  rw [posB_mem.2 hm] at hl
  clear h
  generalize kv k = key at *
  go_enter Try.func23, Try.ntmps23
  go_wp2_with fail
  go_ret2
  exact ⟨rfl, rfl⟩

theorem Touch.post {F F' : Nat → Prop} {x y z : World} (h : Touch F F' x y) (hb : Below y.heap.size y z) : Touch F F' x z :=
  ⟨hb.os.trans h.os, hb.tape.trans h.tape, hb.output.trans h.output, Nat.le_trans h.size hb.size, fun k hk hF => (hb.block k (Nat.lt_of_lt_of_le hk h.size)).trans (h.block k hk hF), h.new⟩

/-- The map has the key, the row has it, and the row's value is written. -/
theorem add_close {w w2 w3 : World} {B tb N mb n c : Nat} {vl : Value} {ks : List Int} {k : Int} {ra : Option Addr} {D : DataW Unit} (h : Tbl w B tb vl (.map (some mb)) ks N) (hk : okk k) (hn : k ∉ ks)
    (hown : w.ownsMap Try.prog 3 (plainElem Try.prog 3) mb N D) (hD : Keeps kd D ks)
    (h2 : w2.ownsMap Try.prog 3 (plainElem Try.prog 3) mb (N + 1) (D.put (kd k) (.lit (.int .i64 (ks.length : Nat))))) (g2 : w.drew.grownBy w2 (some mb))
    (h3 : Own w3 B 3 (.slice ra n c) (ks.map kv ++ [kv k])) (g3 : (w2.alloc (.cells #[kv k] 3)).grownBy w3 vl.ownBlock)
    (hl : (Value.slice ra n c).ownBlock = vl.ownBlock ∨ (Value.slice ra n c).ownBlock = some (w2.alloc (.cells #[kv k] 3)).heap.size) :
    Tbl (w3.setCell ⟨tb, 0, none⟩ (.slice ra n c)) B tb (.slice ra n c) (.map (some mb)) (ks ++ [k]) (N + 1) ∧ Touch (tblF tb vl (.map (some mb))) (tblF tb (.slice ra n c) (.map (some mb))) w (w3.setCell ⟨tb, 0, none⟩ (.slice ra n c)) := by
  have hmb := h.mapAt (k := mb) rfl
  have hs2 : w.heap.size ≤ w2.heap.size := g2.size
  have hs3 : w2.heap.size + 1 ≤ w3.heap.size := by have := g3.size; simpa using this
  have htb := h.lt
  have hne : (Value.slice ra n c).ownBlock ≠ some tb := fun e => by
    rcases hl with hl | hl
    · exact h.n1 (hl ▸ e)
    · rw [hl] at e; simp at e; omega
  have hnm : (Value.slice ra n c).ownBlock ≠ some mb := fun e => by
    rcases hl with hl | hl
    · exact hmb.2.2.2 (hl ▸ e)
    · rw [hl] at e; simp at e; omega
  -- a block that is neither the map's nor the row's
  have step : ∀ j, j < w.heap.size → j ≠ tb → j ≠ mb → vl.ownBlock ≠ some j → (w3.setCell ⟨tb, 0, none⟩ (.slice ra n c)).heap[j]? = w.heap[j]? := fun j hj h1 h4 h5 => by
    rw [Below.heap_setCell _ _ _ _ h1, g3.block j (by simp; omega) (fun e => h5 e.symm), Below.heap_alloc _ _ _ (by omega)]
    exact g2.block j hj (fun e => h4 (by simpa using e))
  have hrow : w3.heap[tb]? = some (.cells #[vl, .map (some mb)] 52 (0, 0)) := by
    rw [g3.block tb (by simp; omega) (fun e => h.n1 e.symm), Below.heap_alloc _ _ _ (by omega)]
    exact (g2.block tb htb (fun e => hmb.2.2.1 (by simpa using e.symm))).trans h.row
  refine ⟨⟨?_, h.base, ?_, hne, ?_, ?_, .inr ⟨mb, _, rfl, hmb.1, ?_, hD.add inj hown.isMap (iskey k) hn⟩⟩, ⟨g3.os.trans g2.os, g3.tape.trans g2.tape, g3.output.trans g2.output, ?_, ?_, ?_⟩⟩
  · simp [World.setCell, Array.getElem?_modify, hrow]
  · rw [List.map_append, List.map_singleton]
    exact h3.kept fun j e => Below.heap_setCell _ _ _ _ (fun e' => hne (by rw [e, e']))
  · rw [List.nodup_append]
    exact ⟨h.nd, by simp, fun a ha b hb e => by simp at hb; subst hb; exact hn (e ▸ ha)⟩
  · intro x hx
    rcases List.mem_append.1 hx with hx | hx
    · exact h.ok x hx
    · obtain rfl := List.mem_singleton.1 hx
      exact hk
  · have m3 := (h2.alloc (.cells #[kv k] 3)).kept g3 (fun e => hmb.2.2.2 e.symm)
    exact m3.setCell (fun e => hmb.2.2.1 e) _
  · have : w3.heap.size = (w3.setCell ⟨tb, 0, none⟩ (.slice ra n c)).heap.size := by simp [World.setCell]
    omega
  · intro j hj hF
    exact step j hj (fun e => hF (.inl e)) (fun e => hF (.inr (.inr (by rw [e]; rfl)))) (fun e => hF (.inr (.inl e)))
  · rintro j (rfl | e | e)
    · exact .inl (.inl rfl)
    · rcases hl with hl | hl
      · exact .inl (.inr (.inl (hl ▸ e)))
      · rw [hl] at e; simp at e; right; omega
    · exact .inl (.inr (.inr e))

theorem own_len {w : World} {B e n c : Nat} {ra : Option Addr} {ks : List Int} {k : Int} (h : Own w B e (.slice ra n c) (ks.map kv ++ [kv k])) : n = ks.length + 1 := by
  obtain ⟨_, _, e⟩ := h.shape
  cases e
  simp

set_option maxHeartbeats 1000000 in
theorem add_some (w : World) {B tb N mb : Nat} {vl : Value} {ks : List Int} (h : Tbl w B tb vl (.map (some mb)) ks N) {k : Int} (hk : okk k) (hn : k ∉ ks) (hl : ks.length ≤ 1000000) (hN : N ≤ 1000000) :
    Calls Try.prog 23 #[.pointer (some ⟨tb, 0, none⟩), kv k] w fun e w' => e = .returned (.tuple #[.int .i64 ks.length, .bool true]) ∧ LeftT w B tb vl (.map (some mb)) (ks ++ [k]) (N + 1) w' := by
  have H := Lib.hid h
  have c0 := h.c0
  have c1 := h.c1
  have f0 := h.f 0
  have hlt := h.lt
  have hB := h.base
  have hlook : (Instr.lookup 50 (.map (some mb)) ((Value.int .i64 k)) true).run Try.prog w = .ok (.tuple #[.int .i64 (posI ks k), .bool (posB ks k)]) w := h.look hk
  rw [posB_false.2 hn] at hlook
  have hp : posI ks k = 0 := by simp [posI, idx_none.2 hn]
  rw [hp] at hlook
  clear hp
  obtain ⟨D, hown, hD⟩ : ∃ D, w.ownsMap Try.prog 3 (plainElem Try.prog 3) mb N D ∧ Keeps kd D ks := by
    rcases h.m with ⟨h', _⟩ | ⟨mb', D, h', _, ho, hD⟩
    · cases h'
    · cases h'; exact ⟨D, ho, hD⟩
  have HO := Lib.hid (And.intro hown hD)
  have hne := Lib.hid (h.mapAt (k := mb) rfl)
  obtain ⟨la, lc, rfl⟩ := h.l.shape
  rw [List.length_map] at c0 H
  have H2 : Hid (((ks.map kv).length + [kv k].length) * (8 + 1) ≤ 70000000000000) := by show _ ≤ _; simp; omega
  have HK := Lib.hid (keyof hk)
  have HOK := Lib.hid (And.intro hk hn)
  have hmn := fun w r => run_eql_map_nil (P := Try.prog) w 50 3 3 r Try.underlying50
  have wfl : (Lit.int .i64 (ks.length : Int)).wf = true := WalkArith.wf_i64 (by omega)
  have HW := Lib.hid wfl
  have HM : Hid (N < maxLen) := by show _ < _; unfold maxLen; omega
  clear h hown hD hk hn wfl
  rw [List.length_map]
  have One := Lib.hid (one_kv1 k)
  show Calls Try.prog 23 #[.pointer (some ⟨tb, 0, none⟩), (Value.int .i64 k)] w _
  go_enter Try.func23, Try.ntmps23
  go_wp2_with fail
  go_still_tail 10, (by kernel_rfl)
  change wpList _ _ _ _ _ w.drew
  refine wpList_mapUpdate_own w.drew rfl (.tmp 33) (.tmp 34) (.tmp 39) 50 rfl 3 3 law Try.underlying50 (plainElem Try.prog 3) mb N D rfl HO.out.1.drew HM.out _ _ (kd k) rfl rfl HK.out _ [] (plainElem_int Try.underlying3 HW.out) ?_
  intro w2 hown2 hg2
  have d0 := grown_cell (w := w.drew) hg2 c0 (by intro e; exact hne.out.2.2.1 (by simpa using e))
  have d1 := (grown_frozen (w := w.drew) hg2 0 hlt (by intro e; exact hne.out.2.2.1 (by simpa using e))).trans f0
  have HR : Hid (Own w2 B 3 (.slice la ks.length lc) (ks.map kv)) := Own.grown (w := w.drew) (by have := H.out.l; exact this) hg2 (fun j e e' => by cases e'; have := hne.out.2.2.2; rw [List.length_map] at this; exact this e)
  have HA := Lib.hid (HR.out.below ((Below.refl _ _).alloc (Nat.le_refl _) (.cells #[kv k] 3)))
  have H3 : Hid (B ≤ (w2.alloc (.cells #[kv k] 3)).heap.size) := by
    show _ ≤ _
    have : w.heap.size ≤ w2.heap.size := hg2.size
    simp only [World.size_alloc]
    omega
  have hn1 : Hid ((Value.slice la ks.length lc).ownBlock ≠ some tb) := H.out.n1
  have K1 := Lib.hid hown2
  have K2 := Lib.hid hg2
  have hd0 : (w2.alloc (.cells #[(Value.int .i64 k)] 3)).cell? ⟨tb, 0, none⟩ = some (.slice la ks.length lc) := by simp [World.cell?_alloc_some, d0]
  have hd1 : (w2.alloc (.cells #[(Value.int .i64 k)] 3)).frozen? ⟨tb, 0, none⟩ = false := by
    rw [World.frozen?_of_block (w := w2) (Below.heap_alloc _ _ _ (World.block_lt_of_cell? w2 _ d0))]
    exact d1
  have HD := Lib.hid (And.intro hd0 hd1)
  clear hown2 hg2 hlook hd0 hd1 c0 c1 f0
  go_wp2_with (at_builtin; refine app_wp rfl (.tmp 44) (.tmp 46) rfl Try.underlying25 info3 rfl (by omega) B (.slice la ks.length lc) _ rfl rfl HA.out (rd_one w2 (kv k) 3) One.out H2.out H3.out ?_; intro ra n c w3 ho hg hl'; obtain rfl : n = ks.length + 1 := own_len ho; have e0 := grown_cell hg HD.out.1 hn1.out; have e1 := (grown_frozen hg 0 (World.block_lt_of_cell? _ _ HD.out.1) hn1.out).trans HD.out.2)
  go_ret2
  obtain ⟨k1, k2⟩ := add_close H.out HOK.out.1 HOK.out.2 HO.out.1 HO.out.2 K1.out K2.out ho hg hl'
  exact ⟨rfl, _, _, k1, k2⟩

/-- A map is made for a table that has none. -/
theorem nil_made {w : World} {B tb N : Nat} {vl : Value} (h : Tbl w B tb vl (.map none) [] N) :
    Tbl ((w.setCell ⟨tb, 1, none⟩ (.map (some w.heap.size))).alloc (.map #[] 0)) B tb vl (.map (some w.heap.size)) [] N ∧
    Touch (tblF tb vl (.map none)) (tblF tb vl (.map (some w.heap.size))) w ((w.setCell ⟨tb, 1, none⟩ (.map (some w.heap.size))).alloc (.map #[] 0)) := by
  have hlt := h.lt
  have hsz : (w.setCell ⟨tb, 1, none⟩ (.map (some w.heap.size))).heap.size = w.heap.size := by simp [World.setCell]
  have hrow : (w.setCell ⟨tb, 1, none⟩ (.map (some w.heap.size))).heap[tb]? = some (.cells #[vl, .map (some w.heap.size)] 52 (0, 0)) := by
    simp [World.setCell, Array.getElem?_modify, h.row]
  refine ⟨⟨(Below.heap_alloc _ _ _ (by rw [hsz]; exact hlt)).trans hrow, h.base, ?_, h.n1, by simp, by simp, .inr ⟨w.heap.size, .map [], rfl, by have := h.base; omega, ?_, Keeps.none kd⟩⟩, ⟨rfl, rfl, rfl, by simp [World.setCell], ?_, ?_⟩⟩
  · have h1 : Own (w.setCell ⟨tb, 1, none⟩ (.map (some w.heap.size))) B 3 vl ([].map kv) := h.l.kept fun j e => Below.heap_setCell _ _ _ _ (fun e' => h.n1 (by rw [e, e']))
    exact h1.below ((Below.refl _ _).alloc (Nat.le_refl _) _)
  · have := (World.ownsMap_made (H := Unit) (w.setCell ⟨tb, 1, none⟩ (.map (some w.heap.size))) Try.prog 3 (plainElem Try.prog 3)).mono (Nat.zero_le N)
    rwa [hsz] at this
  · intro j hj hF
    rw [Below.heap_alloc _ _ _ (by rw [hsz]; exact hj)]
    exact Below.heap_setCell _ _ _ _ (fun e => hF (.inl e))
  · rintro j (rfl | e | e)
    · exact .inl (.inl rfl)
    · exact .inl (.inr (.inl e))
    · right; simp [mapBlock] at e; omega

set_option maxHeartbeats 1000000 in
theorem add_nil (w0 : World) {B tb N : Nat} {vl : Value} (h0 : Tbl w0 B tb vl (.map none) [] N) {k : Int} (hk : okk k) (hN : N ≤ 1000000) :
    Calls Try.prog 23 #[.pointer (some ⟨tb, 0, none⟩), kv k] w0 fun e w' => e = .returned (.tuple #[.int .i64 0, .bool true]) ∧ LeftT w0 B tb vl (.map none) [k] (N + 1) w' := by
  obtain ⟨la, lc, rfl⟩ := h0.l.shape
  simp only [List.map_nil, List.length_nil] at h0 ⊢
  have Q0 := h0.c0
  have Q1 := h0.c1
  have Qf0 := h0.f 0
  have Qf1 := h0.f 1
  have Qlook : (Instr.lookup 50 (.map none) ((Value.int .i64 k)) true).run Try.prog w0 = .ok (.tuple #[.int .i64 (posI [] k), .bool (posB [] k)]) w0 := h0.look hk
  rw [posB_false.2 (by simp), show posI [] k = 0 from rfl] at Qlook
  obtain ⟨hh, hT⟩ := nil_made h0
  have HH := Lib.hid hh
  have HT := Lib.hid hT
  have Qlt := h0.lt
  have HK := Lib.hid (keyof hk)
  have HOK := Lib.hid (And.intro hk (show k ∉ ([] : List Int) by simp))
  have hmn := fun w r => run_eql_map_nil (P := Try.prog) w 50 3 3 r Try.underlying50
  have hmm := @run_makeMap Try.prog
  have HW : Hid ((Lit.int .i64 ((0 : Nat) : Int)).wf = true) := Lib.hid (WalkArith.wf_i64 (by omega))
  have HM : Hid (N < maxLen) := by show _ < _; unfold maxLen; omega
  have H2 : Hid ((([] : List Value).length + [kv k].length) * (8 + 1) ≤ 70000000000000) := by show _ ≤ _; simp
  have One := Lib.hid (one_kv1 k)
  clear h0 hh hT hk
  show Calls Try.prog 23 #[.pointer (some ⟨tb, 0, none⟩), (Value.int .i64 k)] w0 _
  go_enter Try.func23, Try.ntmps23
  go_upto_region 8 with fail
  change Code.wp _ _ _ _ ((w0.setCell ⟨tb, 1, none⟩ (.map (some w0.heap.size))).alloc (.map #[] 0))
  obtain ⟨w, hw⟩ : ∃ w, w = (w0.setCell ⟨tb, 1, none⟩ (.map (some w0.heap.size))).alloc (.map #[] 0) := ⟨_, rfl⟩
  rw [← hw] at HH HT ⊢
  clear hw Q0 Q1 Qf0 Qf1 Qlook Qlt
  generalize w0.heap.size = mb at *
  have H := Lib.hid HH.out
  have c0 := HH.out.c0
  have f0 := HH.out.f 0
  have hlt := HH.out.lt
  have hB := HH.out.base
  obtain ⟨D, hown, hD⟩ : ∃ D, w.ownsMap Try.prog 3 (plainElem Try.prog 3) mb N D ∧ Keeps kd D ([] : List Int) := by
    rcases HH.out.m with ⟨h', _⟩ | ⟨mb', D, h', _, ho, hD⟩
    · cases h'
    · cases h'; exact ⟨D, ho, hD⟩
  have HO := Lib.hid (And.intro hown hD)
  have hne := Lib.hid (HH.out.mapAt (k := mb) rfl)
  have c1 := HH.out.c1
  clear hown hD HH
  go_still_tail 10, (by kernel_rfl)
  change wpList _ _ _ _ _ w.drew
  refine wpList_mapUpdate_own w.drew rfl (.tmp 33) (.tmp 34) (.tmp 39) 50 rfl 3 3 law Try.underlying50 (plainElem Try.prog 3) mb N D rfl HO.out.1.drew HM.out _ _ (kd k) rfl rfl HK.out _ [] (plainElem_int Try.underlying3 HW.out) ?_
  intro w2 hown2 hg2
  have d0 := grown_cell (w := w.drew) hg2 c0 (by intro e; exact hne.out.2.2.1 (by simpa using e))
  have d1 := (grown_frozen (w := w.drew) hg2 0 hlt (by intro e; exact hne.out.2.2.1 (by simpa using e))).trans f0
  have HR : Hid (Own w2 B 3 (.slice la 0 lc) ([] : List Value)) := Own.grown (w := w.drew) (by have := H.out.l; exact this) hg2 (fun j e e' => by cases e'; have := hne.out.2.2.2; exact this e)
  have HA := Lib.hid (HR.out.below ((Below.refl _ _).alloc (Nat.le_refl _) (.cells #[kv k] 3)))
  have H3 : Hid (B ≤ (w2.alloc (.cells #[kv k] 3)).heap.size) := by
    show _ ≤ _
    have : w.heap.size ≤ w2.heap.size := hg2.size
    simp only [World.size_alloc]
    omega
  have hn1 : Hid ((Value.slice la 0 lc).ownBlock ≠ some tb) := H.out.n1
  have K1 := Lib.hid hown2
  have K2 := Lib.hid hg2
  have hd0 : (w2.alloc (.cells #[(Value.int .i64 k)] 3)).cell? ⟨tb, 0, none⟩ = some (.slice la 0 lc) := by simp [World.cell?_alloc_some, d0]
  have hd1 : (w2.alloc (.cells #[(Value.int .i64 k)] 3)).frozen? ⟨tb, 0, none⟩ = false := by
    rw [World.frozen?_of_block (w := w2) (Below.heap_alloc _ _ _ (World.block_lt_of_cell? w2 _ d0))]
    exact d1
  have HD := Lib.hid (And.intro hd0 hd1)
  clear hown2 hg2 hd0 hd1 c0 c1 f0
  go_wp2_with (at_builtin; refine app_wp rfl (.tmp 44) (.tmp 46) rfl Try.underlying25 info3 rfl (by omega) B (.slice la 0 lc) _ rfl rfl HA.out (rd_one w2 (kv k) 3) One.out H2.out H3.out ?_; intro ra n c w3 ho hg hl'; obtain rfl : n = 0 + 1 := own_len (ks := []) ho; have e0 := grown_cell hg HD.out.1 hn1.out; have e1 := (grown_frozen hg 0 (World.block_lt_of_cell? _ _ HD.out.1) hn1.out).trans HD.out.2)
  go_ret2
  obtain ⟨k1, k2⟩ := add_close H.out HOK.out.1 HOK.out.2 HO.out.1 HO.out.2 K1.out K2.out ho hg hl'
  exact ⟨rfl, _, _, k1, HT.out.trans k2⟩

/-- The last key goes: out of the map, and off the row. -/
theorem cut_close {w w2 : World} {B tb N mb g n c : Nat} {ks : List Int} {k : Int} {D : DataW Unit} (h : Tbl w B tb (.slice (some ⟨g, 0, none⟩) n c) (.map (some mb)) (ks ++ [k]) N)
    (hD : Keeps kd D (ks ++ [k])) (h2 : w2.ownsMap Try.prog 3 (plainElem Try.prog 3) mb N (D.del (kd k))) (g2 : w.drew.grownBy w2 (some mb)) :
    Tbl (w2.setCell ⟨tb, 0, none⟩ (.slice (some ⟨g, 0, none⟩) ks.length c)) B tb (.slice (some ⟨g, 0, none⟩) ks.length c) (.map (some mb)) ks N ∧
    Touch (tblF tb (.slice (some ⟨g, 0, none⟩) n c) (.map (some mb))) (tblF tb (.slice (some ⟨g, 0, none⟩) ks.length c) (.map (some mb))) w (w2.setCell ⟨tb, 0, none⟩ (.slice (some ⟨g, 0, none⟩) ks.length c)) := by
  have hmb := h.mapAt (k := mb) rfl
  have htb := h.lt
  have hs2 : w.heap.size ≤ w2.heap.size := g2.size
  have hne : (Value.slice (some ⟨g, 0, none⟩) ks.length c).ownBlock ≠ some tb := h.n1
  have hrow : w2.heap[tb]? = some (.cells #[.slice (some ⟨g, 0, none⟩) n c, .map (some mb)] 52 (0, 0)) := (g2.block tb htb (fun e => hmb.2.2.1 (by simpa using e.symm))).trans h.row
  have hnd := h.nd
  rw [List.nodup_append] at hnd
  have hkn : k ∉ ks := fun hk => hnd.2.2 k hk k (by simp) rfl
  have hl2 : Own w2 B 3 (.slice (some ⟨g, 0, none⟩) n c) ((ks ++ [k]).map kv) := Own.grown (w := w.drew) (by have := h.l; exact this) g2 (fun j e e' => by cases e'; exact hmb.2.2.2 e)
  have hcut := hl2.cut (k := ks.length) (by simp)
  rw [List.map_append, List.take_left' (by simp)] at hcut
  refine ⟨⟨?_, h.base, ?_, hne, hnd.1, fun x hx => h.ok x (List.mem_append_left _ hx), .inr ⟨mb, _, rfl, hmb.1, h2.setCell (fun e => hmb.2.2.1 e) _, hD.cut inj hkn⟩⟩, ⟨g2.os, g2.tape, g2.output, ?_, ?_, ?_⟩⟩
  · simp [World.setCell, Array.getElem?_modify, hrow]
  · exact hcut.kept fun j e => Below.heap_setCell _ _ _ _ (fun e' => hne (by rw [e, e']))
  · have : w2.heap.size = (w2.setCell ⟨tb, 0, none⟩ (.slice (some ⟨g, 0, none⟩) ks.length c)).heap.size := by simp [World.setCell]
    omega
  · intro j hj hF
    rw [Below.heap_setCell _ _ _ _ (fun e => hF (.inl e))]
    exact g2.block j hj (fun e => hF (.inr (.inr (by simpa [mapBlock] using e.symm))))
  · rintro j (rfl | e | e)
    · exact .inl (.inl rfl)
    · exact .inl (.inr (.inl e))
    · exact .inl (.inr (.inr e))

/-- What holds at the head of Cut's loop. -/
structure CutRel (w : World) (B tb : Nat) (vl vm : Value) (ks : List Int) (N nn m : Nat) (wr : World) : Prop where
  le : m ≤ ks.length
  ge : min nn ks.length ≤ m
  st : LeftT w B tb vl vm (ks.take m) N wr

set_option maxHeartbeats 1000000 in
theorem cut_pos (w : World) {B tb N : Nat} {vl vm : Value} {ks : List Int} (h : Tbl w B tb vl vm ks N) (nn : Nat) (hl : ks.length ≤ 1000000) :
    Calls Try.prog 26 #[.pointer (some ⟨tb, 0, none⟩), .int .i64 (nn : Int)] w fun e w' => e = .returned (.tuple #[]) ∧ LeftT w B tb vl vm (ks.take nn) N w' := by
  have H := Lib.hid h
  have HS : Hid (CutRel w B tb vl vm ks N nn ks.length w) := ⟨Nat.le_refl _, Nat.min_le_right _ _, vl, vm, by rw [List.take_length]; exact h, Touch.refl _ _⟩
  clear h
  go_enter Try.func26, Try.ntmps26
  go_wp2_with fail
  refine (len_any _ H.out).mono ?_
  rintro e w1 ⟨rfl, rfl⟩
  clear H
  go_wp2_with fail
  go_loopw [4] (fun i wr => ∃ m : Nat, i = .int .i64 ((m : Int) - 1) ∧ CutRel w B tb vl vm ks N nn m wr) (fun i _ => (intOf i + 1).toNat)
  case atStart => exact ⟨_, rfl, HS.out⟩
  case round =>
    obtain ⟨m, rfl, hle, hge, vl1, vm1, hst, htch⟩ := hrel
    have HT := Lib.hid htch
    clear htch HS
    by_cases hlt : nn < m
    · have hml : (ks.take m).length = m := by simp; omega
      obtain ⟨m', rfl⟩ : ∃ m', m = m' + 1 := ⟨m - 1, by omega⟩
      obtain ⟨k, hk⟩ : ∃ k, ks[m']? = some k := ⟨_, List.getElem?_eq_getElem (by omega)⟩
      have hsplit : ks.take (m' + 1) = ks.take m' ++ [k] := by
        rw [List.take_succ_eq_append_getElem (by omega)]
        rw [List.getElem?_eq_getElem (by omega)] at hk
        simp at hk
        rw [hk]
      have hl' : (ks.take m').length = m' := by simp; omega
      rw [hsplit] at hst
      have Hok := Lib.hid (keyof (hst.ok k (by simp)))
      have c0 := hst.c0
      have c1 := hst.c1
      have f0 := hst.f 0
      have hltb := hst.lt
      obtain ⟨g, c, rfl, k1, _, k3, _⟩ := hst.l.some_at (by simp)
      have hcell : w.heap.size = w.heap.size := rfl
      clear hcell
      have hcell := k3 m' (by simp; omega)
      rw [List.map_append, List.getElem?_append_right (by simp; omega)] at hcell
      have e0 : m' - (List.map kv (ks.take m')).length = 0 := by simp; omega
      rw [e0] at hcell
      replace hcell : wr.cell? ⟨g, m', none⟩ = some ((Value.int .i64 k)) := hcell
      have hnl : ((ks.take m' ++ [k]).map kv).length = m' + 1 := by simp; omega
      rw [hnl] at c0 k1
      obtain ⟨mb, D, rfl, hown, hD⟩ : ∃ mb D, vm1 = .map (some mb) ∧ wr.ownsMap Try.prog 3 (plainElem Try.prog 3) mb N D ∧ Keeps kd D (ks.take m' ++ [k]) := by
        rcases hst.m with ⟨_, h'⟩ | ⟨mb', D, h', _, ho, hD⟩
        · simp at h'
        · exact ⟨mb', D, h', ho, hD⟩
      have HO := Lib.hid (And.intro hown hD)
      have hne := Lib.hid (hst.mapAt (k := mb) rfl)
      have HST := Lib.hid hst
      have Hl' := Lib.hid hl'
      have Hnl := Lib.hid hnl
      have Hml := Lib.hid hml
      have b1 : (nn : Int) ≤ (m' : Int) := by omega
      have b3 : (0 : Int) ≤ (m' : Int) := Int.natCast_nonneg _
      have b4 : (m' : Int) < (m' : Int) + 1 := by omega
      clear hst hown hD k3 e0 hk hsplit hl' hnl hml
      go_wp2_with fail
      go_still_tail 11, (by kernel_rfl)
      change wpList _ _ _ _ _ wr.drew
      refine wpList_delete_own wr.drew rfl (.tmp 18) (.tmp 25) 50 3 rfl 3 law Try.underlying50 (plainElem Try.prog 3) mb N D rfl HO.out.1.drew _ (kd k) rfl Hok.out ?_
      intro w2 hown2 ht2
      have hg2 := ht2.grown
      have d0 := grown_cell (w := wr.drew) hg2 c0 (by intro e; exact hne.out.2.2.1 (by simpa using e))
      have d1 := (grown_frozen (w := wr.drew) hg2 0 hltb (by intro e; exact hne.out.2.2.1 (by simpa using e))).trans f0
      have K1 := Lib.hid hown2
      have K2 := Lib.hid hg2
      clear hown2 ht2 hg2 c0 c1 f0 hcell
      have b2 : (m' : Int) ≤ (c : Int) := by omega
      go_wp2_with fail
      obtain ⟨z1, z2⟩ := cut_close HST.out HO.out.2 K1.out K2.out
      rw [Hl'.out] at z1 z2
      rw [Hnl.out] at HT z2
      go_roundw
      case rel => exact ⟨m', rfl, by omega, by omega, _, _, z1, HT.out.trans z2⟩
      case measure => simp [intOf]
    · have b1 : (m : Int) - 1 < (nn : Int) := by omega
      have hm : ks.take m = ks.take nn := by
        by_cases h : ks.length ≤ nn
        · have : m = ks.length := by omega
          rw [this, List.take_length, List.take_of_length_le h]
        · have : m = nn := by omega
          rw [this]
      rw [hm] at hst
      have HST := Lib.hid hst
      clear hst hm
      go_wp2_with fail
      go_end0
      exact ⟨rfl, _, _, HST.out, HT.out⟩

set_option maxHeartbeats 1000000 in
theorem cut_neg (w : World) {B tb N : Nat} {vl vm : Value} {ks : List Int} (h : Tbl w B tb vl vm ks N) (n : Int) (hn : n < 0) (hl : ks.length ≤ 1000000) :
    Calls Try.prog 26 #[.pointer (some ⟨tb, 0, none⟩), .int .i64 n] w fun e w' => e = .returned (.tuple #[]) ∧ LeftT w B tb vl vm (ks.take 0) N w' := by
  have H := Lib.hid h
  have HS : Hid (CutRel w B tb vl vm ks N 0 ks.length w) := ⟨Nat.le_refl _, Nat.min_le_right _ _, vl, vm, by rw [List.take_length]; exact h, Touch.refl _ _⟩
  clear h
  go_enter Try.func26, Try.ntmps26
  go_wp2_with fail
  refine (len_any _ H.out).mono ?_
  rintro e w1 ⟨rfl, rfl⟩
  clear H
  go_wp2_with fail
  go_loopw [4] (fun i wr => ∃ m : Nat, i = .int .i64 ((m : Int) - 1) ∧ CutRel w B tb vl vm ks N 0 m wr) (fun i _ => (intOf i + 1).toNat)
  case atStart => exact ⟨_, rfl, HS.out⟩
  case round =>
    obtain ⟨m, rfl, hle, hge, vl1, vm1, hst, htch⟩ := hrel
    have HT := Lib.hid htch
    clear htch HS
    by_cases hlt : 0 < m
    · have hml : (ks.take m).length = m := by simp; omega
      obtain ⟨m', rfl⟩ : ∃ m', m = m' + 1 := ⟨m - 1, by omega⟩
      obtain ⟨k, hk⟩ : ∃ k, ks[m']? = some k := ⟨_, List.getElem?_eq_getElem (by omega)⟩
      have hsplit : ks.take (m' + 1) = ks.take m' ++ [k] := by
        rw [List.take_succ_eq_append_getElem (by omega)]
        rw [List.getElem?_eq_getElem (by omega)] at hk
        simp at hk
        rw [hk]
      have hl' : (ks.take m').length = m' := by simp; omega
      rw [hsplit] at hst
      have Hok := Lib.hid (keyof (hst.ok k (by simp)))
      have c0 := hst.c0
      have c1 := hst.c1
      have f0 := hst.f 0
      have hltb := hst.lt
      obtain ⟨g, c, rfl, k1, _, k3, _⟩ := hst.l.some_at (by simp)
      have hcell : w.heap.size = w.heap.size := rfl
      clear hcell
      have hcell := k3 m' (by simp; omega)
      rw [List.map_append, List.getElem?_append_right (by simp; omega)] at hcell
      have e0 : m' - (List.map kv (ks.take m')).length = 0 := by simp; omega
      rw [e0] at hcell
      replace hcell : wr.cell? ⟨g, m', none⟩ = some ((Value.int .i64 k)) := hcell
      have hnl : ((ks.take m' ++ [k]).map kv).length = m' + 1 := by simp; omega
      rw [hnl] at c0 k1
      obtain ⟨mb, D, rfl, hown, hD⟩ : ∃ mb D, vm1 = .map (some mb) ∧ wr.ownsMap Try.prog 3 (plainElem Try.prog 3) mb N D ∧ Keeps kd D (ks.take m' ++ [k]) := by
        rcases hst.m with ⟨_, h'⟩ | ⟨mb', D, h', _, ho, hD⟩
        · simp at h'
        · exact ⟨mb', D, h', ho, hD⟩
      have HO := Lib.hid (And.intro hown hD)
      have hne := Lib.hid (hst.mapAt (k := mb) rfl)
      have HST := Lib.hid hst
      have Hl' := Lib.hid hl'
      have Hnl := Lib.hid hnl
      have Hml := Lib.hid hml
      have b1 : (0 : Int) ≤ (m' : Int) := by omega
      have b3 : (0 : Int) ≤ (m' : Int) := Int.natCast_nonneg _
      have b4 : (m' : Int) < (m' : Int) + 1 := by omega
      clear hst hown hD k3 e0 hk hsplit hl' hnl hml
      go_wp2_with fail
      go_still_tail 11, (by kernel_rfl)
      change wpList _ _ _ _ _ wr.drew
      refine wpList_delete_own wr.drew rfl (.tmp 18) (.tmp 25) 50 3 rfl 3 law Try.underlying50 (plainElem Try.prog 3) mb N D rfl HO.out.1.drew _ (kd k) rfl Hok.out ?_
      intro w2 hown2 ht2
      have hg2 := ht2.grown
      have d0 := grown_cell (w := wr.drew) hg2 c0 (by intro e; exact hne.out.2.2.1 (by simpa using e))
      have d1 := (grown_frozen (w := wr.drew) hg2 0 hltb (by intro e; exact hne.out.2.2.1 (by simpa using e))).trans f0
      have K1 := Lib.hid hown2
      have K2 := Lib.hid hg2
      clear hown2 ht2 hg2 c0 c1 f0 hcell
      have b2 : (m' : Int) ≤ (c : Int) := by omega
      go_wp2_with fail
      obtain ⟨z1, z2⟩ := cut_close HST.out HO.out.2 K1.out K2.out
      rw [Hl'.out] at z1 z2
      rw [Hnl.out] at HT z2
      go_roundw
      case rel => exact ⟨m', rfl, by omega, by omega, _, _, z1, HT.out.trans z2⟩
      case measure => simp [intOf]
    · have b1 : (m : Int) - 1 < (0 : Int) := by omega
      have hm : ks.take m = ks.take 0 := by
        by_cases h : ks.length ≤ 0
        · have : m = ks.length := by omega
          rw [this, List.take_length, List.take_of_length_le h]
        · have : m = 0 := by omega
          rw [this]
      rw [hm] at hst
      have HST := Lib.hid hst
      clear hst hm
      go_wp2_with fail
      go_end0
      exact ⟨rfl, _, _, HST.out, HT.out⟩

theorem cut_any (w : World) {B tb N : Nat} {vl vm : Value} {ks : List Int} (h : Tbl w B tb vl vm ks N) (n : Int) (hl : ks.length ≤ 1000000) :
    Calls Try.prog 26 #[.pointer (some ⟨tb, 0, none⟩), .int .i64 n] w fun e w' => e = .returned (.tuple #[]) ∧ LeftT w B tb vl vm (ks.take n.toNat) N w' := by
  by_cases hn : 0 ≤ n
  · obtain ⟨nn, rfl⟩ := Int.eq_ofNat_of_zero_le hn
    simpa using cut_pos w h nn hl
  · have e : n.toNat = 0 := by omega
    rw [e]
    exact cut_neg w h n (by omega) hl

/-! ### a nil table -/
theorem find_nil (w : World) (k : Int) : Calls Try.prog 24 #[.pointer none, kv k] w fun e w' => e = .returned (.tuple #[.int .i64 0, .bool false]) ∧ w = w' := by
  go_enter Try.func24, Try.ntmps24
  go_wp2
  go_ret2
  exact ⟨rfl, rfl⟩
theorem add_nilp (w : World) (k : Int) : Calls Try.prog 23 #[.pointer none, kv k] w fun e w' => e = .returned (.tuple #[.int .i64 (-1), .bool false]) ∧ w = w' := by
  go_enter Try.func23, Try.ntmps23
  go_wp2
  go_ret2
  exact ⟨rfl, rfl⟩
theorem len_nil (w : World) : Calls Try.prog 25 #[.pointer none] w fun e w' => e = .returned (.int .i64 0) ∧ w = w' := by
  go_enter Try.func25, Try.ntmps25
  go_wp2
  go_ret
  exact ⟨rfl, rfl⟩
theorem at_nil (w : World) (i : Int) : Calls Try.prog 35 #[.pointer none, .int .i64 i] w fun e w' => e = .returned (.tuple #[(.int .i64 0), .bool false]) ∧ w = w' := by
  by_cases h0 : i < 0
  · go_enter Try.func35, Try.ntmps35
    go_wp2_with fail
    go_ret2
    exact ⟨rfl, rfl⟩
  · have h1 : 0 ≤ i := by omega
    go_enter Try.func35, Try.ntmps35
    go_wp2_with fail
    refine (len_nil _).mono ?_
    rintro e w1 ⟨rfl, rfl⟩
    go_wp2_with fail
    go_ret2
    exact ⟨rfl, rfl⟩
theorem cut_nilp (w : World) (n : Int) : Calls Try.prog 26 #[.pointer none, .int .i64 n] w fun e w' => e = .returned (.tuple #[]) ∧ w = w' := by
  by_cases h0 : 0 ≤ n
  all_goals
    go_enter Try.func26, Try.ntmps26
    go_wp2_with fail
    refine (len_nil _).mono ?_
    rintro e w1 ⟨rfl, rfl⟩
    go_wp2_with fail
    refine wp_loop_rounds 1 ?_
    rw [rounds_succ]
    go_wp2_with fail
    go_end0
    exact ⟨rfl, rfl⟩

/-! ### Add, whatever there is -/
def addI (ks : List Int) (k : Int) : Int := if posB ks k = true then posI ks k else ks.length
def addB (ks : List Int) (k : Int) : Bool := if posB ks k = true then false else true
def addL (ks : List Int) (k : Int) : List Int := if posB ks k = true then ks else ks ++ [k]

theorem add_any (w : World) {B tb N : Nat} {vl vm : Value} {ks : List Int} (h : Tbl w B tb vl vm ks N) {k : Int} (hk : okk k) (hl : ks.length ≤ 1000000) (hN : N ≤ 1000000) :
    Calls Try.prog 23 #[.pointer (some ⟨tb, 0, none⟩), kv k] w fun e w' => e = .returned (.tuple #[.int .i64 (addI ks k), .bool (addB ks k)]) ∧ LeftT w B tb vl vm (addL ks k) (N + 1) w' := by
  rcases Classical.em (k ∈ ks) with hm | hm
  · have hm' := posB_mem.2 hm
    rw [addI, addB, addL, if_pos hm', if_pos hm', if_pos hm']
    refine (add_old w h hk hm).mono ?_
    rintro e w' ⟨rfl, rfl⟩
    exact ⟨rfl, vl, vm, h.mono (by omega), Touch.refl _ _⟩
  · have hm' : ¬ posB ks k = true := fun h => hm (posB_mem.1 h)
    rw [addI, addB, addL, if_neg hm', if_neg hm', if_neg hm']
    rcases h.m with ⟨rfl, rfl⟩ | ⟨mb, D, rfl, _⟩
    · exact add_nil w h hk hN
    · exact add_some w h hk hm hl hN

theorem LeftT.below {w w' : World} {B tb N N' : Nat} {vl vm : Value} {ks ks' : List Int} (h : Tbl w B tb vl vm ks N) (hl : LeftT w B tb vl vm ks' N' w') (hs : B ≤ w.heap.size) : Below B w w' := by
  obtain ⟨_, _, _, ht⟩ := hl
  exact ht.below (fun k hk => (h.foot hk).1) hs

/-- A new table. -/
theorem Tbl.fresh (w : World) {B : Nat} (hB : B ≤ w.heap.size) : Tbl (w.alloc (.cells #[.slice none 0 0, .map none] 52)) B w.heap.size (.slice none 0 0) (.map none) [] 0 :=
  ⟨heap_alloc_new w _, hB, Own.nil _ _ _, by simp [Value.ownBlock], by simp, by simp, .inl ⟨rfl, rfl⟩⟩
theorem addL_len (ks : List Int) (k : Int) : (addL ks k).length ≤ ks.length + 1 := by
  unfold addL; split <;> simp
end Go.Proofs.Ytngiekofaeaaoaa.TI
