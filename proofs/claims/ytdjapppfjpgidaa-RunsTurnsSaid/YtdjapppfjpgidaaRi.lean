/- Walks: Substr. -/
import Derived.Test.YtdjapppfjpgidaaRq
namespace Go.Proofs.Ytdjapppfjpgidaa
open Go.RowKit Go.Shelf
attribute [local go_sem] Oper.semAt_some

/-- What of a run at a place lies between i and e (as the machine reckons it). -/
def cut1 (i e : Int) (p : Int × Run) : List Run := if max p.1 i < min (wrap64 (p.1 + p.2.2)) e then [(p.2.1, wrap64 (min (wrap64 (p.1 + p.2.2)) e - max p.1 i))] else []
def cuts (i e : Int) (ps : List (Int × Run)) : List Run := ps.flatMap (cut1 i e)
theorem cuts_snoc (i e : Int) (ps : List (Int × Run)) (p : Int × Run) : cuts i e (ps ++ [p]) = cuts i e ps ++ cut1 i e p := by simp [cuts]
theorem cuts_len (i e : Int) (ps : List (Int × Run)) : (cuts i e ps).length ≤ ps.length := by
  induction ps with
  | nil => simp [cuts]
  | cons p ps ih =>
    simp only [cuts, List.flatMap_cons, List.length_append, List.length_cons] at ih ⊢
    have : (cut1 i e p).length ≤ 1 := by unfold cut1; split <;> simp
    omega

/-- What holds between two rounds. -/
structure SubI (w : World) (b1 : Nat) (i E : Int) (pre : List (Int × Run)) (W : World) : Prop where
  out : ∃ v, Boxed W (b1 + 1) 22 v ∧ Own2 W (b1 + 3) v (cuts i E pre) ∧ (cuts i E pre = [] → v = .slice none 0 0)
  bi : Boxed W w.heap.size 3 (.int .i64 i)
  be : Boxed W b1 3 (.int .i64 E)
  below : Below w.heap.size w W
  big : b1 + 3 ≤ W.heap.size

theorem boxed_past {W W' : World} {row : Option Nat} {B : Nat} {t : TypeId} {v : Value} (h : Boxed W B t v) (hg : W.grownBy W' row) (hr : ∀ r, row = some r → ∃ o : Obj, W.heap[r]? = some o ∧ o.isCells = false) : Boxed W' B t v :=
  h.kept hg fun e => by
    obtain ⟨o, ho, hc⟩ := hr B e.symm
    have h2 : W.heap[B]? = _ := h
    rw [h2] at ho
    cases ho
    simp [Obj.isCells] at hc
theorem own2_past {W W' : World} {row : Option Nat} {B : Nat} {v : Value} {rs : List Run} (h : Own2 W B v rs) (hg : W.grownBy W' row) (hr : ∀ r, row = some r → ∃ o : Obj, W.heap[r]? = some o ∧ o.isCells = false) : Own2 W' B v rs := by
  rcases h.cases with ⟨rfl, rfl⟩ | ⟨g, cap, cur, rfl, h1, h2, _⟩
  · exact Own2.nil _ _
  · refine h.kept fun k e => ?_
    simp [Value.ownBlock] at e
    subst e
    refine hg.block g (Array.getElem?_eq_some_iff.1 h2).1 fun e => ?_
    obtain ⟨o, ho, hc⟩ := hr g e.symm
    rw [h2] at ho
    cases ho
    simp [Obj.isCells] at hc
theorem SubI.own (w : World) (b1 : Nat) (i E : Int) (n : Nat) (hn : w.heap.size ≤ n) : OwnFrom n (SubI w b1 i E) := fun pre W W' row h hg hr => by
  have hr2 : ∀ r, row = some r → ∃ o : Obj, W.heap[r]? = some o ∧ o.isCells = false := fun r e => (hr r e).2
  obtain ⟨v, h1, h2, h3⟩ := h.out
  exact ⟨⟨v, boxed_past h1 hg hr2, own2_past h2 hg hr2, h3⟩, boxed_past h.bi hg hr2, boxed_past h.be hg hr2, h.below.grown hg h.below.size fun k e => Nat.le_trans hn (hr k e).1, Nat.le_trans h.big hg.size⟩

/-- The frame of a round's body. -/
def SubA (w : World) (b1 : Nat) (x : Int × Run) (a' : Act) (W : World) : Prop :=
  ∃ (Bx : Nat) (u0 u1 u2 u3 u5 u6 u7 u12 u13 u14 u15 u16 u17 u18 u19 u20 u21 u22 u23 u24 u25 u26 u27 u28 u29 u30 u31 u32 u33 u34 u35 u36 u37 u38 u39 u40 u41 u42 u43 u44 u45 u46 u47 u48 u49 u50 u51 u52 u53 u54 u55 u56 u57 u58 u59 : Value), b1 + 3 ≤ Bx ∧ W.heap[Bx]? = some (.cells #[.int .i64 x.2.1, .int .i64 x.2.2] 38 (0, 0)) ∧ a' = { tmps := #[u0, u1, u2, u3, .pointer (some ⟨w.heap.size, 0, none⟩), u5, u6, u7, .pointer (some ⟨b1, 0, none⟩), .pointer (some ⟨b1 + 1, 0, none⟩), .int .i64 x.1, .pointer (some ⟨Bx, 0, none⟩), u12, u13, u14, u15, u16, u17, u18, u19, u20, u21, u22, u23, u24, u25, u26, u27, u28, u29, u30, u31, u32, u33, u34, u35, u36, u37, u38, u39, u40, u41, u42, u43, u44, u45, u46, u47, u48, u49, u50, u51, u52, u53, u54, u55, u56, u57, u58, u59], defers := [] }

theorem keeps_drewN (W : World) (n : Nat) : KeepsOthers W (W.drewN n) := ⟨Nat.le_refl _, fun _ _ h _ => h⟩
/-- A run was appended, and the box of the result turned. -/
theorem sub_close {w W w' : World} {b1 nq vn vc n c' : Nat} {i E : Int} {pre : List (Int × Run)} {x : Int × Run} {va ra : Option Addr} {cs : List Run} {r : Run} (N : Nat) (ob : Obj) (hw : w.heap.size < b1) (hI : SubI w b1 i E pre W) (hO : Boxed W (b1 + 1) 22 (.slice va vn vc)) (ho : Own2 W (b1 + 3) (.slice va vn vc) cs)
    (hg : ((W.drewN nq).alloc ob).grownBy w' (Value.slice va vn vc).ownBlock) (hk : ∀ k i u, i < 2 → ((W.drewN nq).alloc ob).cell? ⟨k, i, none⟩ = some u → w'.cell? ⟨k, i, none⟩ = some u)
    (ho' : Own2 w' (b1 + 3) (.slice ra n c') (cs ++ [r])) (hcs : cuts i E (pre ++ [x]) = cs ++ [r]) :
    KeepsFrom N W (w'.setCell ⟨b1 + 1, 0, none⟩ (.slice ra n c')) ∧ Kp2 w.heap.size (b1 + 3) W (w'.setCell ⟨b1 + 1, 0, none⟩ (.slice ra n c')) ∧ SubI w b1 i E (pre ++ [x]) (w'.setCell ⟨b1 + 1, 0, none⟩ (.slice ra n c')) := by
  have hws := hI.below.size
  have hrow : ∀ k, (Value.slice va vn vc).ownBlock = some k → b1 + 3 ≤ k := fun k e => (ho.lt e).2
  have k1 : Kp2 w.heap.size (b1 + 3) W ((W.drewN nq).alloc ob) := kp2_t (kp2_drewN W nq) (kp2_alloc _ _ hws)
  have k2 : Kp2 w.heap.size (b1 + 3) ((W.drewN nq).alloc ob) w' := ⟨(Below.refl _ _).grown hg (by simp; exact Nat.le_trans hws (Nat.le_succ _)) (fun k e => by have := hrow k e; omega), fun k j u _ hj hu => hk k j u hj hu⟩
  have k3 : Kp2 w.heap.size (b1 + 3) W (w'.setCell ⟨b1 + 1, 0, none⟩ (.slice ra n c')) := kp2_t (kp2_t k1 k2) (kp2_set w' (b1 + 1) _ (by omega) (by omega))
  have bx : ∀ {B : Nat} {t : TypeId} {u : Value}, Boxed W B t u → B < b1 + 3 → Boxed w' B t u := fun {B t u} h hB =>
    ((h.kept (row := none) ⟨rfl, rfl, rfl, Nat.le_refl _, fun _ _ _ => rfl⟩ (by simp) : Boxed (W.drewN nq) B t u).alloc ob).kept hg (fun e => by have := hrow B e.symm; omega)
  refine ⟨?_, k3, ⟨⟨_, (bx hO (by omega)).set _, ?_, ?_⟩, (bx hI.bi (by omega)).other (by omega) _, (bx hI.be (by omega)).other (by omega) _, hI.below.trans k3.1, Nat.le_trans hI.big k3.1.size⟩⟩
  · refine KeepsFrom.trans (((keeps_drewN W nq).trans (KeepsOthers.alloc _ ob)).from N) (KeepsFrom.trans (KeepsOthers.from (KeepsOthers.of_grownBy hg fun j o e ho2 => ?_) N) ((KeepsOthers.setCell _ _ _).from N))
    rcases ho.cases with ⟨e2, _⟩ | ⟨g, cap, cur, e2, _, h4, _⟩
    · cases e2; simp [Value.ownBlock] at e
    · rw [e2] at e
      simp [Value.ownBlock] at e
      subst e
      have h5 : ((W.drewN nq).alloc ob).heap[g]? = some (.cells cur 38 (0, 0)) := (Below.heap_alloc (W.drewN nq) ob g (Array.getElem?_eq_some_iff.1 h4).1).trans h4
      rw [h5] at ho2
      cases ho2
      rfl
  · rw [hcs]
    refine ho'.kept fun k e => Below.heap_setCell _ _ _ _ fun e2 => ?_
    have := (ho'.lt e).2
    simp at e2
    omega
  · rw [hcs]
    intro h
    simp at h

set_option maxRecDepth 100000 in
set_option maxHeartbeats 8000000 in
theorem substr_in (w : World) (a : Option Addr) (n0 cap : Nat) (rs : List Run) (hR : Rr w (fun k => k < w.heap.size) (.slice a n0 cap) rs) (hm : may rs = true) (i m : Int) (hi : 0 ≤ i) (hi2 : i < sz rs) (hm1 : 1 ≤ m) (hm2 : m ≤ 9223372036854775807) :
    CallsIn Fence.wide 6 Try.prog 13 #[.slice a n0 cap, .int .i64 i, .int .i64 m] w fun e W' => ∃ ra c, e = .returned (.slice ra (cuts i (i + min m (sz rs - i)) (places rs n0)).length c) ∧ Rr W' (fun k => w.heap.size ≤ k) (.slice ra (cuts i (i + min m (sz rs - i)) (places rs n0)).length c) (cuts i (i + min m (sz rs - i)) (places rs n0)) ∧ Below w.heap.size w W' := by
  have hM : May rs := by simpa [may] using hm
  have hlen : ∀ (w1 : World), Below w.heap.size w w1 → Calls Try.prog 18 #[.slice a n0 cap] w1 fun e w' => e = .returned (.int .i64 (sz rs)) ∧ Below w1.heap.size w1 w' := fun w1 hb => by
    have := len_any (hR.below hb)
    simpa [len, hm] using this
  have HL := Lib.hid hlen
  have hA := hM.size
  have HN := Lib.hid hR.len.1
  have HR := Lib.hid hR
  have HM := Lib.hid hM
  clear hlen hR hm hM
  generalize hsz : sz rs = A at *
  refine callsIn_of_wp_marks Try.func13 rfl trivial ?_ rfl
  simp only [Try.ntmps13, List.size_toArray, List.length_cons, List.length_nil, Nat.reduceAdd, Nat.reduceSub, Array.replicate_succ, Array.replicate_zero, List.push_toArray, List.append_toArray, List.nil_append, List.cons_append]
  gi_wp2
  refine ⟨trivial, ?_⟩
  refine (callsIn_wide.2 (HL.out _ ((Below.refl _ _).alloc (Nat.le_refl _) _))).mono ?_
  rintro e w1 ⟨rfl, hb1⟩
  have bI : Boxed w1 w.heap.size 3 (.int .i64 i) := (hb1.block _ (by simp)).trans (Boxed.new w 3 (.int .i64 i))
  have HB1 : Hid (Below w.heap.size w w1) := ((Below.refl _ _).alloc (Nat.le_refl _) _).trans (hb1.mono (by simp))
  have hs1 : w.heap.size < w1.heap.size := bI.lt
  have cI := bI.cell
  have BI := Lib.hid bI
  have g1 : ¬ i < 0 := by omega
  have g2 : ¬ A ≤ i := by omega
  have g3 : ¬ m < 1 := by omega
  clear hb1 HL bI
  gi_wp2
  all_goals
    obtain ⟨E, hE, hE2⟩ : ∃ E, E = i + min m (A - i) ∧ 0 ≤ E := ⟨_, rfl, by omega⟩
    first
      | (have hE3 : i + m = E := by omega
         rw [hE3])
      | (have hE3 : i + (A - i) = E := by omega
         rw [hE3])
    have HE := Lib.hid hE
    have hE4 : E ≤ 1099511627776 := by omega
    clear hE hE3
    refine ⟨trivial, ?_⟩
    refine (placed_in Fence.wide _ trivial rfl _ _ _ _).mono ?_
    rintro e w2 ⟨rfl, rfl⟩
    gi_wp2
    have BE : Hid (Boxed (w1.alloc (.cells #[.int .i64 E] 3)) w1.heap.size 3 (.int .i64 E)) := Boxed.new _ _ _
    have BO : Hid (Boxed ((w1.alloc (.cells #[.int .i64 E] 3)).alloc (.cells #[.slice none 0 0] 22)) (w1.heap.size + 1) 22 (.slice none 0 0)) := by
      have := Boxed.new (w1.alloc (.cells #[.int .i64 E] 3)) 22 (.slice none 0 0)
      rwa [World.size_alloc] at this
    have BS : Hid (Boxed (((w1.alloc (.cells #[.int .i64 E] 3)).alloc (.cells #[.slice none 0 0] 22)).alloc (.cells #[.slice a n0 cap] 22)) (w1.heap.size + 1 + 1) 22 (.slice a n0 cap)) := by
      have := Boxed.new ((w1.alloc (.cells #[.int .i64 E] 3)).alloc (.cells #[.slice none 0 0] 22)) 22 (.slice a n0 cap)
      rwa [World.size_alloc, World.size_alloc] at this
    have HI : Hid (SubI w w1.heap.size i E [] (((w1.alloc (.cells #[.int .i64 E] 3)).alloc (.cells #[.slice none 0 0] 22)).alloc (.cells #[.slice a n0 cap] 22))) :=
      ⟨⟨_, BO.out.alloc _, Own2.nil _ _, fun _ => rfl⟩, ((BI.out.alloc _).alloc _).alloc _, (BE.out.alloc _).alloc _, ((HB1.out.alloc HB1.out.size _).alloc (by have := HB1.out.size; simp; omega) _).alloc (by have := HB1.out.size; simp; omega) _, by simp⟩
    have hsz0 : (((w1.alloc (.cells #[.int .i64 E] 3)).alloc (.cells #[.slice none 0 0] 22)).alloc (.cells #[.slice a n0 cap] 22)).heap.size = w1.heap.size + 3 := by simp
    have hl0 : n0 ≤ 65536 := by rw [HN.out]; exact HM.out.1
    have HRR : Hid (Rr (((w1.alloc (.cells #[.int .i64 E] 3)).alloc (.cells #[.slice none 0 0] 22)).alloc (.cells #[.slice a n0 cap] 22)) (fun k => k < w.heap.size) (.slice a n0 cap) rs) := HR.out.below HI.out.below
    generalize hW0 : ((w1.alloc (.cells #[.int .i64 E] 3)).alloc (.cells #[.slice none 0 0] 22)).alloc (.cells #[.slice a n0 cap] 22) = W0 at *
    clear hW0 BE BO HB1 BI cI
    have hb1 := HI.out.bi.lt
    generalize w1.heap.size = b1 at *
    refine wpIn_rangeFunc_ownH rfl (by omega) (gf := 44) (lb := #[.pointer (some ⟨b1 + 1 + 1, 0, none⟩)]) rfl trivial (enters_of Try.func44 (by kernel_rfl) rfl)
      (placed_stops Fence.wide 5 trivial rfl (by omega) (b1 + 1 + 1) w.heap.size (b1 + 3) a n0 cap rs (fun j hj => by have := HM.out.bounds hj; omega) (by omega) W0 (by omega) (by omega) (by omega) BS.out.cell HRR.out)
      kp2_t (kp2_b (by omega)) (Below.refl _ _) (fun _ => rfl) (SubI w b1 i E) (fun _ _ _ => False) (SubI.own w b1 i E _ (by omega)) (fun _ _ _ _ _ hs _ _ => hs) HI.out
      (SubA w b1) ?hAx ?assign ?body ?done ?stop
    case hAx =>
      intro x a' _ W W' row h hg hr
      obtain ⟨Bx, u0, u1, u2, u3, u5, u6, u7, u12, u13, u14, u15, u16, u17, u18, u19, u20, u21, u22, u23, u24, u25, u26, u27, u28, u29, u30, u31, u32, u33, u34, u35, u36, u37, u38, u39, u40, u41, u42, u43, u44, u45, u46, u47, u48, u49, u50, u51, u52, u53, u54, u55, u56, u57, u58, u59, h1, h2, h3⟩ := h
      refine ⟨Bx, u0, u1, u2, u3, u5, u6, u7, u12, u13, u14, u15, u16, u17, u18, u19, u20, u21, u22, u23, u24, u25, u26, u27, u28, u29, u30, u31, u32, u33, u34, u35, u36, u37, u38, u39, u40, u41, u42, u43, u44, u45, u46, u47, u48, u49, u50, u51, u52, u53, u54, u55, u56, u57, u58, u59, h1, (hg.block Bx (Array.getElem?_eq_some_iff.1 h2).1 fun e => ?_).trans h2, h3⟩
      obtain ⟨_, o, ho, hc⟩ := hr Bx e.symm
      rw [h2] at ho
      cases ho
      simp [Obj.isCells] at hc
    case assign =>
      rintro l pre x W K hI hK
      have hbig := hI.big
      dsimp only [encP]
      gi_wp2
      exact hK _ _ ((KeepsOthers.alloc _ _).from _) (kp2_alloc _ _ hI.below.size) ((SubI.own w b1 i E w.heap.size (Nat.le_refl _)).alloc _ hI) ⟨W.heap.size, _, _, _, _, _, _, _, _, _, _, _, _, _, _, _, _, _, _, _, _, _, _, _, _, _, _, _, _, _, _, _, _, _, _, _, _, _, _, _, _, _, _, _, _, _, _, _, _, _, _, _, _, _, _, _, hbig, World.alloc_heap_new W _, rfl⟩
    case body =>
      rintro l pre x a' W hl ⟨r, hr⟩ hI ⟨Bx, u0, u1, u2, u3, u5, u6, u7, u12, u13, u14, u15, u16, u17, u18, u19, u20, u21, u22, u23, u24, u25, u26, u27, u28, u29, u30, u31, u32, u33, u34, u35, u36, u37, u38, u39, u40, u41, u42, u43, u44, u45, u46, u47, u48, u49, u50, u51, u52, u53, u54, u55, u56, u57, u58, u59, h1, h2, rfl⟩ hlt
      obtain ⟨xa, xc, xn⟩ := x
      simp only at h2
      have cI := hI.bi.cell
      have cE := hI.be.cell
      have hx0 : W.cell? ⟨Bx, 0, none⟩ = some (.int .i64 xc) := by simp [World.cell?, h2]
      have hx1 : W.cell? ⟨Bx, 1, none⟩ = some (.int .i64 xn) := by simp [World.cell?, h2]
      obtain ⟨v, c1, c2, c4⟩ := hI.out
      have c3 := c1.cell
      have c3f := c1.frozen
      obtain ⟨va, vc, rfl⟩ := c2.shape
      have C1 := Lib.hid c1
      have C2 := Lib.hid c2
      have C4 := Lib.hid c4
      have HI2 := Lib.hid hI
      have HH2 := Lib.hid h2
      have HSn := Lib.hid (cuts_snoc i E pre (xa, (xc, xn)))
      have HCl := Lib.hid (cuts_len i E pre)
      clear c1 c2 c4 hI h2
      generalize cuts i E pre = cs at *
      generalize hvn : cs.length = vn at *
      have Hvn := Lib.hid hvn
      clear hvn
      have hmx : Try.prog.follows .mixedOrders = true := by kernel_rfl
      gi_wp2
      refine region_quietR hmx (by kernel_rfl) (by kernel_rfl) ?_
      repeat (gi_big_quiet_step (fail))
      refine wpQuietIn_nil ?_
      rintro _ ⟨nq, rfl⟩
      obtain ⟨lo, hlo⟩ : ∃ lo, lo = (if xa < i then i else xa) := ⟨_, rfl⟩
      rw [← hlo]
      obtain ⟨hi9, hhi⟩ : ∃ hi9, hi9 = (if E < wrap64 (xa + xn) then E else wrap64 (xa + xn)) := ⟨_, rfl⟩
      rw [← hhi]
      have HC1 : Hid (cut1 i E (xa, (xc, xn)) = if lo < hi9 then [(xc, wrap64 (hi9 - lo))] else []) := by
        have e1 : max xa i = lo := by rw [hlo]; split <;> omega
        have e2 : min (wrap64 (xa + xn)) E = hi9 := by rw [hhi]; split <;> omega
        show cut1 _ _ _ = _
        simp only [cut1, e1, e2]
      have HW : Hid (w.heap.size < b1) := hs1
      clear hlo hhi
      have dI : (W.drewN nq).cell? ⟨Bx, 0, none⟩ = some (.int .i64 xc) := hx0
      have dO : (W.drewN nq).cell? ⟨b1 + 1, 0, none⟩ = some (.slice va vn vc) := c3
      have HCD : Hid (Below (W.drewN nq).heap.size (W.drewN nq) ((W.drewN nq).alloc (.cells #[.int .i64 xc, .int .i64 (wrap64 (hi9 - lo))] 38))) := (Below.refl _ _).alloc (Nat.le_refl _) _
      have HOa : Hid (Own2 ((W.drewN nq).alloc (.cells #[.int .i64 xc, .int .i64 (wrap64 (hi9 - lo))] 38)) (b1 + 3) (.slice va vn vc) cs) := by
        have h0 : Own2 (W.drewN nq) (b1 + 3) (.slice va vn vc) cs := C2.out.kept fun _ _ => rfl
        exact h0.below HCD.out
      have HBa : Hid (Boxed ((W.drewN nq).alloc (.cells #[.int .i64 xc, .int .i64 (wrap64 (hi9 - lo))] 38)) (b1 + 1) 22 (.slice va vn vc)) := by
        have h0 : Boxed (W.drewN nq) (b1 + 1) 22 (.slice va vn vc) := C1.out
        exact h0.alloc _
      have HL1 : Hid (cs.length ≤ 1000000000) := by show _ ≤ _; rw [Hvn.out]; have := HCl.out; omega
      have HL2 : Hid (b1 + 3 ≤ ((W.drewN nq).alloc (.cells #[.int .i64 xc, .int .i64 (wrap64 (hi9 - lo))] 38)).heap.size) := by show _ ≤ _; have h0 := HI2.out.big; simp; omega
      clear c3 c3f hx0 hx1 cI cE
      by_cases hlh : lo < hi9
      · gi_wp2_with (gi_at_builtin; refine rapp_wpIn rfl (.tmp 50) (.tmp 57) rfl (b1 + 3) (.slice va vn vc) ⟨(W.drewN nq).heap.size, 0, none⟩ 1 rfl rfl HOa.out C4.out (rr_one (W.drewN nq) (xc, wrap64 (hi9 - lo))) HL1.out HL2.out ?_; intro ra n c' w' hn ho hg hk; replace hn := Lib.hid hn; have d0 := (HBa.out.kept hg (fun e => by have := (HOa.out.lt e.symm).2; omega)).cell; have d1 := (HBa.out.kept hg (fun e => by have := (HOa.out.lt e.symm).2; omega)).frozen)
        exact sub_close _ _ HW.out HI2.out C1.out C2.out hg hk ho (by rw [HSn.out, HC1.out, if_pos hlh])
      · gi_wp2
        refine ⟨(keeps_drewN W nq).from _, kp2_drewN W nq, ?_⟩
        have he : cuts i E (pre ++ [(xa, (xc, xn))]) = cs := by rw [HSn.out, HC1.out, if_neg (by omega), List.append_nil]
        exact ⟨⟨_, C1.out, by rw [he]; exact C2.out.kept fun _ _ => rfl, by rw [he]; exact C4.out⟩, HI2.out.bi, HI2.out.be, below_drewN HI2.out.below nq, HI2.out.big⟩
    case done =>
      rintro D ys W hD rfl hI hK
      obtain ⟨v, c1, c2, _⟩ := hI.out
      have c3 := c1.cell
      obtain ⟨ra, rc, rfl⟩ := c2.shape
      have C2 := Lib.hid c2
      have HI2 := Lib.hid hI
      clear c1 c2 hI
      generalize hcs : cuts i E (places rs n0) = cs at *
      gi_wp2
      refine ⟨by simp, .inl ⟨_, _, rfl, run_takeDeferred hK, ?_⟩⟩
      rw [← HE.out, hcs]
      have hg := grownBy_putObj' W D (.deferred none)
      have hr : ∀ r, some D = some r → ∃ o : Obj, W.heap[r]? = some o ∧ o.isCells = false := fun r e => by cases e; exact ⟨_, hK, rfl⟩
      exact ⟨_, results_tmp rfl _ _ _, ra, rc, rfl, (own2_past C2.out hg hr).rr.mono fun k _ e => by omega, HI2.out.below.trans (belowK_b (w := w) (Nat.le_refl _) W D _ _ (by omega) hK rfl rfl)⟩
    case stop =>
      rintro D c pre W _ _ h _
      exact h.elim
end Go.Proofs.Ytdjapppfjpgidaa
