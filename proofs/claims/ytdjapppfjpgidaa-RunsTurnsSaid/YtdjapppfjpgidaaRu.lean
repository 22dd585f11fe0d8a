/- Walks: awake. -/
import Derived.Test.YtdjapppfjpgidaaRt
namespace Go.Proofs.Ytdjapppfjpgidaa
open Go.RowKit

theorem flat_cell (w : World) (rs : List Run) {i : Nat} {v : Value} (h : (flat rs)[i]? = some v) : (w.alloc (.cells (flat rs).toArray 38)).cell? ⟨w.heap.size, i, none⟩ = some v := by
  have hb := World.alloc_heap_new w (.cells (flat rs).toArray 38)
  unfold World.cell?
  simp only [hb]
  simpa using h
/-- A literal. -/
theorem rr_lit (w : World) (rs : List Run) : Rr (w.alloc (.cells (flat rs).toArray 38)) (fun _ => True) (.slice (some ⟨w.heap.size, 0, none⟩) rs.length rs.length) rs := by
  refine ⟨_, rs.length, rfl, Nat.le_refl _, by simp, fun i hi => ⟨w.heap.size, 0, rfl, trivial, by simp, ?_, ?_⟩⟩
  · have := flat_cell w rs (flat_get rs i hi).1
    simpa using this
  · have := flat_cell w rs (flat_get rs i hi).2
    simpa using this
theorem lit1 (w : World) (a b : Int) : Rr (w.alloc (.cells #[.int .i64 a, .int .i64 b] 38)) (fun _ => True) (.slice (some ⟨w.heap.size, 0, none⟩) 1 1) [(a, b)] := rr_lit w [(a, b)]
theorem lit2 (w : World) (a b c d : Int) : Rr (w.alloc (.cells #[.int .i64 a, .int .i64 b, .int .i64 c, .int .i64 d] 38)) (fun _ => True) (.slice (some ⟨w.heap.size, 0, none⟩) 2 2) [(a, b), (c, d)] := rr_lit w [(a, b), (c, d)]
theorem lit3 (w : World) (a b c d e f : Int) : Rr (w.alloc (.cells #[.int .i64 a, .int .i64 b, .int .i64 c, .int .i64 d, .int .i64 e, .int .i64 f] 38)) (fun _ => True) (.slice (some ⟨w.heap.size, 0, none⟩) 3 3) [(a, b), (c, d), (e, f)] := rr_lit w [(a, b), (c, d), (e, f)]
theorem below_one (w : World) (o : Obj) : Below w.heap.size w (w.alloc o) := (Below.refl _ _).alloc (Nat.le_refl _) _

theorem aw1 : substr [(97, 3), (98, 1)] 1 2 = [(97, 2)] := by kernel_rfl
theorem aw2 : replaceR [(97, 3), (98, 1)] [(97, 1)] [(99, 1)] = ([(99, 1), (97, 2), (98, 1)], 0) := by kernel_rfl
theorem aw3 : indexR [(97, 3), (98, 1)] [(97, 1), (98, 1)] 0 = 2 := by kernel_rfl
theorem aw4 : indexR [(97, 3), (98, 1)] [] 4 = 4 := by kernel_rfl
theorem aw5 : indexR [(97, 3), (98, 1)] [] 5 = -1 := by kernel_rfl

set_option maxHeartbeats 4000000 in
theorem awake_any (w : World) : Calls Try.prog 10 #[] w fun e w' => e = .returned (.bool true) ∧ Below w.heap.size w w' := by
  have HS := Lib.hid (lit2 w 97 3 98 1)
  have HB0 : Hid (Below w.heap.size w (w.alloc (.cells #[.int .i64 97, .int .i64 3, .int .i64 98, .int .i64 1] 38))) := below_one _ _
  have C1 := Lib.hid (substr_any HS.out 1 2 (by omega))
  rw [aw1] at C1
  go_enter Try.func10, Try.ntmps10
  go_wp2_with fail
  generalize w.alloc (.cells #[.int .i64 97, .int .i64 3, .int .i64 98, .int .i64 1] 38) = w0 at *
  refine C1.out.mono ?_
  rintro e w1 ⟨ra, rc, rfl, hr, hb⟩
  have HA := Lib.hid hr
  have HS1 := Lib.hid (HS.out.below hb)
  have HB1 := Lib.hid (HB0.out.trans (hb.mono HB0.out.size))
  clear hr hb HS HB0 C1
  simp only [List.length_cons, List.length_nil, Nat.zero_add]
  have t1 := (lit1 w1 97 1).below (below_one (w1.alloc (.cells #[.int .i64 97, .int .i64 1] 38)) (.cells #[.int .i64 99, .int .i64 1] 38))
  have t2 := lit1 (w1.alloc (.cells #[.int .i64 97, .int .i64 1] 38)) 99 1
  have b2 := (below_one w1 (.cells #[.int .i64 97, .int .i64 1] 38)).trans ((below_one (w1.alloc (.cells #[.int .i64 97, .int .i64 1] 38)) (.cells #[.int .i64 99, .int .i64 1] 38)).mono (by simp))
  simp only [World.size_alloc] at t2
  have HB2 := Lib.hid (HB1.out.trans (b2.mono HB1.out.size))
  have HA2 := Lib.hid (HA.out.below b2)
  have HS2 := Lib.hid (HS1.out.below b2)
  have C2 := Lib.hid (replace_any HS2.out t1 t2)
  rw [aw2] at C2
  clear t1 t2 b2 HA HS1 HB1
  go_wp2_with fail
  generalize (w1.alloc (.cells #[.int .i64 97, .int .i64 1] 38)).alloc (.cells #[.int .i64 99, .int .i64 1] 38) = w2 at *
  refine C2.out.mono ?_
  rintro e w3 ⟨rb, rd, rfl, hr, hb⟩
  have HR3 := Lib.hid hr
  have HA3 := Lib.hid (HA2.out.below hb)
  have HS3 := Lib.hid (HS2.out.below hb)
  have HB3 := Lib.hid (HB2.out.trans (hb.mono HB2.out.size))
  clear hr hb HS2 HA2 HB2 C2
  simp only [List.length_cons, List.length_nil, Nat.zero_add, Nat.reduceAdd] at HR3 ⊢
  have b4 := below_one w3 (.cells #[.int .i64 97, .int .i64 2] 38)
  have C4 := Lib.hid (texts_any (HA3.out.below b4) (lit1 w3 97 2) (by simp))
  have HR4 := Lib.hid (HR3.out.below b4)
  have HS4 := Lib.hid (HS3.out.below b4)
  have HB4 := Lib.hid (HB3.out.trans (b4.mono HB3.out.size))
  clear b4 HR3 HA3 HS3 HB3
  simp only [decide_true] at C4
  go_wp2_with fail
  generalize w3.alloc (.cells #[.int .i64 97, .int .i64 2] 38) = w4 at *
  refine C4.out.mono ?_
  rintro e w5 ⟨rfl, hb⟩
  have HR5 := Lib.hid (HR4.out.below hb)
  have HS5 := Lib.hid (HS4.out.below hb)
  have HB5 := Lib.hid (HB4.out.trans (hb.mono HB4.out.size))
  clear hb HR4 HS4 HB4 C4
  have b6 := below_one w5 (.cells #[.int .i64 99, .int .i64 1, .int .i64 97, .int .i64 2, .int .i64 98, .int .i64 1] 38)
  have C6 := Lib.hid (texts_any (HR5.out.below b6) (lit3 w5 99 1 97 2 98 1) (by simp))
  have HS6 := Lib.hid (HS5.out.below b6)
  have HB6 := Lib.hid (HB5.out.trans (b6.mono HB5.out.size))
  clear b6 HR5 HS5 HB5
  simp only [decide_true] at C6
  go_wp2_with fail
  generalize w5.alloc (.cells #[.int .i64 99, .int .i64 1, .int .i64 97, .int .i64 2, .int .i64 98, .int .i64 1] 38) = w6 at *
  refine C6.out.mono ?_
  rintro e w7 ⟨rfl, hb⟩
  have HS7 := Lib.hid (HS6.out.below hb)
  have HB7 := Lib.hid (HB6.out.trans (hb.mono HB6.out.size))
  clear hb HS6 HB6 C6
  have b8 := below_one w7 (.cells #[.int .i64 97, .int .i64 1, .int .i64 98, .int .i64 1] 38)
  have C8 := Lib.hid (index_call (HS7.out.below b8) (lit2 w7 97 1 98 1) 0)
  rw [aw3] at C8
  have HS8 := Lib.hid (HS7.out.below b8)
  have HB8 := Lib.hid (HB7.out.trans (b8.mono HB7.out.size))
  clear b8 HS7 HB7
  go_wp2_with fail
  generalize w7.alloc (.cells #[.int .i64 97, .int .i64 1, .int .i64 98, .int .i64 1] 38) = w8 at *
  refine C8.out.mono ?_
  rintro e w9 ⟨rfl, hb⟩
  have HS9 := Lib.hid (HS8.out.below hb)
  have HB9 := Lib.hid (HB8.out.trans (hb.mono HB8.out.size))
  clear hb HS8 HB8 C8
  have C9 := Lib.hid (index_call HS9.out (Rr.nil w9 (fun _ => True)) 4)
  rw [aw4] at C9
  go_wp2_with fail
  refine C9.out.mono ?_
  rintro e w10 ⟨rfl, hb⟩
  have HS10 := Lib.hid (HS9.out.below hb)
  have HB10 := Lib.hid (HB9.out.trans (hb.mono HB9.out.size))
  clear hb HS9 HB9 C9
  have C10 := Lib.hid (index_call HS10.out (Rr.nil w10 (fun _ => True)) 5)
  rw [aw5] at C10
  go_wp2_with fail
  refine C10.out.mono ?_
  rintro e w11 ⟨rfl, hb⟩
  have HB11 := Lib.hid (HB10.out.trans (hb.mono HB10.out.size))
  clear hb HS10 HB10 C10
  go_wp2_with fail
  go_ret
  exact ⟨rfl, HB11.out⟩
end Go.Proofs.Ytdjapppfjpgidaa
