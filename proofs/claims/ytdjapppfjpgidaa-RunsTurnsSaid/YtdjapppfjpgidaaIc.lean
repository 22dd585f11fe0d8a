/- The reference's points. -/
import Derived.Test.YtdjapppfjpgidaaIb
import Derived.Test.YtdjapppfjpgidaaLa
namespace Go.Proofs.Ytdjapppfjpgidaa
open Go.RowKit

/-- Numbers are answered, in new memory, that may grow. -/
def FreshI (w : World) (xs : List Int) (e : Ending) (w' : World) : Prop := ∃ a c, e = .returned (.slice a xs.length c) ∧ OwnI w' w.heap.size (.slice a xs.length c) xs ∧ Below w.heap.size w w'

theorem pts_take {rs : List Run} {k : Nat} (h : k < rs.length) : pts (rs.take (k + 1)) = pts (rs.take k) ++ List.replicate (rs.getD k (0, 0)).2.toNat (rs.getD k (0, 0)).1 := by
  rw [getD_snoc rs k h, pts_append]
  congr 1
  exact pts_one _ _
theorem pts_take_len {rs : List Run} (h : Canon rs) (k : Nat) : ((pts (rs.take k)).length : Int) = sz (rs.take k) := (canon_take h k).length

set_option maxHeartbeats 4000000 in
theorem points_any {w : World} {P : Nat → Prop} {v : Value} {rs : List Run} (h : Rr w P v rs) (hm : May rs) (hs : sz rs ≤ 1000000) :
    Calls Try.prog 34 #[v] w (FreshI w (pts rs)) := by
  have HR := Lib.hid h
  have HM := Lib.hid hm
  obtain ⟨a, c, rfl, _⟩ := h.shape
  have hsz := hm.size
  have hln : rs.length ≤ 1000000 := by omega
  have HS := Lib.hid hs
  clear h hm hs
  generalize hn : rs.length = n at *
  have Hn := Lib.hid hn
  clear hn
  go_enter Try.func34, Try.ntmps34
  go_wp2_with fail
  go_loopw [3, 4] (fun v i wr => ∃ k : Nat, k ≤ n ∧ i = .int .i64 k ∧ OwnI wr w.heap.size v (pts (rs.take k)) ∧ Below w.heap.size w wr) (fun _ i _ => n - (intOf i).toNat)
  case atStart => exact ⟨0, by omega, rfl, OwnI.nil _ _, Below.refl _ _⟩
  case round =>
    obtain ⟨k, hk, rfl, ho, hb⟩ := hrel
    obtain ⟨ra, rc, rfl⟩ := ho.shape
    have HO := Lib.hid ho
    have HB := Lib.hid hb
    clear ho hb
    by_cases hlt : k < n
    · obtain ⟨g, o, rfl, _, hgs, h0, h1⟩ := HR.out.at (i := k) (by rw [Hn.out]; exact hlt)
      have HT := Lib.hid (pts_take (rs := rs) (k := k) (by rw [Hn.out]; exact hlt))
      have hl1 := pts_take_len HM.out.canon k
      have hb2 := HM.out.bounds (k := k + 1) (by rw [Hn.out]; omega)
      have hb3 := sz_mono HM.out.canon (i := k + 1) (j := rs.length) (by rw [Hn.out]; omega)
      rw [List.take_length] at hb3
      rw [sz_take rs k (by rw [Hn.out]; exact hlt)] at hb2 hb3
      have hpos := HM.out.canon.pos (rs.getD k (0, 0)) (getD_mem (by rw [Hn.out]; exact hlt))
      have hsm := HS.out
      generalize rs.getD k (0, 0) = r at *
      obtain ⟨cc, nn⟩ := r
      simp only at *
      generalize pts (rs.take k) = xs at *
      have hxl : (xs.length : Int) + nn ≤ 1000000 := by omega
      have HXl := Lib.hid hxl
      have hn0 : nn ≤ 1000000 := by omega
      clear hl1 hb2 hb3 hsm hxl hsz
      generalize wr = wo at *
      go_wp2_with fail
      go_loopw [3, 5] (fun v m wq => ∃ j : Nat, (j : Int) ≤ nn ∧ m = .int .i64 j ∧ OwnI wq w.heap.size v (xs ++ List.replicate j cc) ∧ Below w.heap.size w wq) (fun _ m _ => nn.toNat - (intOf m).toNat)
      case atStart => exact ⟨0, by omega, rfl, by simpa using HO.out, HB.out⟩
      case round =>
        obtain ⟨j, hj, rfl, ho, hb⟩ := hrel
        have d0 := (hb.cell (p := ⟨g, o + k * 2, none⟩) hgs).trans h0
        have d1 := (hb.cell (p := ⟨g, o + k * 2 + 1, none⟩) hgs).trans h1
        obtain ⟨rb, rd, rfl⟩ := ho.shape
        have HO2 := Lib.hid (ho.below (below_one wr (.cells #[.int .i64 cc] 3)))
        have HO3 := Lib.hid ho
        have HB2 := Lib.hid hb
        clear ho hb
        by_cases hl2 : (j : Int) < nn
        · have HL : Hid ((xs ++ List.replicate j cc).length + [cc].length ≤ 1000000000000) := by
            show _ ≤ _
            have := HXl.out
            simp
            omega
          have HZ : Hid (w.heap.size ≤ (wr.alloc (.cells #[.int .i64 cc] 3)).heap.size) := by
            show _ ≤ _
            have := HB2.out.size
            simp
            omega
          generalize hys : xs ++ List.replicate j cc = ys at *
          have HYs := Lib.hid hys
          clear hys
          go_wp2_with (at_builtin; refine iapp_wp rfl (.tmp 21) (.tmp 27) rfl w.heap.size (.slice rb ys.length rd) _ rfl rfl HO2.out (rdi_one wr cc) HL.out HZ.out ?_; intro r3 n3 c3 w3 hn3 ho3 hg3 hl3; replace hn3 := Lib.hid hn3)
          go_roundw
          case rel =>
            have hbb : Below w.heap.size w w3 := (HB2.out.alloc HB2.out.size _).grown hg3 HZ.out (fun k e => (HO2.out.lt e).2)
            refine ⟨j + 1, by omega, by go_num, ?_, hbb⟩
            rw [List.replicate_succ', ← List.append_assoc, HYs.out]
            exact ho3
          case measure => simp [intOf]; omega
        · have ej : nn.toNat = j := by omega
          go_wp2_with fail
          go_roundw
          case rel =>
            refine ⟨k + 1, by omega, by go_num, ?_, HB2.out⟩
            rw [HT.out, ej]
            exact HO3.out
          case measure => simp [intOf]; omega
    · obtain rfl : k = n := by omega
      have hz : rs.take k = rs := List.take_of_length_le (by rw [Hn.out]; omega)
      rw [hz] at HO ⊢
      go_wp2_with fail
      go_ret
      exact ⟨ra, rc, rfl, HO.out, HB.out⟩
end Go.Proofs.Ytdjapppfjpgidaa
