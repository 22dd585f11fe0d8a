/- Walks: MeterDoes. -/
import Derived.Test.YthijblakaogmgaaWd
import Derived.LoopTactic
import Derived.OpenShut
import Derived.Deep.RegionHeld3
import Derived.Deep.DeepCutAuto
import Derived.Deep.RegionWith
namespace Go.Proofs.Ythijblakaogmgaa
open Go.Conc Go.RowKit

/-- A slice of at least one number that came in. -/
structure RowAt (w : World) (lb lo len : Nat) (zs : List Int) : Prop where
  lt : lb < w.heap.size
  cell : ∀ i, i < len → w.cell? ⟨lb, lo + i, none⟩ = some (.int .i64 (zs.getD i 0))

theorem RowAt.below {w w' : World} {B lb lo len : Nat} {zs : List Int} (h : RowAt w lb lo len zs) (hb : Below B w w') (hB : lb < B) : RowAt w' lb lo len zs :=
  ⟨Nat.lt_of_lt_of_le h.lt hb.size, fun i hi => (hb.cell (p := ⟨lb, lo + i, none⟩) hB).trans (h.cell i hi)⟩

/-- The reference's meter, in a variable of the law's own. -/
structure RefAt (w : World) (rb : Nat) (bud sp : Int) (ov : Bool) : Prop where
  row : w.heap[rb]? = some (.cells #[.int .i64 bud, .int .i64 sp, .bool ov] 27 (0,0))
theorem RefAt.c0 {w : World} {b : Nat} {bud sp : Int} {ov : Bool} (h : RefAt w b bud sp ov) : w.cell? ⟨b, 0, none⟩ = some (.int .i64 bud) := by simp [World.cell?, h.row]
theorem RefAt.c1 {w : World} {b : Nat} {bud sp : Int} {ov : Bool} (h : RefAt w b bud sp ov) : w.cell? ⟨b, 1, none⟩ = some (.int .i64 sp) := by simp [World.cell?, h.row]
theorem RefAt.c2 {w : World} {b : Nat} {bud sp : Int} {ov : Bool} (h : RefAt w b bud sp ov) : w.cell? ⟨b, 2, none⟩ = some (.bool ov) := by simp [World.cell?, h.row]
theorem RefAt.f {w : World} {b : Nat} {bud sp : Int} {ov : Bool} (h : RefAt w b bud sp ov) (o : Nat) : w.frozen? ⟨b, o, none⟩ = false := by simp [World.frozen?, h.row]
theorem RefAt.kept {b c rb : Nat} {x y : World} {bud sp : Int} {ov : Bool} (h : Kept b c x y) (m : RefAt x rb bud sp ov) (h1 : rb ≠ b) (h2 : rb ≠ c) : RefAt y rb bud sp ov := ⟨(h.block _ h1 h2).trans m.row⟩
theorem RefAt.below {B b : Nat} {x y : World} {bud sp : Int} {ov : Bool} (h : Below B x y) (m : RefAt x b bud sp ov) (hb : b < B) : RefAt y b bud sp ov := ⟨(h.block _ hb).trans m.row⟩
theorem RefAt.lt {w : World} {b : Nat} {bud sp : Int} {ov : Bool} (h : RefAt w b bud sp ov) : b < w.heap.size := (Array.getElem?_eq_some_iff.1 h.row).1

theorem bcell {W w1 : World} (hb : Below W.heap.size W w1) : (∀ b o, b < W.heap.size → w1.cell? ⟨b, o, none⟩ = W.cell? ⟨b, o, none⟩) ∧ (∀ b o, b < W.heap.size → w1.frozen? ⟨b, o, none⟩ = W.frozen? ⟨b, o, none⟩) :=
  ⟨fun b o h => hb.cell (p := ⟨b, o, none⟩) h, fun b o h => hb.frozen (p := ⟨b, o, none⟩) h⟩

/-- What holds at the head of each round. -/
structure DoesRel (w0 : World) (bud : Int) (mb mc rb : Nat) (wr : World) : Prop where
  st : ∃ (sp : Int) (ov : Bool), 0 ≤ sp ∧ sp ≤ 4611686018427387904 ∧ MeterAt wr mb mc bud sp ov ∧ RefAt wr rb bud sp ov
  below : Below w0.heap.size w0 wr

/-- What holds behind the reference's call. -/
structure Mid (w0 : World) (bud sp : Int) (ov : Bool) (sp' : Int) (ov' : Bool) (mb mc rb nb : Nat) (wx : World) : Prop where
  m : MeterAt wx mb mc bud sp' ov'
  r : RefAt wx rb bud sp ov
  s : RefAt wx nb bud sp' ov'
  below : Below w0.heap.size w0 wx
  ne : nb ≠ rb

theorem MeterAt.drewN {w : World} {b c : Nat} {bud sp : Int} {ov : Bool} (h : MeterAt w b c bud sp ov) (n : Nat) : MeterAt (w.drewN n) b c bud sp ov := ⟨h.row, h.chan⟩
theorem over_q (w : World) {b c : Nat} {bud sp : Int} {ov : Bool} (h : MeterAt w b c bud sp ov) : Calls Try.prog 12 #[.pointer (some ⟨b, 0, none⟩)] w fun e w' => e = .returned (.bool ov) ∧ w' = w :=
  (over_any w h).mono fun _ _ ⟨h1, h2⟩ => ⟨h1, h2.symm⟩
theorem spent_q (w : World) {b c : Nat} {bud sp : Int} {ov : Bool} (h : MeterAt w b c bud sp ov) : Calls Try.prog 13 #[.pointer (some ⟨b, 0, none⟩)] w fun e w' => e = .returned (.int .i64 sp) ∧ w' = w :=
  (spent_any w h).mono fun _ _ ⟨h1, h2⟩ => ⟨h1, h2.symm⟩

/-- The law's own 'r = s'. -/
def rSet (w : World) (rb : Nat) (bud sp : Int) (ov : Bool) : World := ((w.setCell ⟨rb, 0, none⟩ (.int .i64 bud)).setCell ⟨rb, 1, none⟩ (.int .i64 sp)).setCell ⟨rb, 2, none⟩ (.bool ov)
theorem rSet_ref {w : World} {rb : Nat} {bud sp : Int} {ov : Bool} (h : RefAt w rb bud sp ov) (sp' : Int) (ov' : Bool) : RefAt (rSet w rb bud sp' ov') rb bud sp' ov' := by
  constructor
  simp [rSet, World.setCell, Array.getElem?_modify, h.row]
theorem rSet_meter {w : World} {rb b c : Nat} {bud bud' sp : Int} {ov : Bool} (h : MeterAt w b c bud sp ov) (h1 : b ≠ rb) (h2 : c ≠ rb) (sp' : Int) (ov' : Bool) : MeterAt (rSet w rb bud' sp' ov') b c bud sp ov := by
  constructor
  · simp [rSet, World.setCell, Array.getElem?_modify, h.row, h1.symm]
  · simp [rSet, World.setCell, Array.getElem?_modify, h.chan, h2.symm]
theorem rSet_below {B : Nat} {w : World} {rb : Nat} (bud sp : Int) (ov : Bool) (hB : B ≤ rb) : Below B w (rSet w rb bud sp ov) := (((Below.refl _ w).setCell hB _).setCell hB _).setCell hB _

theorem mid_late {w0 w3 w5 : World} {bud sp n : Int} {ov : Bool} {mb mc rb : Nat} (hm : MeterAt w3 mb mc bud (mSp bud sp ov n) (mOv bud sp ov n)) (hr : RefAt w3 rb bud sp ov) (hb : Below w0.heap.size w0 w3) (hb5 : Below w3.drew.heap.size w3.drew w5) :
    Mid w0 bud sp ov (mSp bud sp ov n) (mOv bud sp ov n) mb mc rb w5.heap.size (w5.alloc (.cells #[.int .i64 bud, .int .i64 (mSp bud sp ov n), .bool (mOv bud sp ov n)] 27)) := by
  have hh : Below w3.heap.size w3 (w5.alloc (.cells #[.int .i64 bud, .int .i64 (mSp bud sp ov n), .bool (mOv bud sp ov n)] 27)) :=
    (((Below.refl _ w3).drew).trans hb5).alloc hb5.size _
  refine ⟨Below.meter hh hm hm.ltb hm.ltc, RefAt.below hh hr hr.lt, ⟨heap_alloc_new w5 _⟩, hb.trans (hh.mono hb.size), ?_⟩
  have := hr.lt
  have : w3.heap.size ≤ w5.heap.size := hb5.size
  omega

theorem mid_early {w0 w3 w5 : World} {bud sp n : Int} {ov : Bool} {mb mc rb : Nat} (hm : MeterAt w3 mb mc bud (mSp bud sp ov n) (mOv bud sp ov n)) (hr : RefAt w3 rb bud sp ov) (hb : Below w0.heap.size w0 w3)
    (hb5 : Below (w3.alloc (.cells #[.int .i64 0, .int .i64 0, .bool false] 27)).drew.heap.size (w3.alloc (.cells #[.int .i64 0, .int .i64 0, .bool false] 27)).drew w5) :
    Mid w0 bud sp ov (mSp bud sp ov n) (mOv bud sp ov n) mb mc rb w3.heap.size (((w5.setCell ⟨w3.heap.size, 0, none⟩ (.int .i64 bud)).setCell ⟨w3.heap.size, 1, none⟩ (.int .i64 (mSp bud sp ov n))).setCell ⟨w3.heap.size, 2, none⟩ (.bool (mOv bud sp ov n))) := by
  have h5 : Below w3.heap.size w3 w5 := ((Below.refl _ w3).alloc (Nat.le_refl _) _).drew.trans (hb5.mono (by simp [World.drew]))
  have hh : Below w3.heap.size w3 (((w5.setCell ⟨w3.heap.size, 0, none⟩ (.int .i64 bud)).setCell ⟨w3.heap.size, 1, none⟩ (.int .i64 (mSp bud sp ov n))).setCell ⟨w3.heap.size, 2, none⟩ (.bool (mOv bud sp ov n))) :=
    ((h5.setCell (Nat.le_refl _) _).setCell (Nat.le_refl _) _).setCell (Nat.le_refl _) _
  have hblk : w5.heap[w3.heap.size]? = some (.cells #[.int .i64 0, .int .i64 0, .bool false] 27) := by
    rw [hb5.block _ (by simp [World.drew])]
    exact heap_alloc_new w3 _
  refine ⟨Below.meter hh hm hm.ltb hm.ltc, RefAt.below hh hr hr.lt, ⟨?_⟩, hb.trans (hh.mono hb.size), ?_⟩
  · simp [World.setCell, Array.getElem?_modify, hblk]
  · have := hr.lt
    omega

set_option maxHeartbeats 1000000 in
theorem does_walk (bud : Int) (lb lo len cap : Nat) (zs : List Int) (w : World) (hu : bud ≤ 9223372036854775807) (hpos : 0 < len) (hlen : len ≤ 300) (hr : RowAt w lb lo len zs) :
    Calls Try.prog 3 #[.int .i64 bud, .slice (some ⟨lb, lo, none⟩) len cap] w fun e w' => e = .returned (.bool true) ∧ Below w.heap.size w w' := by
  have HR := Lib.hid hr
  have hlb := hr.lt
  have hd : decide ((300 : Int) < (len : Int)) = false := by simp; omega
  clear hr
  go_enter Try.func3, Try.ntmps3
  go_wp2_with fail
  refine (awake_any _).mono ?_
  rintro e w1 ⟨rfl, hb1⟩
  go_wp2_with fail
  refine (new_any _ _).mono ?_
  rintro e w2 ⟨rfl, rfl⟩
  have hx := Lib.hid (made_meter w1 bud)
  have hbx := made_below w1 bud
  generalize made w1 bud = w2 at *
  have hb2 := Lib.hid (hb1.trans (hbx.mono hb1.size))
  have szb := hx.out.ltb
  have szc := hx.out.ltc
  have sz1 := hb1.size
  have sz2 := hbx.size
  obtain ⟨mb, hmb⟩ : ∃ mb, mb = w1.heap.size + 1 := ⟨_, rfl⟩
  obtain ⟨mc, hmc⟩ : ∃ mc, mc = w1.heap.size := ⟨_, rfl⟩
  obtain ⟨rb, hrb⟩ : ∃ rb, rb = w2.heap.size := ⟨_, rfl⟩
  have M1 : w.heap.size ≤ mb := by omega
  have M2 : w.heap.size ≤ mc := by omega
  have M3 : w.heap.size ≤ rb := by omega
  have M4 : mb < rb := by omega
  have M5 : mc < rb := by omega
  have HM := Lib.hid (And.intro hmb (And.intro hmc hrb))
  clear hmb hmc hrb hb1 hbx
  go_wp2_with fail
  rw [← HM.out.1, ← HM.out.2.2]
  go_loopw [8] (fun i wr => ∃ k : Nat, k ≤ len ∧ i = .int .i64 k ∧ DoesRel w bud mb mc rb wr) (fun i _ => len - (intOf i).toNat)
  case atStart =>
    refine ⟨0, Nat.zero_le _, rfl, ⟨⟨0, false, by omega, by omega, ?_, ⟨?_⟩⟩, ?_⟩⟩
    · rw [HM.out.1, HM.out.2.1]
      exact Below.meter ((Below.refl w2.heap.size w2).alloc (Nat.le_refl _) _) hx.out szb szc
    · rw [HM.out.2.2]
      exact heap_alloc_new w2 _
    · exact hb2.out.alloc (by rw [← HM.out.2.2]; exact M3) _
  case round =>
    obtain ⟨k, hk, rfl, hrel⟩ := hrel
    obtain ⟨⟨sp, ov, s0, s1, hm, hf⟩, hbl⟩ := hrel
    have hbl' := Lib.hid hbl
    have hm' := Lib.hid hm
    have hrow := HR.out.below hbl hlb
    by_cases hlt : k < len
    · have hc := hrow.cell k hlt
      have hc0 := hf.c0
      have hc1 := hf.c1
      have hc2 := hf.c2
      have hf0 := hf.f 0
      have hf1 := hf.f 1
      have hf2 := hf.f 2
      have hfl := hf.lt
      have hf' := Lib.hid hf
      clear hrow hm hbl hf
      go_upto_region 9 with fail
      go_wp2_with fail
      refine (spend_any _ _ hm'.out hu s0 s1).mono ?_
      rintro e w3 ⟨rfl, hm3, hk3⟩
      have hm3' := Lib.hid hm3
      have hbl3 := hbl'.out.trans (hk3.below M1 M2)
      have hrow3 := HR.out.below hbl3 hlb
      have hf3 := RefAt.kept hk3 hf'.out (by omega) (by omega)
      clear hc hc0 hc1 hc2 hf0 hf1 hf2 hfl hf' hm3
      have hc := hrow3.cell k hlt
      have hc0 := hf3.c0
      have hc1 := hf3.c1
      have hc2 := hf3.c2
      have hf0 := hf3.f 0
      have hf1 := hf3.f 1
      have hf2 := hf3.f 2
      have hfl := hf3.lt
      have hf' := Lib.hid hf3
      have hbl4 := Lib.hid hbl3
      clear hf3 hbl3 hrow3 hk3
      go_upto_region 10 with fail
      have hl3 : lb < w3.heap.size := by have := hbl4.out.size; omega
      have hki0 : (0 : Int) ≤ (k : Int) := Int.natCast_nonneg _
      have hki1 : (k : Int) < (len : Int) := by omega
      have n1 : w3.heap.size ≠ lb := by omega
      have n2 : w3.heap.size ≠ rb := by omega
      go_cut [10, 11] (fun s10 s11 wx => ∃ nb : Nat, s10 = .pointer (some ⟨nb, 0, none⟩) ∧ s11 = .bool (mAns bud sp ov (zs[k]?.getD 0)) ∧ Mid w bud sp ov (mSp bud sp ov (zs[k]?.getD 0)) (mOv bud sp ov (zs[k]?.getD 0)) mb mc rb nb wx)
      case first =>
        go_region_held3 (fun w' => w'.cell? ⟨lb, lo + k, none⟩ = some (.int .i64 (zs[k]?.getD 0)) ∧ w'.cell? ⟨rb, 0, none⟩ = some (.int .i64 bud) ∧ w'.cell? ⟨rb, 1, none⟩ = some (.int .i64 sp) ∧ w'.cell? ⟨rb, 2, none⟩ = some (.bool ov)) (first | go_keep)
          ((first | (go_at_call 11; refine (ref_any _ _ _ _ _ hu s0 s1).mono ?_; rintro e w5 ⟨rfl, hb5⟩; unfold refR
                     obtain ⟨hcc, hff⟩ := bcell hb5; have hz5 := hb5.size
                     have q0 : w5.cell? ⟨lb, lo + k, none⟩ = some (.int .i64 (zs[k]?.getD 0)) := (hcc _ _ (by simp; omega)).trans (by simp [*])
                     have q1 : w5.cell? ⟨rb, 0, none⟩ = some (.int .i64 bud) := (hcc _ _ (by simp; omega)).trans (by simp [*])
                     have q2 : w5.cell? ⟨rb, 1, none⟩ = some (.int .i64 sp) := (hcc _ _ (by simp; omega)).trans (by simp [*])
                     have q3 : w5.cell? ⟨rb, 2, none⟩ = some (.bool ov) := (hcc _ _ (by simp; omega)).trans (by simp [*]))))
        all_goals
          go_wp2_with fail
          go_meet
          first
            | exact ⟨_, rfl, rfl, mid_late hm3'.out hf'.out hbl4.out hb5⟩
            | exact ⟨_, rfl, rfl, mid_early hm3'.out hf'.out hbl4.out hb5⟩
      case rest =>
        obtain ⟨nb, rfl, rfl, hmid⟩ := hcut
        clear hc hc0 hc1 hc2 hf0 hf1 hf2 hfl hf' hbl4 hl3 n1 n2 hm3' hbl'
        have z0 := mSp_nonneg bud sp (zs[k]?.getD 0) ov s0 s1
        generalize mSp bud sp ov (zs[k]?.getD 0) = spn at *
        generalize mOv bud sp ov (zs[k]?.getD 0) = ovn at *
        generalize mAns bud sp ov (zs[k]?.getD 0) = an at *
        have hs0 := hmid.s.c0
        have hs1 := hmid.s.c1
        have hs2 := hmid.s.c2
        have hr0 := hmid.r.c0
        have hr1 := hmid.r.c1
        have hr2 := hmid.r.c2
        have hrf0 := hmid.r.f 0
        have hrf1 := hmid.r.f 1
        have hrf2 := hmid.r.f 2
        have hW := Lib.hid (And.intro (rSet_meter hmid.m (by omega) (by omega) spn ovn : MeterAt (rSet wc rb bud spn ovn) mb mc bud spn ovn) (And.intro (rSet_ref hmid.r spn ovn) (hmid.below.trans (rSet_below (w := wc) bud spn ovn M3))))
        clear hmid
        go_upto_region 12 with fail
        change Code.wp _ _ _ _ (rSet wc rb bud spn ovn)
        obtain ⟨w6, hw6⟩ : ∃ w6, w6 = rSet wc rb bud spn ovn := ⟨_, rfl⟩
        rw [← hw6] at hW ⊢
        clear hw6 hs0 hs1 hs2 hr0 hr1 hr2 hrf0 hrf1 hrf2
        obtain ⟨gm, gr, gb⟩ := hW.out
        have g0 := gr.c0
        have g1 := gr.c1
        have g2 := gr.c2
        have Gm := Lib.hid gm
        have Gr := Lib.hid gr
        have Gb := Lib.hid gb
        clear gm gr gb hW
        go_quiet ((first | (go_at_call 12; exact Calls.quiet_of_same (over_q _ (Gm.out.drewN _))) | (go_at_call 13; exact Calls.quiet_of_same (spent_q _ (Gm.out.drewN _)))))
        go_wp2_with fail
        go_roundw
        case rel =>
          exact ⟨k + 1, by omega, by go_num, ⟨⟨spn, ovn, z0.1, z0.2, Gm.out.drewN _, ⟨Gr.out.row⟩⟩, ⟨Gb.out.os, Gb.out.tape, Gb.out.output, Gb.out.size, Gb.out.block⟩⟩⟩
        case measure => simp [intOf]; omega
    · go_wp2_with fail
      go_ret
      exact ⟨rfl, hbl⟩
end Go.Proofs.Ythijblakaogmgaa
