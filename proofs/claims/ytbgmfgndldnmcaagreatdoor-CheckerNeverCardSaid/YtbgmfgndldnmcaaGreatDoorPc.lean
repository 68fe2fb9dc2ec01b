/- Functions of the program as plain Lean functions, with proved contracts; printed by programs of this session. -/
import Derived.Test.YtbgmfgndldnmcaaGreatDoorPb
namespace Go.Proofs.YtbgmfgndldnmcaaGreatDoor.PCheckerNever
open Go.RowKit Go.Proofs.YtbgmfgndldnmcaaGreatDoorW.PrintWords Go.Proofs.YtbgmfgndldnmcaaGreatDoorW.PrintLast Go.Proofs.YtbgmfgndldnmcaaGreatDoorW.PrintMore Go.Proofs.YtbgmfgndldnmcaaGreatDoorW.Q
attribute [local go_sem] max2_int max_two
set_option linter.unusedVariables false
set_option linter.unusedSimpArgs false
def checker_sum.l0 : Nat → List (S61) → List (S61) → Int → Int → Bool → List Int → List Int → Option (Bool × List Int × List Int)
 | 0, _, _, _, _, _, _, _ => none
 | k + 1, x0, x1, x9, x10, x432000, x432001, x432002 => if x10 < x9 then (if 0 ≤ x10 then (if x10 < (x0.length : Int) then (if x10 < (x1.length : Int) then ((checker_fraction_mul.f k ((rd_T61 x0 x10).f0) ((rd_T61 x0 x10).f1) ((rd_T61 x0 x10).f2) ((rd_T61 x1 x10).f0) ((rd_T61 x1 x10).f1) ((rd_T61 x1 x10).f2)).bind fun e1 => ((checker_fraction_add.f k x432000 x432001 x432002 e1.1 e1.2.1 e1.2.2).bind fun e2 => (checker_sum.l0 k x0 x1 x9 (wrap64 (x10 + 1)) e2.1 e2.2.1 e2.2.2))) else (none)) else (none)) else (none)) else (some (x432000, x432001, x432002))
def checker_sum.f (k : Nat) (l0 : List (S61)) (l1 : List (S61)) : Option (Bool × List Int × List Int) := (checker_of.f k 0).bind fun c8 => (checker_sum.l0 k l0 l1 (l0.length : Int) 0 c8.1 c8.2.1 c8.2.2)
theorem checker_sum.mono_l : ∀ k, (∀ y0 y1 y2 y3 y4 y5 y6, LeO (checker_sum.l0 k y0 y1 y2 y3 y4 y5 y6) (checker_sum.l0 (k + 1) y0 y1 y2 y3 y4 y5 y6))
 | 0 => fun _ _ _ _ _ _ _ r h => by simp [checker_sum.l0] at h
 | k + 1 => by
  have ih0 := checker_sum.mono_l k
  ·
   intro y0 y1 y2 y3 y4 y5 y6
   unfold checker_sum.l0
   repeat' first | (with_reducible first | exact ih0 .. | exact checker_fraction_add.mono .. | exact checker_fraction_mul.mono .. | exact checker_of.mono .. | exact LeO.refl _ | exact LeO.none _ | refine LeO.ite ?_ ?_ | refine LeO.bind ?_ (fun _ => ?_))
theorem checker_sum.mono : ∀ a0 a1 k, LeO (checker_sum.f k a0 a1) (checker_sum.f (k + 1) a0 a1) := by
 intro a0 a1 k
 have ih0 := checker_sum.mono_l k
 unfold checker_sum.f
 repeat' first | (with_reducible first | exact ih0 .. | exact checker_fraction_add.mono .. | exact checker_fraction_mul.mono .. | exact checker_of.mono .. | exact LeO.refl _ | exact LeO.none _ | refine LeO.ite ?_ ?_ | refine LeO.bind ?_ (fun _ => ?_))
def checker_sum.T5 : Bool × List (List Nat × List Nat) := (true, [([], []), ([], []), ([], []), ([1, 2], [1, 2]), ([3], [3]), ([], []), ([], []), ([5, 6], [5, 6]), ([7], [7]), ([4, 8], [4, 8]), ([0, 9, 9], [0, 9]), ([10, 10, 0, 1, 2, 3, 4, 5, 6, 7, 8, 9, 10], [10])])
def checker_sum.B5 : List Nat := [0, 0, 0, 6, 14, 0, 0, 96, 224, 510, 1023, 2047]
theorem checker_sum.tab5 : rtab .any (opsOf Tryz.f20 5) = checker_sum.T5 := by kernel_rfl
theorem checker_sum.bits5 : waitsOk checker_sum.T5.2 checker_sum.B5 = true := by kernel_rfl
set_option maxHeartbeats 8000000 in
set_option maxRecDepth 100000 in
theorem checker_sum.calls (k : Nat) (A0 : Option Addr) (c0 : Nat) (l0 : List (S61)) (A1 : Option Addr) (c1 : Nat) (l1 : List (S61)) (r1 : Bool) (r2 : List Int) (r3 : List Int) (w : World) (hG : GW w) (hr0 : Kd.C k61 w A0 l0.length l0) (hc0 : l0.length ≤ c0) (hr1 : Kd.C k61 w A1 l1.length l1) (hc1 : l1.length ≤ c1) (h : checker_sum.f k l0 l1 = some (r1, r2, r3)) :
  Calls Tryz.prog 20 #[.slice A0 l0.length c0, .slice A1 l1.length c1] w fun e w' => ∃ v1_ v2_ : Value, e = .returned (.agg #[.bool r1, v1_, v2_]) ∧ Kd.V (Kd.int .u32) 107 w' w.heap.size (fun k_ => (w.heap.size ≤ k_)) v1_ r2 ∧ Kd.V (Kd.int .u32) 107 w' w.heap.size (fun k_ => (w.heap.size ≤ k_)) v2_ r3 ∧ Below w.heap.size w w' := by
 have hu61 := Tryz.underlying61
 have HR0 := mk0 hr0
 have q3 := mk0 hc0
 clear hr0 hc0
 have HR1 := mk0 hr1
 have q4 := mk0 hc1
 clear hr1 hc1
 have HB := mk0 (Below.refl w.heap.size w)
 have HG := mk0 hG
 clear hG
 have H : ((checker_of.f k 0).bind fun c8 => (checker_sum.l0 k l0 l1 (l0.length : Int) 0 c8.1 c8.2.1 c8.2.2)) = some (r1, r2, r3) := h
 clear h
 obtain ⟨⟨f6, f7, i1⟩, A3, H⟩ := bS H
 (try dsimp only at H)
 have H' := mk0 H
 clear H
 go_enter Tryz.func20, Tryz.ntmps20
 go_wp2_with (first | (refine gd 4 ?_; refine box_event ?hg (N := 4) ?hd (cs := #[.bool false, .slice none 0 0, .slice none 0 0]) (t := 61) ?hr ?_; (case hd => rfl); (case hg => rfl); (case hr => exact aH); intro b3 hg w4 hbox hb; have b0 := mk0 (hbox);have o1 := uG hg;have o2 := uG hg;replace HB := uW hb; clear hb hbox hg) | (refine gc 40 ?_; refine gl 7 Tryz.func40 #[.int .i64 0] ?_; (with_reducible refine (checker_of.calls k 0 f6 f7 i1 _ ?side1 A3.out).mono ?_); (case side1 => exact GW.below HG.out (aB)); rintro e w5 ⟨p3, p4, rfl, g6, g7, hb⟩; refine ⟨_, rfl, ?_⟩; have d4 := lV (ok' := fun k_ => (w.heap.size ≤ k_) ∧ k_ ≠ b3) g6;have d5 := lV (ok' := fun k_ => (w.heap.size ≤ k_) ∧ k_ ≠ b3) g7;replace b0 := uB b0 hb;replace HB := uW hb; (try clear hb); (try clear g6); (try clear g7)) | (refine gd 5 ?_; refine box_event ?hg (N := 5) ?hd (cs := #[.bool false, .slice none 0 0, .slice none 0 0]) (t := 61) ?hr ?_; (case hd => rfl); (case hg => rfl); (case hr => exact aH); intro b1 hg w6 hbox hb; replace d4 := eV d4 hg hb;replace d5 := eV d5 hg hb;have a3 := mk0 (hbox);have o3 := uG hg;have o4 := uG hg;replace HB := uW hb;have a6 := uL b0 hg;have b2 := uM b0 hg;replace b0 := uB b0 hb; clear hb hbox hg; have p5 := b2.out; have p6 := a6.out; have i2 : w6.cell? ⟨b1, 0, none⟩ = some (.bool false) := (blk_cell a3.out 0).trans rfl; have i3 : w6.cell? ⟨b1, 1, none⟩ = some (.slice none 0 0) := (blk_cell a3.out 1).trans rfl; have i4 : w6.cell? ⟨b1, 2, none⟩ = some (.slice none 0 0) := (blk_cell a3.out 2).trans rfl; have i5 := blk_frozen a3.out 0; have i6 := blk_frozen a3.out 1; have i7 := blk_frozen a3.out 2; obtain ⟨o5, o6, p7⟩ := Kd.V_slice d4.out; subst p7; obtain ⟨m4, m5, m6⟩ := Kd.V_slice d5.out; subst m6))
 go_loopg [10] k (fun kq p8 w' => ∃ (a2 : Int) (a8 : Bool) (a9 : List Int) (a7 : List Int) (c5 : Value) (c6 : Value), p8 = .int .i64 a2 ∧ Aside0 (checker_sum.l0 kq l0 l1 (l0.length : Int) a2 a8 a9 a7 = some (r1, r2, r3)) ∧ Aside0 (kq ≤ k) ∧ Aside0 (Kd.V (Kd.int .u32) 107 w' w.heap.size (fun k_ => (w.heap.size ≤ k_) ∧ k_ ≠ b3 ∧ k_ ≠ b1) c5 a9) ∧ Aside0 (Kd.V (Kd.int .u32) 107 w' w.heap.size (fun k_ => (w.heap.size ≤ k_) ∧ k_ ≠ b3 ∧ k_ ≠ b1) c6 a7) ∧ Aside0 (w'.heap[b3]? = some (.cells #[.bool false, (.slice none 0 0), (.slice none 0 0)] 61 (0, 0))) ∧ Aside0 (w'.heap[b1]? = some (.cells #[.bool a8, c5, c6] 61 (0, 0))) ∧ Aside0 (Below w.heap.size w w'))
 case atStart => exact ⟨(0), (f6), (f7), (i1), (.slice o5 f7.length o6), (.slice m4 i1.length m5), (by first | rfl | simp [*]), H', ⟨Nat.le_refl _⟩, ⟨sV d4.out⟩, ⟨sV d5.out⟩, ⟨by (with_reducible repeat (first | refine blk_drewN ?_ _ | refine blk_drew ?_ | refine blk_alloc ?_ _)); refine blk_far ?_ a6.out _; (with_reducible repeat (first | refine blk_drewN ?_ _ | refine blk_drew ?_ | refine blk_alloc ?_ _)); refine blk_far ?_ a6.out _; (with_reducible repeat (first | refine blk_drewN ?_ _ | refine blk_drew ?_ | refine blk_alloc ?_ _)); refine blk_far ?_ a6.out _; (with_reducible repeat (first | refine blk_drewN ?_ _ | refine blk_drew ?_ | refine blk_alloc ?_ _)); exact b0.out⟩, ⟨by (with_reducible repeat (first | refine blk_drewN ?_ _ | refine blk_drew ?_ | refine blk_alloc ?_ _)); refine blk_put (cs := #[.bool f6, .slice o5 f7.length o6, .slice none 0 0]) ?_ 2 _ rfl; (with_reducible repeat (first | refine blk_drewN ?_ _ | refine blk_drew ?_ | refine blk_alloc ?_ _)); refine blk_put (cs := #[.bool f6, .slice none 0 0, .slice none 0 0]) ?_ 1 _ rfl; (with_reducible repeat (first | refine blk_drewN ?_ _ | refine blk_drew ?_ | refine blk_alloc ?_ _)); refine blk_put (cs := #[.bool false, .slice none 0 0, .slice none 0 0]) ?_ 0 _ rfl; (with_reducible repeat (first | refine blk_drewN ?_ _ | refine blk_drew ?_ | refine blk_alloc ?_ _)); exact a3.out⟩, ⟨aB⟩⟩
 case round =>
  clear H'
  try clear c1
  try clear c2
  try clear p2
  try clear c4
  try clear c7
  try clear i2
  try clear i3
  try clear i4
  try clear i5
  try clear i6
  try clear i7
  obtain ⟨a2, a8, a9, a7, c5, c6, rfl, HA, HK1, a4, a5, b0, a3, HB⟩ := hrel
  cases gk with
  | zero => exact absurd HA.out (by simp [checker_sum.l0])
  | succ k1 =>
   have H := HA.out
   clear HA
   simp only [checker_sum.l0] at H
   by_cases j6 : a2 < (l0.length : Int)
   ·
    rw [if_pos j6] at H
    have j7 : decide (a2 < (l0.length : Int)) = true := decide_eq_true j6
    clear j6
    by_cases k7 : 0 ≤ a2
    ·
     rw [if_pos k7] at H
     have o7 : decide (0 ≤ a2) = true := decide_eq_true k7
     clear k7
     by_cases k8 : a2 < (l0.length : Int)
     ·
      rw [if_pos k8] at H
      have o8 : decide (a2 < (l0.length : Int)) = true := decide_eq_true k8
      clear k8
      by_cases k9 : a2 < (l1.length : Int)
      ·
       rw [if_pos k9] at H
       have o9 : decide (a2 < (l1.length : Int)) = true := decide_eq_true k9
       clear k9
       obtain ⟨⟨i8, i9, j0⟩, A15, H⟩ := bS H
       (try dsimp only at H)
       obtain ⟨⟨f8, f9, j1⟩, A16, H⟩ := bS H
       (try dsimp only at H)
       have H' := mk0 H
       clear H
       try go_wp2
       replace a4 := mk0 (Kd.V_drew a4.out)
       replace a5 := mk0 (Kd.V_drew a5.out)
       replace b0 := mk0 (blk_drew b0.out)
       replace a3 := mk0 (blk_drew a3.out)
       replace HB := mk0 (below_drew1 HB.out)
       have j2 : 0 ≤ (a2 : Int) := aD
       have j3 : a2 < (l0.length : Int) := aD
       obtain ⟨d0, e3, e4, e5, e6, e432, b4, b5, b6, hl432_1, hi432_1, hl432_2, hi432_2⟩ := at_T61 HR0.out a2 j2 j3
       have hw432_2 := b6
       have hw432_1 := b5
       have hw432_0 := b4
       cases e432
       replace b4 := (HB.out.cell (World.block_lt_of_cell? w _ b4)).trans b4
       replace b5 := (HB.out.cell (World.block_lt_of_cell? w _ b5)).trans b5
       replace b6 := (HB.out.cell (World.block_lt_of_cell? w _ b6)).trans b6
       have d6 := mk0 hi432_1
       have g0 := mk0 hl432_1
       clear hi432_1 hl432_1
       have d7 := mk0 hi432_2
       have g1 := mk0 hl432_2
       clear hi432_2 hl432_2
       replace j2 := eq_true j2
       replace j3 := eq_true j3
       have j4 : 0 ≤ (a2 : Int) := aD
       have j5 : a2 < (l1.length : Int) := aD
       obtain ⟨d1, e7, e8, e9, f3, e433, b7, b8, b9, hl433_1, hi433_1, hl433_2, hi433_2⟩ := at_T61 HR1.out a2 j4 j5
       have hw433_2 := b9
       have hw433_1 := b8
       have hw433_0 := b7
       cases e433
       replace b7 := (HB.out.cell (World.block_lt_of_cell? w _ b7)).trans b7
       replace b8 := (HB.out.cell (World.block_lt_of_cell? w _ b8)).trans b8
       replace b9 := (HB.out.cell (World.block_lt_of_cell? w _ b9)).trans b9
       have d8 := mk0 hi433_1
       have g2 := mk0 hl433_1
       clear hi433_1 hl433_1
       have d9 := mk0 hi433_2
       have g3 := mk0 hl433_2
       clear hi433_2 hl433_2
       replace j4 := eq_true j4
       replace j5 := eq_true j5
       refine start_ (n := 12) (S := fun w' => w'.cell? ⟨b1, 0, none⟩ = some (.bool a8) ∧ w'.cell? ⟨b1, 1, none⟩ = some (c5) ∧ w'.cell? ⟨b1, 2, none⟩ = some (c6) ∧ w'.cell? (d0.add ((a2).toNat * 3)) = some (.bool ((rd_T61 l0 a2).f0)) ∧ w'.cell? ⟨(d0.add ((a2).toNat * 3)).block, (d0.add ((a2).toNat * 3)).off + 1, none⟩ = some (.slice e3 ((rd_T61 l0 a2).f1).length e4) ∧ w'.cell? ⟨(d0.add ((a2).toNat * 3)).block, (d0.add ((a2).toNat * 3)).off + 2, none⟩ = some (.slice e5 ((rd_T61 l0 a2).f2).length e6) ∧ w'.cell? (d1.add ((a2).toNat * 3)) = some (.bool ((rd_T61 l1 a2).f0)) ∧ w'.cell? ⟨(d1.add ((a2).toNat * 3)).block, (d1.add ((a2).toNat * 3)).off + 1, none⟩ = some (.slice e7 ((rd_T61 l1 a2).f1).length e8) ∧ w'.cell? ⟨(d1.add ((a2).toNat * 3)).block, (d1.add ((a2).toNat * 3)).off + 2, none⟩ = some (.slice e9 ((rd_T61 l1 a2).f2).length f3)) (ds := [11]) #[false, false, false, false, false, false, false, false, false, false, false, false] (by kernel_rfl) rfl rfl ⟨(blk_cell a3.out 0).trans rfl, (blk_cell a3.out 1).trans rfl, (blk_cell a3.out 2).trans rfl, ((HB.out.cell (World.block_lt_of_cell? w _ hw432_0)).trans hw432_0), ((HB.out.cell (World.block_lt_of_cell? w _ hw432_1)).trans hw432_1), ((HB.out.cell (World.block_lt_of_cell? w _ hw432_2)).trans hw432_2), ((HB.out.cell (World.block_lt_of_cell? w _ hw433_0)).trans hw433_0), ((HB.out.cell (World.block_lt_of_cell? w _ hw433_1)).trans hw433_1), ((HB.out.cell (World.block_lt_of_cell? w _ hw433_2)).trans hw433_2)⟩ (fun c9 => ?_); refine with_tabW checker_sum.tab5 checker_sum.bits5 (fun HT_ HW_ => ?_)
       generalize wr.drew = q5 at a4 a5 b0 a3 HB d6 d7 d8 d9 b4 b5 b6 b7 b8 b9 c9 ⊢
       refine pu 1 14 HT_ ?_
       refine pu 2 15 HT_ ?_
       refine pu 3 16 HT_ ?_
       refine pu 5 18 HT_ ?_
       refine pu 6 19 HT_ ?_
       refine pu 7 20 HT_ ?_
       refine tk 0 13 HT_ HW_ c9 ?_
       refine tk 4 17 HT_ HW_ c9 ?_
       refine tk 8 21 HT_ HW_ c9 ?_
       refine oN 9 22 HT_ (fun K hK => ?_)
       refine gz Tryz.func41 #[.agg #[.bool ((rd_T61 l0 a2).f0), .slice e3 ((rd_T61 l0 a2).f1).length e4, .slice e5 ((rd_T61 l0 a2).f2).length e6], .agg #[.bool ((rd_T61 l1 a2).f0), .slice e7 ((rd_T61 l1 a2).f1).length e8, .slice e9 ((rd_T61 l1 a2).f2).length f3]] ?_
       with_reducible refine (checker_fraction_mul.calls k1 ((rd_T61 l0 a2).f0) _ _ ((rd_T61 l0 a2).f1) _ _ ((rd_T61 l0 a2).f2) ((rd_T61 l1 a2).f0) _ _ ((rd_T61 l1 a2).f1) _ _ ((rd_T61 l1 a2).f2) i8 i9 j0 _ ?side1 ?side2 ?side3 ?side4 ?side5 ?side6 ?side7 ?side8 A15.out).mono ?_
       (case side1 => exact pC (Kd.C_below d6.out HB.out))
       (case side2 => exact g0.out)
       (case side3 => exact pC (Kd.C_below d7.out HB.out))
       (case side4 => exact g1.out)
       (case side5 => exact pC (Kd.C_below d8.out HB.out))
       (case side6 => exact g2.out)
       (case side7 => exact pC (Kd.C_below d9.out HB.out))
       (case side8 => exact g3.out)
       rintro e q6 ⟨p9, q0, rfl, g6, g7, hb⟩
       refine ⟨_, rfl, ?_⟩
       replace a4 := uV a4 hb
       replace a5 := uV a5 hb
       have d2 := lV (ok' := fun k_ => (w.heap.size ≤ k_) ∧ k_ ≠ b3 ∧ k_ ≠ b1) g6
       have d3 := lV (ok' := fun k_ => (w.heap.size ≤ k_) ∧ k_ ≠ b3 ∧ k_ ≠ b1) g7
       replace b0 := uB b0 hb
       replace a3 := uB a3 hb
       replace HB := uW hb
       (try clear hb)
       (try clear hb2)
       (try clear hk)
       (try clear hi)
       (try clear g6)
       (try clear g7)
       obtain ⟨g4, g5, j8⟩ := Kd.V_slice a4.out
       (first | subst j8 | (injection j8 with f1_ f2_ f3_; have f4_ := f1_.symm; have f5_ := f3_.symm; clear f1_ f2_ f3_; subst f4_; subst f5_))
       obtain ⟨f4, f5, j9⟩ := Kd.V_slice a5.out
       (first | subst j9 | (injection j9 with f1_ f2_ f3_; have f4_ := f1_.symm; have f5_ := f3_.symm; clear f1_ f2_ f3_; subst f4_; subst f5_))
       obtain ⟨m7, m8, k0⟩ := Kd.V_slice d2.out
       (first | subst k0 | (injection k0 with f1_ f2_ f3_; have f4_ := f1_.symm; have f5_ := f3_.symm; clear f1_ f2_ f3_; subst f4_; subst f5_))
       obtain ⟨m9, n0, k2⟩ := Kd.V_slice d3.out
       (first | subst k2 | (injection k2 with f1_ f2_ f3_; have f4_ := f1_.symm; have f5_ := f3_.symm; clear f1_ f2_ f3_; subst f4_; subst f5_))
       refine hK.out _ _ ⟨(blk_cell a3.out 0).trans rfl, (blk_cell a3.out 1).trans rfl, (blk_cell a3.out 2).trans rfl, ((HB.out.cell (World.block_lt_of_cell? w _ hw432_0)).trans hw432_0), ((HB.out.cell (World.block_lt_of_cell? w _ hw432_1)).trans hw432_1), ((HB.out.cell (World.block_lt_of_cell? w _ hw432_2)).trans hw432_2), ((HB.out.cell (World.block_lt_of_cell? w _ hw433_0)).trans hw433_0), ((HB.out.cell (World.block_lt_of_cell? w _ hw433_1)).trans hw433_1), ((HB.out.cell (World.block_lt_of_cell? w _ hw433_2)).trans hw433_2)⟩ (fun c9 => ?_)
       clear hK K
       refine norm_ (a' := ?_) ?_ ?_
       rotate_left
       ·
        show Act.put _ (some 22) _ = _
        exact aP
       refine oN 10 23 HT_ (fun K hK => ?_)
       refine gz Tryz.func23 #[.agg #[.bool a8, .slice g4 a9.length g5, .slice f4 a7.length f5], .agg #[.bool i8, .slice m7 i9.length m8, .slice m9 j0.length n0]] ?_
       with_reducible refine (checker_fraction_add.calls k1 a8 _ _ a9 _ _ a7 i8 _ _ i9 _ _ j0 f8 f9 j1 _ ?side1 ?side2 ?side3 ?side4 ?side5 ?side6 ?side7 ?side8 A16.out).mono ?_
       (case side1 => exact pC ((Kd.V_reads' a4.out).2.2))
       (case side2 => exact (Kd.V_reads' a4.out).2.1)
       (case side3 => exact pC ((Kd.V_reads' a5.out).2.2))
       (case side4 => exact (Kd.V_reads' a5.out).2.1)
       (case side5 => exact pC ((Kd.V_reads' d2.out).2.2))
       (case side6 => exact (Kd.V_reads' d2.out).2.1)
       (case side7 => exact pC ((Kd.V_reads' d3.out).2.2))
       (case side8 => exact (Kd.V_reads' d3.out).2.1)
       rintro e n1 ⟨q1, q2, rfl, g6, g7, hb⟩
       refine ⟨_, rfl, ?_⟩
       replace a4 := uV a4 hb
       replace a5 := uV a5 hb
       replace d2 := uV d2 hb
       replace d3 := uV d3 hb
       have g8 := lV (ok' := fun k_ => (w.heap.size ≤ k_) ∧ k_ ≠ b3 ∧ k_ ≠ b1) g6
       have g9 := lV (ok' := fun k_ => (w.heap.size ≤ k_) ∧ k_ ≠ b3 ∧ k_ ≠ b1) g7
       replace b0 := uB b0 hb
       replace a3 := uB a3 hb
       replace HB := uW hb
       (try clear hb)
       (try clear hb2)
       (try clear hk)
       (try clear hi)
       (try clear g6)
       (try clear g7)
       obtain ⟨k3, k4, k5⟩ := Kd.V_slice g8.out
       (first | subst k5 | (injection k5 with f1_ f2_ f3_; have f4_ := f1_.symm; have f5_ := f3_.symm; clear f1_ f2_ f3_; subst f4_; subst f5_))
       obtain ⟨n2, n3, k6⟩ := Kd.V_slice g9.out
       (first | subst k6 | (injection k6 with f1_ f2_ f3_; have f4_ := f1_.symm; have f5_ := f3_.symm; clear f1_ f2_ f3_; subst f4_; subst f5_))
       refine hK.out _ _ ⟨(blk_cell a3.out 0).trans rfl, (blk_cell a3.out 1).trans rfl, (blk_cell a3.out 2).trans rfl, ((HB.out.cell (World.block_lt_of_cell? w _ hw432_0)).trans hw432_0), ((HB.out.cell (World.block_lt_of_cell? w _ hw432_1)).trans hw432_1), ((HB.out.cell (World.block_lt_of_cell? w _ hw432_2)).trans hw432_2), ((HB.out.cell (World.block_lt_of_cell? w _ hw433_0)).trans hw433_0), ((HB.out.cell (World.block_lt_of_cell? w _ hw433_1)).trans hw433_1), ((HB.out.cell (World.block_lt_of_cell? w _ hw433_2)).trans hw433_2)⟩ (fun c9 => ?_)
       clear hK K
       refine norm_ (a' := ?_) ?_ ?_
       rotate_left
       ·
        show Act.put _ (some 23) _ = _
        exact aP
       refine last_ (i := 11) (N := none) #[true, true, true, true, true, true, true, true, true, true, true, true] rfl rfl (one_of HT_.out (by kernel_rfl)) (by decide) (fun K hK => ?_)
       have hs24 : n1.cell? ⟨b1, 0, none⟩ = some (.bool a8) := (blk_cell a3.out 0).trans rfl
       have hfs24 := blk_frozen a3.out 0
       have hns24_0 := a6.out
       have hms24_0 := b2.out
       have hs26 : n1.cell? ⟨b1, 1, none⟩ = some (.slice g4 a9.length g5) := (blk_cell a3.out 1).trans rfl
       have hfs26 := blk_frozen a3.out 1
       have hns26_0 := a6.out
       have hms26_0 := b2.out
       have hs28 : n1.cell? ⟨b1, 2, none⟩ = some (.slice f4 a7.length f5) := (blk_cell a3.out 2).trans rfl
       have hfs28 := blk_frozen a3.out 2
       have hns28_0 := a6.out
       have hms28_0 := b2.out
       refine skip_ (w1 := ?_) (by rfl) rfl ?_ ?_
       rotate_left
       ·
        go_simp
        rfl
       refine hK.out _ _ ?_
       clear hK K
       refine done_ (done_of HT_.out (by kernel_rfl)) ?_
       try go_wp2
       go_roundg k1
       case measure => have := HK1.out; omega
       case rel => exact ⟨(wrap64 (a2 + 1)), (f8), (f9), (j1), (.slice k3 f9.length k4), (.slice n2 j1.length n3), (by first | rfl | simp [*]), H', ⟨by have := HK1.out; omega⟩, ⟨sV g8.out⟩, ⟨sV g9.out⟩, ⟨by (with_reducible repeat (first | refine blk_drewN ?_ _ | refine blk_drew ?_ | refine blk_alloc ?_ _)); refine blk_far ?_ a6.out _; (with_reducible repeat (first | refine blk_drewN ?_ _ | refine blk_drew ?_ | refine blk_alloc ?_ _)); refine blk_far ?_ a6.out _; (with_reducible repeat (first | refine blk_drewN ?_ _ | refine blk_drew ?_ | refine blk_alloc ?_ _)); refine blk_far ?_ a6.out _; (with_reducible repeat (first | refine blk_drewN ?_ _ | refine blk_drew ?_ | refine blk_alloc ?_ _)); exact b0.out⟩, ⟨by (with_reducible repeat (first | refine blk_drewN ?_ _ | refine blk_drew ?_ | refine blk_alloc ?_ _)); refine blk_put (cs := #[.bool f8, .slice k3 f9.length k4, .slice f4 a7.length f5]) ?_ 2 _ rfl; (with_reducible repeat (first | refine blk_drewN ?_ _ | refine blk_drew ?_ | refine blk_alloc ?_ _)); refine blk_put (cs := #[.bool f8, .slice g4 a9.length g5, .slice f4 a7.length f5]) ?_ 1 _ rfl; (with_reducible repeat (first | refine blk_drewN ?_ _ | refine blk_drew ?_ | refine blk_alloc ?_ _)); refine blk_put (cs := #[.bool a8, .slice g4 a9.length g5, .slice f4 a7.length f5]) ?_ 0 _ rfl; (with_reducible repeat (first | refine blk_drewN ?_ _ | refine blk_drew ?_ | refine blk_alloc ?_ _)); exact a3.out⟩, ⟨aB⟩⟩
      ·
       rw [if_neg k9] at H
       exact absurd H (by simp)
     ·
      rw [if_neg k8] at H
      exact absurd H (by simp)
    ·
     rw [if_neg k7] at H
     exact absurd H (by simp)
   ·
    rw [if_neg j6] at H
    have j7 : decide (a2 < (l0.length : Int)) = false := decide_eq_false j6
    clear j6
    simp only [Option.some.injEq, Prod.mk.injEq] at H
    obtain ⟨rfl, rfl, rfl⟩ := H
    have p0 := b2.out
    have p1 := a6.out
    have l2 := cZ a3 0
    have l3 := cZ a3 1
    have l4 := cZ a3 2
    have l5 := blk_frozen a3.out 0
    have l6 := blk_frozen a3.out 1
    have l7 := blk_frozen a3.out 2
    have l8 := cZ b0 0
    have l9 := cZ b0 1
    have m0 := cZ b0 2
    have m1 := blk_frozen b0.out 0
    have m2 := blk_frozen b0.out 1
    have m3 := blk_frozen b0.out 2
    obtain ⟨n4, n5, n6⟩ := Kd.V_slice a4.out
    subst n6
    obtain ⟨n7, n8, n9⟩ := Kd.V_slice a5.out
    subst n9
    go_wp2
    refine bodyPost_ret (results_cell_row rfl _ _ b3 61 #[.bool a8, .slice n4 a9.length n5, .slice n7 a7.length n8] (0, 0) _ rfl sB Tryz.underlying61 rfl (by kernel_rfl)) rfl ?_
    exact ⟨_, _, by first | rfl | (simp [*] <;> rfl), sV a4.out, sV a5.out, aB⟩
def checker_fraction_sign.f (a0_0 : Bool) (a1 : List Int) (a3 : List Int) : Option (Int) := if a0_0 = true then (some (-1)) else (if (a1.length : Int) = 0 then (some 0) else (some 1))
set_option maxHeartbeats 8000000 in
set_option maxRecDepth 100000 in
theorem checker_fraction_sign.calls (a0_0 : Bool) (a4 : Option Addr) (a5 : Nat) (a1 : List Int) (a6 : Option Addr) (a7 : Nat) (a3 : List Int) (r : Int) (w : World) (a8 : Kd.C (Kd.int .u32) w a4 a1.length a1) (a9 : a1.length ≤ a5) (b0 : Kd.C (Kd.int .u32) w a6 a3.length a3) (b1 : a3.length ≤ a7) (h : checker_fraction_sign.f a0_0 a1 a3 = some r) :
  Calls Tryz.prog 24 #[.agg #[.bool a0_0, .slice a4 a1.length a5, .slice a6 a3.length a7]] w fun e w' => e = .returned (.int .i64 r) ∧ Below w.heap.size w w' := by
 have hu61 := Tryz.underlying61
 have d9 := mk0 a8
 have e1 := mk0 a9
 clear a8 a9
 have e2 := mk0 b0
 have e3 := mk0 b1
 clear b0 b1
 have HB := mk0 (Below.refl w.heap.size w)
 have H : (if a0_0 = true then (some (-1)) else (if (a1.length : Int) = 0 then (some 0) else (some 1))) = some r := h
 clear h
 by_cases c2 : a0_0 = true
 ·
  subst c2
  have H1 : (some (-1)) = some r := by rw [if_pos rfl] at H; exact H
  clear H
  have H := H1
  clear H1
  obtain rfl := Option.some.inj H
  go_enter Tryz.func24, Tryz.ntmps24
  go_wp2_with (first | (refine gd 1 ?_; refine box_event ?hg (N := 1) ?hd (cs := #[.bool true, .slice a4 a1.length a5, .slice a6 a3.length a7]) (t := 61) ?hr ?_; (case hd => rfl); (case hg => rfl); (case hr => exact aH); intro a2 hg w3 hbox hb; have a0 := mk0 (hbox);have b2 := uG hg;have b3 := uG hg;replace HB := uW hb; clear hb hbox hg; have b4 := cZ a0 0; have b5 : w3.cell? ⟨a2, 1, none⟩ = some (.slice a4 a1.length a5) := (blk_cell a0.out 1).trans rfl; have b6 : w3.cell? ⟨a2, 2, none⟩ = some (.slice a6 a3.length a7) := (blk_cell a0.out 2).trans rfl; have b7 := blk_frozen a0.out 0; have b8 := blk_frozen a0.out 1; have b9 := blk_frozen a0.out 2))
  go_ret
  exact ⟨by first | rfl | (simp [*] <;> rfl), aB⟩
 ·
  replace c2 := Bool.eq_false_iff.mpr c2
  subst c2
  have H1 : (if (a1.length : Int) = 0 then (some 0) else (some 1)) = some r := by rw [if_neg (show ¬ (false = true) by decide)] at H; exact H
  clear H
  have H := H1
  clear H1
  by_cases c5 : (a1.length : Int) = 0
  ·
   rw [if_pos c5] at H
   have c4 : ((a1.length : Int) == 0) = true := beq_iff_eq.mpr c5
   have c6 : ((a1.length : Int) != 0) = false := bne_eq_false_iff_eq.mpr c5
   clear c5
   obtain rfl := Option.some.inj H
   go_enter Tryz.func24, Tryz.ntmps24
   go_wp2_with (first | (refine gd 1 ?_; refine box_event ?hg (N := 1) ?hd (cs := #[.bool false, .slice a4 a1.length a5, .slice a6 a3.length a7]) (t := 61) ?hr ?_; (case hd => rfl); (case hg => rfl); (case hr => exact aH); intro a2 hg w6 hbox hb; have a0 := mk0 (hbox);have b2 := uG hg;have b3 := uG hg;replace HB := uW hb; clear hb hbox hg; have c7 : w6.cell? ⟨a2, 0, none⟩ = some (.bool false) := (blk_cell a0.out 0).trans rfl; have c8 : w6.cell? ⟨a2, 1, none⟩ = some (.slice a4 a1.length a5) := (blk_cell a0.out 1).trans rfl; have c9 : w6.cell? ⟨a2, 2, none⟩ = some (.slice a6 a3.length a7) := (blk_cell a0.out 2).trans rfl; have d0 := blk_frozen a0.out 0; have d1 := blk_frozen a0.out 1; have d2 := blk_frozen a0.out 2))
   go_ret
   exact ⟨by first | rfl | (simp [*] <;> rfl), aB⟩
  ·
   rw [if_neg c5] at H
   have c4 : ((a1.length : Int) == 0) = false := beq_eq_false_iff_ne.mpr c5
   have c6 : ((a1.length : Int) != 0) = true := bne_iff_ne.mpr c5
   have e4 : ¬ (a1 = []) := fun h_ => c5 (by rw [h_]; rfl)
   obtain rfl := Option.some.inj H
   go_enter Tryz.func24, Tryz.ntmps24
   go_wp2_with (first | (refine gd 1 ?_; refine box_event ?hg (N := 1) ?hd (cs := #[.bool false, .slice a4 a1.length a5, .slice a6 a3.length a7]) (t := 61) ?hr ?_; (case hd => rfl); (case hg => rfl); (case hr => exact aH); intro a2 hg w8 hbox hb; have a0 := mk0 (hbox);have b2 := uG hg;have b3 := uG hg;replace HB := uW hb; clear hb hbox hg; have d3 : w8.cell? ⟨a2, 0, none⟩ = some (.bool false) := (blk_cell a0.out 0).trans rfl; have d4 : w8.cell? ⟨a2, 1, none⟩ = some (.slice a4 a1.length a5) := (blk_cell a0.out 1).trans rfl; have d5 : w8.cell? ⟨a2, 2, none⟩ = some (.slice a6 a3.length a7) := (blk_cell a0.out 2).trans rfl; have d6 := blk_frozen a0.out 0; have d7 := blk_frozen a0.out 1; have d8 := blk_frozen a0.out 2))
   go_ret
   exact ⟨by first | rfl | (simp [*] <;> rfl), aB⟩
def checker_fraction_neg.f (a0_0 : Bool) (a1 : List Int) (a3 : List Int) : Option (Bool × List Int × List Int) := if a0_0 = true then (some (false, a1, a3)) else (some (decide (0 < a1.length), a1, a3))
set_option maxHeartbeats 8000000 in
set_option maxRecDepth 100000 in
theorem checker_fraction_neg.calls (a0_0 : Bool) (b4 : Nat → Prop) (b0 : Option Addr) (b1 : Nat) (a1 : List Int) (b5 : Nat → Prop) (b2 : Option Addr) (b3 : Nat) (a3 : List Int) (r1 : Bool) (r2 : List Int) (r3 : List Int) (w : World) (b6 : Kd.V (Kd.int .u32) 107 w w.heap.size (fun k_ => b4 k_) (.slice b0 a1.length b1) a1) (b7 : Kd.V (Kd.int .u32) 107 w w.heap.size (fun k_ => b5 k_) (.slice b2 a3.length b3) a3) (h : checker_fraction_neg.f a0_0 a1 a3 = some (r1, r2, r3)) :
  Calls Tryz.prog 70 #[.agg #[.bool a0_0, .slice b0 a1.length b1, .slice b2 a3.length b3]] w fun e w' => ∃ v1_ v2_ : Value, e = .returned (.agg #[.bool r1, v1_, v2_]) ∧ Kd.V (Kd.int .u32) 107 w' w.heap.size (fun k_ => ((b4 k_ ∨ b5 k_) ∨ w.heap.size ≤ k_)) v1_ r2 ∧ Kd.V (Kd.int .u32) 107 w' w.heap.size (fun k_ => ((b4 k_ ∨ b5 k_) ∨ w.heap.size ≤ k_)) v2_ r3 ∧ Below w.heap.size w w' := by
 have hu61 := Tryz.underlying61
 have a4 := mk0 (show Kd.V (Kd.int .u32) 107 w w.heap.size (fun k_ => ((b4 k_ ∨ b5 k_) ∨ w.heap.size ≤ k_)) (.slice b0 a1.length b1) a1 from Kd.V_mono b6 (fun k_ hk => .inl (.inl hk)))
 have a5 := mk0 (show Kd.V (Kd.int .u32) 107 w w.heap.size (fun k_ => ((b4 k_ ∨ b5 k_) ∨ w.heap.size ≤ k_)) (.slice b2 a3.length b3) a3 from Kd.V_mono b7 (fun k_ hk => .inl (.inr hk)))
 have HB := mk0 (Below.refl w.heap.size w)
 have H : (if a0_0 = true then (some (false, a1, a3)) else (some (decide (0 < a1.length), a1, a3))) = some (r1, r2, r3) := h
 clear h
 by_cases c2 : a0_0 = true
 ·
  subst c2
  have H1 : (some (false, a1, a3)) = some (r1, r2, r3) := by rw [if_pos rfl] at H; exact H
  clear H
  have H := H1
  clear H1
  simp only [Option.some.injEq, Prod.mk.injEq] at H
  obtain ⟨rfl, rfl, rfl⟩ := H
  go_enter Tryz.func70, Tryz.ntmps70
  go_wp2_with (first | (refine gd 1 ?_; (try (refine gate_guard (by rfl) ?_; dsimp only)); refine box_event ?hg (N := 1) ?hd (cs := #[.bool true, .slice b0 a1.length b1, .slice b2 a3.length b3]) (t := 61) ?hr ?_; (case hd => rfl); (case hg => rfl); (case hr => exact aH); intro a9 hg w3 hbox hb; replace a4 := eV a4 hg hb;replace a5 := eV a5 hg hb;have a0 := mk0 (hbox);have b8 := uG hg;have b9 := uG hg;replace HB := uW hb; clear hb hbox hg) | (refine gd 2 ?_; (try (refine gate_guard (by rfl) ?_; dsimp only)); refine box_event ?hg (N := 2) ?hd (cs := #[.bool false, .slice none 0 0, .slice none 0 0]) (t := 61) ?hr ?_; (case hd => rfl); (case hg => rfl); (case hr => exact aH); intro a6 hg w4 hbox hb; replace a4 := eV a4 hg hb;replace a5 := eV a5 hg hb;have a2 := mk0 (hbox);have c4 := uG hg;have c5 := uG hg;replace HB := uW hb;have a7 := uL a0 hg;have a8 := uM a0 hg;replace a0 := uB a0 hb; clear hb hbox hg; have f3 := a7.out; have f4 := a8.out; have d8 := cZ a0 0; have d9 : w4.cell? ⟨a9, 1, none⟩ = some (.slice b0 a1.length b1) := (blk_cell a0.out 1).trans rfl; have e1 : w4.cell? ⟨a9, 2, none⟩ = some (.slice b2 a3.length b3) := (blk_cell a0.out 2).trans rfl; have e2 := blk_frozen a0.out 0; have e3 := blk_frozen a0.out 1; have e4 := blk_frozen a0.out 2; have e5 : w4.cell? ⟨a6, 0, none⟩ = some (.bool false) := (blk_cell a2.out 0).trans rfl; have e6 : w4.cell? ⟨a6, 1, none⟩ = some (.slice none 0 0) := (blk_cell a2.out 1).trans rfl; have e7 : w4.cell? ⟨a6, 2, none⟩ = some (.slice none 0 0) := (blk_cell a2.out 2).trans rfl; have e8 := blk_frozen a2.out 0; have e9 := blk_frozen a2.out 1; have f0 := blk_frozen a2.out 2))
  refine bodyPost_ret (results_cell_row rfl _ _ a6 61 #[.bool false, .slice b0 a1.length b1, .slice b2 a3.length b3] (0, 0) _ rfl sB Tryz.underlying61 rfl (by kernel_rfl)) rfl ?_
  exact ⟨_, _, by first | rfl | (simp [*] <;> rfl), sV a4.out, sV a5.out, aB⟩
 ·
  replace c2 := Bool.eq_false_iff.mpr c2
  subst c2
  have H1 : (some (decide (0 < a1.length), a1, a3)) = some (r1, r2, r3) := by rw [if_neg (show ¬ (false = true) by decide)] at H; exact H
  clear H
  have H := H1
  clear H1
  simp only [Option.some.injEq, Prod.mk.injEq] at H
  obtain ⟨rfl, rfl, rfl⟩ := H
  go_enter Tryz.func70, Tryz.ntmps70
  go_wp2_with (first | (refine gd 1 ?_; (try (refine gate_guard (by rfl) ?_; dsimp only)); refine box_event ?hg (N := 1) ?hd (cs := #[.bool false, .slice b0 a1.length b1, .slice b2 a3.length b3]) (t := 61) ?hr ?_; (case hd => rfl); (case hg => rfl); (case hr => exact aH); intro a9 hg w8 hbox hb; replace a4 := eV a4 hg hb;replace a5 := eV a5 hg hb;have a0 := mk0 (hbox);have b8 := uG hg;have b9 := uG hg;replace HB := uW hb; clear hb hbox hg) | (refine gd 2 ?_; (try (refine gate_guard (by rfl) ?_; dsimp only)); refine box_event ?hg (N := 2) ?hd (cs := #[.bool false, .slice none 0 0, .slice none 0 0]) (t := 61) ?hr ?_; (case hd => rfl); (case hg => rfl); (case hr => exact aH); intro a6 hg w9 hbox hb; replace a4 := eV a4 hg hb;replace a5 := eV a5 hg hb;have a2 := mk0 (hbox);have c4 := uG hg;have c5 := uG hg;replace HB := uW hb;have a7 := uL a0 hg;have a8 := uM a0 hg;replace a0 := uB a0 hb; clear hb hbox hg; have f1 := a7.out; have f2 := a8.out; have c6 : w9.cell? ⟨a9, 0, none⟩ = some (.bool false) := (blk_cell a0.out 0).trans rfl; have c7 : w9.cell? ⟨a9, 1, none⟩ = some (.slice b0 a1.length b1) := (blk_cell a0.out 1).trans rfl; have c8 : w9.cell? ⟨a9, 2, none⟩ = some (.slice b2 a3.length b3) := (blk_cell a0.out 2).trans rfl; have c9 := blk_frozen a0.out 0; have d0 := blk_frozen a0.out 1; have d1 := blk_frozen a0.out 2; have d2 : w9.cell? ⟨a6, 0, none⟩ = some (.bool false) := (blk_cell a2.out 0).trans rfl; have d3 : w9.cell? ⟨a6, 1, none⟩ = some (.slice none 0 0) := (blk_cell a2.out 1).trans rfl; have d4 : w9.cell? ⟨a6, 2, none⟩ = some (.slice none 0 0) := (blk_cell a2.out 2).trans rfl; have d5 := blk_frozen a2.out 0; have d6 := blk_frozen a2.out 1; have d7 := blk_frozen a2.out 2))
  refine bodyPost_ret (results_cell_row rfl _ _ a6 61 #[.bool (decide (0 < a1.length)), .slice b0 a1.length b1, .slice b2 a3.length b3] (0, 0) _ rfl sB Tryz.underlying61 rfl (by kernel_rfl)) rfl ?_
  exact ⟨_, _, by first | rfl | (simp [*] <;> rfl), sV a4.out, sV a5.out, aB⟩
def checker_fraction_sub.f (k : Nat) (a0_0 : Bool) (c7 : List Int) (c8 : List Int) (a1_0 : Bool) (b9 : List Int) (c4 : List Int) : Option (Bool × List Int × List Int) := (checker_fraction_neg.f a1_0 b9 c4).bind fun c9 => ((checker_fraction_add.f k a0_0 c7 c8 c9.1 c9.2.1 c9.2.2).bind fun d0 => (some (d0.1, d0.2.1, d0.2.2)))
theorem checker_fraction_sub.mono : ∀ a0 a1 a2 a3 a4 a5 k, LeO (checker_fraction_sub.f k a0 a1 a2 a3 a4 a5) (checker_fraction_sub.f (k + 1) a0 a1 a2 a3 a4 a5) := by
 intro a0 a1 a2 a3 a4 a5 k
 unfold checker_fraction_sub.f
 repeat' first | (with_reducible first | exact checker_fraction_add.mono .. | exact LeO.refl _ | exact LeO.none _ | refine LeO.ite ?_ ?_ | refine LeO.bind ?_ (fun _ => ?_))
set_option maxHeartbeats 8000000 in
set_option maxRecDepth 100000 in
theorem checker_fraction_sub.calls (k : Nat) (a0_0 : Bool) (d7 : Option Addr) (d8 : Nat) (c7 : List Int) (d9 : Option Addr) (e1 : Nat) (c8 : List Int) (a1_0 : Bool) (b4 : Nat → Prop) (d3 : Option Addr) (d4 : Nat) (b9 : List Int) (b5 : Nat → Prop) (d5 : Option Addr) (d6 : Nat) (c4 : List Int) (r1 : Bool) (r2 : List Int) (r3 : List Int) (w : World) (e2 : Kd.C (Kd.int .u32) w d7 c7.length c7) (e3 : c7.length ≤ d8) (e4 : Kd.C (Kd.int .u32) w d9 c8.length c8) (e5 : c8.length ≤ e1) (f3 : Kd.V (Kd.int .u32) 107 w w.heap.size (fun k_ => b4 k_) (.slice d3 b9.length d4) b9) (f4 : Kd.V (Kd.int .u32) 107 w w.heap.size (fun k_ => b5 k_) (.slice d5 c4.length d6) c4) (h : checker_fraction_sub.f k a0_0 c7 c8 a1_0 b9 c4 = some (r1, r2, r3)) :
  Calls Tryz.prog 42 #[.agg #[.bool a0_0, .slice d7 c7.length d8, .slice d9 c8.length e1], .agg #[.bool a1_0, .slice d3 b9.length d4, .slice d5 c4.length d6]] w fun e w' => ∃ v1_ v2_ : Value, e = .returned (.agg #[.bool r1, v1_, v2_]) ∧ Kd.V (Kd.int .u32) 107 w' w.heap.size (fun k_ => ((b4 k_ ∨ b5 k_) ∨ w.heap.size ≤ k_)) v1_ r2 ∧ Kd.V (Kd.int .u32) 107 w' w.heap.size (fun k_ => ((b4 k_ ∨ b5 k_) ∨ w.heap.size ≤ k_)) v2_ r3 ∧ Below w.heap.size w w' := by
 have hu61 := Tryz.underlying61
 have f5 := mk0 e2
 have f6 := mk0 e3
 clear e2 e3
 have f7 := mk0 e4
 have f8 := mk0 e5
 clear e4 e5
 have b0 := mk0 (show Kd.V (Kd.int .u32) 107 w w.heap.size (fun k_ => ((b4 k_ ∨ b5 k_) ∨ w.heap.size ≤ k_)) (.slice d3 b9.length d4) b9 from Kd.V_mono f3 (fun k_ hk => .inl (.inl hk)))
 have b1 := mk0 (show Kd.V (Kd.int .u32) 107 w w.heap.size (fun k_ => ((b4 k_ ∨ b5 k_) ∨ w.heap.size ≤ k_)) (.slice d5 c4.length d6) c4 from Kd.V_mono f4 (fun k_ hk => .inl (.inr hk)))
 have HB := mk0 (Below.refl w.heap.size w)
 have H : ((checker_fraction_neg.f a1_0 b9 c4).bind fun c9 => ((checker_fraction_add.f k a0_0 c7 c8 c9.1 c9.2.1 c9.2.2).bind fun d0 => (some (d0.1, d0.2.1, d0.2.2)))) = some (r1, r2, r3) := h
 clear h
 obtain ⟨⟨e8, e9, f0⟩, A3, H⟩ := bS H
 (try dsimp only at H)
 obtain ⟨⟨f9, g0, g1⟩, A4, H⟩ := bS H
 (try dsimp only at H)
 simp only [Option.some.injEq, Prod.mk.injEq] at H
 obtain ⟨rfl, rfl, rfl⟩ := H
 go_enter Tryz.func42, Tryz.ntmps42
 try go_wp2_with (first | (refine gd 2 ?_; refine box_event ?hg (N := 2) ?hd (cs := #[.bool a0_0, .slice d7 c7.length d8, .slice d9 c8.length e1]) (t := 61) ?hr ?_; (case hd => rfl); (case hg => rfl); (case hr => exact aH); intro b7 hg w5 hbox hb; replace b0 := eV b0 hg hb;replace b1 := eV b1 hg hb;have a9 := mk0 (hbox);have i8 := uG hg;have i9 := uG hg;replace HB := uW hb; clear hb hbox hg) | (refine gd 3 ?_; refine box_event ?hg (N := 3) ?hd (cs := #[.bool a1_0, .slice d3 b9.length d4, .slice d5 c4.length d6]) (t := 61) ?hr ?_; (case hd => rfl); (case hg => rfl); (case hr => exact aH); intro b8 hg w6 hbox hb; replace b0 := eV b0 hg hb;replace b1 := eV b1 hg hb;have b6 := mk0 (hbox);have j0 := uG hg;have j1 := uG hg;replace HB := uW hb;have f1 := uL a9 hg;have f2 := uM a9 hg;replace a9 := uB a9 hb; clear hb hbox hg) | (refine gd 4 ?_; refine box_event ?hg (N := 4) ?hd (cs := #[.bool false, .slice none 0 0, .slice none 0 0]) (t := 61) ?hr ?_; (case hd => rfl); (case hg => rfl); (case hr => exact aH); intro a8 hg w7 hbox hb; replace b0 := eV b0 hg hb;replace b1 := eV b1 hg hb;have b2 := mk0 (hbox);have j2 := uG hg;have j3 := uG hg;replace HB := uW hb;have a6 := uL a9 hg;have c5 := uM a9 hg;replace a9 := uB a9 hb;have a7 := uL b6 hg;have c6 := uM b6 hg;replace b6 := uB b6 hb; clear hb hbox hg))
 replace b0 := mk0 (Kd.V_drew b0.out)
 replace b1 := mk0 (Kd.V_drew b1.out)
 replace a9 := mk0 (blk_drew a9.out)
 replace b6 := mk0 (blk_drew b6.out)
 replace b2 := mk0 (blk_drew b2.out)
 replace HB := mk0 (below_drew1 HB.out)
 refine start_ (n := 5) (S := fun w' => w'.cell? ⟨b7, 0, none⟩ = some (.bool a0_0) ∧ w'.cell? ⟨b7, 1, none⟩ = some (.slice d7 c7.length d8) ∧ w'.cell? ⟨b7, 2, none⟩ = some (.slice d9 c8.length e1) ∧ w'.cell? ⟨b8, 0, none⟩ = some (.bool a1_0) ∧ w'.cell? ⟨b8, 1, none⟩ = some (.slice d3 b9.length d4) ∧ w'.cell? ⟨b8, 2, none⟩ = some (.slice d5 c4.length d6)) (ds := []) #[false, false, false, false, false] (by kernel_rfl) rfl rfl cS (fun b3 => ?_)
 generalize w7.drew = w8 at b0 b1 a9 b6 b2 HB b3 ⊢
 refine take_ (i := 0) (N := some 5) (v := ?_) (a' := ?_) #[true, false, false, false, false] rfl rfl (by kernel_rfl) (fun _ _ _ h => h) (Or.inl ⟨by rfl, ?_⟩) b3 ?_ ?_
 rotate_left
 ·
  rintro w' ⟨s0, s1, s2, s3, s4, s5⟩
  go_simp
  with_reducible rfl
 rotate_left
 ·
  exact aP
 refine take_ (i := 1) (N := some 6) (v := ?_) (a' := ?_) #[true, true, false, false, false] rfl rfl (by kernel_rfl) (fun _ _ _ h => h) (Or.inl ⟨by rfl, ?_⟩) b3 ?_ ?_
 rotate_left
 ·
  rintro w' ⟨s0, s1, s2, s3, s4, s5⟩
  go_simp
  with_reducible rfl
 rotate_left
 ·
  exact aP
 refine one_ (i := 2) (N := some 7) #[true, true, true, false, false] rfl rfl (by kernel_rfl) (by decide) (fun K hK => ?_)
 refine gz Tryz.func70 #[.agg #[.bool a1_0, .slice d3 b9.length d4, .slice d5 c4.length d6]] ?_
 with_reducible refine (checker_fraction_neg.calls a1_0 (fun k_ => (((((b4 k_ ∨ b5 k_) ∨ w.heap.size ≤ k_) ∧ k_ ≠ b7) ∧ k_ ≠ b8) ∧ k_ ≠ a8)) _ _ b9 (fun k_ => (((((b4 k_ ∨ b5 k_) ∨ w.heap.size ≤ k_) ∧ k_ ≠ b7) ∧ k_ ≠ b8) ∧ k_ ≠ a8)) _ _ c4 e8 e9 f0 _ ?side1 ?side2 A3.out).mono ?_
 (case side1 => exact Kd.V_mono (Go.Proofs.YtbgmfgndldnmcaaGreatDoorMyWords.V_base (b0.out)) (fun k_ hk => by first | exact hk | (simp only [hk, ne_eq, not_false_eq_true, and_self]; done)))
 (case side2 => exact Kd.V_mono (Go.Proofs.YtbgmfgndldnmcaaGreatDoorMyWords.V_base (b1.out)) (fun k_ hk => by first | exact hk | (simp only [hk, ne_eq, not_false_eq_true, and_self]; done)))
 rintro e w9 ⟨j4, j5, rfl, g2, g3, hb⟩
 refine ⟨_, rfl, ?_⟩
 replace b0 := uV b0 hb
 replace b1 := uV b1 hb
 have d1 := lV (ok' := fun k_ => ((b4 k_ ∨ b5 k_) ∨ w.heap.size ≤ k_) ∧ k_ ≠ b7 ∧ k_ ≠ b8 ∧ k_ ≠ a8) g2
 have d2 := lV (ok' := fun k_ => ((b4 k_ ∨ b5 k_) ∨ w.heap.size ≤ k_) ∧ k_ ≠ b7 ∧ k_ ≠ b8 ∧ k_ ≠ a8) g3
 replace a9 := uB a9 hb
 replace b6 := uB b6 hb
 replace b2 := uB b2 hb
 replace HB := uW hb
 (try clear hb)
 (try clear hb2)
 (try clear hk)
 (try clear hi)
 (try clear g2)
 (try clear g3)
 obtain ⟨g8, g9, g4⟩ := Kd.V_slice d1.out
 (first | subst g4 | (injection g4 with f1_ f2_ f3_; have f4_ := f1_.symm; have f5_ := f3_.symm; clear f1_ f2_ f3_; subst f4_; subst f5_))
 obtain ⟨i1, i2, g5⟩ := Kd.V_slice d2.out
 (first | subst g5 | (injection g5 with f1_ f2_ f3_; have f4_ := f1_.symm; have f5_ := f3_.symm; clear f1_ f2_ f3_; subst f4_; subst f5_))
 refine hK.out _ _ cS (fun b3 => ?_)
 clear hK K
 refine norm_ (a' := ?_) ?_ ?_
 rotate_left
 ·
  show Act.put _ (some 7) _ = _
  exact aP
 refine one_ (i := 3) (N := some 8) #[true, true, true, true, false] rfl rfl (by kernel_rfl) (by decide) (fun K hK => ?_)
 refine gz Tryz.func23 #[.agg #[.bool a0_0, .slice d7 c7.length d8, .slice d9 c8.length e1], .agg #[.bool e8, .slice g8 e9.length g9, .slice i1 f0.length i2]] ?_
 with_reducible refine (checker_fraction_add.calls k a0_0 _ _ c7 _ _ c8 e8 _ _ e9 _ _ f0 f9 g0 g1 _ ?side1 ?side2 ?side3 ?side4 ?side5 ?side6 ?side7 ?side8 A4.out).mono ?_
 (case side1 => exact pC (Kd.C_below f5.out HB.out))
 (case side2 => exact f6.out)
 (case side3 => exact pC (Kd.C_below f7.out HB.out))
 (case side4 => exact f8.out)
 (case side5 => exact pC ((Kd.V_reads' d1.out).2.2))
 (case side6 => exact (Kd.V_reads' d1.out).2.1)
 (case side7 => exact pC ((Kd.V_reads' d2.out).2.2))
 (case side8 => exact (Kd.V_reads' d2.out).2.1)
 rintro e i3 ⟨j6, j7, rfl, g2, g3, hb⟩
 refine ⟨_, rfl, ?_⟩
 replace b0 := uV b0 hb
 replace b1 := uV b1 hb
 replace d1 := uV d1 hb
 replace d2 := uV d2 hb
 have e6 := lV (ok' := fun k_ => ((b4 k_ ∨ b5 k_) ∨ w.heap.size ≤ k_) ∧ k_ ≠ b7 ∧ k_ ≠ b8 ∧ k_ ≠ a8) g2
 have e7 := lV (ok' := fun k_ => ((b4 k_ ∨ b5 k_) ∨ w.heap.size ≤ k_) ∧ k_ ≠ b7 ∧ k_ ≠ b8 ∧ k_ ≠ a8) g3
 replace a9 := uB a9 hb
 replace b6 := uB b6 hb
 replace b2 := uB b2 hb
 replace HB := uW hb
 (try clear hb)
 (try clear hb2)
 (try clear hk)
 (try clear hi)
 (try clear g2)
 (try clear g3)
 obtain ⟨i4, i5, g6⟩ := Kd.V_slice e6.out
 (first | subst g6 | (injection g6 with f1_ f2_ f3_; have f4_ := f1_.symm; have f5_ := f3_.symm; clear f1_ f2_ f3_; subst f4_; subst f5_))
 obtain ⟨i6, i7, g7⟩ := Kd.V_slice e7.out
 (first | subst g7 | (injection g7 with f1_ f2_ f3_; have f4_ := f1_.symm; have f5_ := f3_.symm; clear f1_ f2_ f3_; subst f4_; subst f5_))
 refine hK.out _ _ cS (fun b3 => ?_)
 clear hK K
 refine norm_ (a' := ?_) ?_ ?_
 rotate_left
 ·
  show Act.put _ (some 8) _ = _
  exact aP
 refine one_ (i := 4) (N := none) #[true, true, true, true, true] rfl rfl (by kernel_rfl) (by decide) (fun K hK => ?_)
 have hs13 : i3.cell? ⟨a8, 0, none⟩ = some (.bool false) := (blk_cell b2.out 0).trans rfl
 have hfs13 := blk_frozen b2.out 0
 have hns13_0 := a6.out
 have hns13_1 := a7.out
 have hms13_0 := c5.out
 have hms13_1 := c6.out
 have hs15 : i3.cell? ⟨a8, 1, none⟩ = some (.slice none 0 0) := (blk_cell b2.out 1).trans rfl
 have hfs15 := blk_frozen b2.out 1
 have hns15_0 := a6.out
 have hns15_1 := a7.out
 have hms15_0 := c5.out
 have hms15_1 := c6.out
 have hs17 : i3.cell? ⟨a8, 2, none⟩ = some (.slice none 0 0) := (blk_cell b2.out 2).trans rfl
 have hfs17 := blk_frozen b2.out 2
 have hns17_0 := a6.out
 have hns17_1 := a7.out
 have hms17_0 := c5.out
 have hms17_1 := c6.out
 refine skip_ (w1 := ?_) (by rfl) rfl ?_ ?_
 rotate_left
 ·
  go_simp
  rfl
 refine hK.out _ _ ⟨((cell_far (p := ⟨a8, _, none⟩) a6.out _).trans (((cell_far (p := ⟨a8, _, none⟩) a6.out _).trans (((cell_far (p := ⟨a8, _, none⟩) a6.out _).trans (b3.1)))))), ((cell_far (p := ⟨a8, _, none⟩) a6.out _).trans (((cell_far (p := ⟨a8, _, none⟩) a6.out _).trans (((cell_far (p := ⟨a8, _, none⟩) a6.out _).trans (b3.2.1)))))), ((cell_far (p := ⟨a8, _, none⟩) a6.out _).trans (((cell_far (p := ⟨a8, _, none⟩) a6.out _).trans (((cell_far (p := ⟨a8, _, none⟩) a6.out _).trans (b3.2.2.1)))))), ((cell_far (p := ⟨a8, _, none⟩) a7.out _).trans (((cell_far (p := ⟨a8, _, none⟩) a7.out _).trans (((cell_far (p := ⟨a8, _, none⟩) a7.out _).trans (b3.2.2.2.1)))))), ((cell_far (p := ⟨a8, _, none⟩) a7.out _).trans (((cell_far (p := ⟨a8, _, none⟩) a7.out _).trans (((cell_far (p := ⟨a8, _, none⟩) a7.out _).trans (b3.2.2.2.2.1)))))), ((cell_far (p := ⟨a8, _, none⟩) a7.out _).trans (((cell_far (p := ⟨a8, _, none⟩) a7.out _).trans (((cell_far (p := ⟨a8, _, none⟩) a7.out _).trans (b3.2.2.2.2.2))))))⟩ (fun b3 => ?_)
 clear hK K
 refine done_ (by kernel_rfl) ?_
 try go_wp2
 refine bodyPost_ret (results_cell_row rfl _ _ a8 61 #[.bool f9, .slice i4 g0.length i5, .slice i6 g1.length i7] (0, 0) _ rfl sB Tryz.underlying61 rfl (by kernel_rfl)) rfl ?_
 exact ⟨_, _, by first | rfl | (simp [*] <;> rfl), sV e6.out, sV e7.out, aB⟩
def checker_fraction_compare.f (k : Nat) (a0_0 : Bool) (a8 : List Int) (a9 : List Int) (a1_0 : Bool) (b0 : List Int) (b1 : List Int) : Option (Int) := (checker_fraction_sub.f k a0_0 a8 a9 a1_0 b0 b1).bind fun b2 => ((checker_fraction_sign.f b2.1 b2.2.1 b2.2.2).bind fun b9 => (some b9))
theorem checker_fraction_compare.mono : ∀ a0 a1 a2 a3 a4 a5 k, LeO (checker_fraction_compare.f k a0 a1 a2 a3 a4 a5) (checker_fraction_compare.f (k + 1) a0 a1 a2 a3 a4 a5) := by
 intro a0 a1 a2 a3 a4 a5 k
 unfold checker_fraction_compare.f
 repeat' first | (with_reducible first | exact checker_fraction_sub.mono .. | exact LeO.refl _ | exact LeO.none _ | refine LeO.ite ?_ ?_ | refine LeO.bind ?_ (fun _ => ?_))
set_option maxHeartbeats 8000000 in
set_option maxRecDepth 100000 in
theorem checker_fraction_compare.calls (k : Nat) (a0_0 : Bool) (c4 : Option Addr) (c5 : Nat) (a8 : List Int) (c6 : Option Addr) (c7 : Nat) (a9 : List Int) (a1_0 : Bool) (c8 : Option Addr) (c9 : Nat) (b0 : List Int) (d0 : Option Addr) (d1 : Nat) (b1 : List Int) (r : Int) (w : World) (d2 : Kd.C (Kd.int .u32) w c4 a8.length a8) (d3 : a8.length ≤ c5) (d4 : Kd.C (Kd.int .u32) w c6 a9.length a9) (d5 : a9.length ≤ c7) (d6 : Kd.C (Kd.int .u32) w c8 b0.length b0) (d7 : b0.length ≤ c9) (d8 : Kd.C (Kd.int .u32) w d0 b1.length b1) (d9 : b1.length ≤ d1) (h : checker_fraction_compare.f k a0_0 a8 a9 a1_0 b0 b1 = some r) :
  Calls Tryz.prog 21 #[.agg #[.bool a0_0, .slice c4 a8.length c5, .slice c6 a9.length c7], .agg #[.bool a1_0, .slice c8 b0.length c9, .slice d0 b1.length d1]] w fun e w' => e = .returned (.int .i64 r) ∧ Below w.heap.size w w' := by
 have hu61 := Tryz.underlying61
 have e4 := mk0 d2
 have e5 := mk0 d3
 clear d2 d3
 have e6 := mk0 d4
 have e7 := mk0 d5
 clear d4 d5
 have e8 := mk0 d6
 have e9 := mk0 d7
 clear d6 d7
 have f0 := mk0 d8
 have f1 := mk0 d9
 clear d8 d9
 have HB := mk0 (Below.refl w.heap.size w)
 have H : ((checker_fraction_sub.f k a0_0 a8 a9 a1_0 b0 b1).bind fun b2 => ((checker_fraction_sign.f b2.1 b2.2.1 b2.2.2).bind fun b9 => (some b9))) = some r := h
 clear h
 obtain ⟨⟨e1, e2, e3⟩, A3, H⟩ := bS H
 (try dsimp only at H)
 obtain ⟨b9, A4, H⟩ := bS H
 obtain rfl := Option.some.inj H
 go_enter Tryz.func21, Tryz.ntmps21
 go_wp2_with (first | (refine gd 2 ?_; refine box_event ?hg (N := 2) ?hd (cs := #[.bool a0_0, .slice c4 a8.length c5, .slice c6 a9.length c7]) (t := 61) ?hr ?_; (case hd => rfl); (case hg => rfl); (case hr => exact aH); intro b5 hg w5 hbox hb; have a6 := mk0 (hbox);have i1 := uG hg;have i2 := uG hg;replace HB := uW hb; clear hb hbox hg) | (refine gd 3 ?_; refine box_event ?hg (N := 3) ?hd (cs := #[.bool a1_0, .slice c8 b0.length c9, .slice d0 b1.length d1]) (t := 61) ?hr ?_; (case hd => rfl); (case hg => rfl); (case hr => exact aH); intro b6 hg w6 hbox hb; have a7 := mk0 (hbox);have i3 := uG hg;have i4 := uG hg;replace HB := uW hb;have b7 := uL a6 hg;have b8 := uM a6 hg;replace a6 := uB a6 hb; clear hb hbox hg; have i7 := b7.out; have i8 := b8.out; have f2 := cZ a6 0; have f3 : w6.cell? ⟨b5, 1, none⟩ = some (.slice c4 a8.length c5) := (blk_cell a6.out 1).trans rfl; have f4 : w6.cell? ⟨b5, 2, none⟩ = some (.slice c6 a9.length c7) := (blk_cell a6.out 2).trans rfl; have f5 := blk_frozen a6.out 0; have f6 := blk_frozen a6.out 1; have f7 := blk_frozen a6.out 2; have f8 := cZ a7 0; have f9 : w6.cell? ⟨b6, 1, none⟩ = some (.slice c8 b0.length c9) := (blk_cell a7.out 1).trans rfl; have g0 : w6.cell? ⟨b6, 2, none⟩ = some (.slice d0 b1.length d1) := (blk_cell a7.out 2).trans rfl; have g1 := blk_frozen a7.out 0; have g2 := blk_frozen a7.out 1; have g3 := blk_frozen a7.out 2) | (refine gc 42 ?_; refine gl 7 Tryz.func42 #[.agg #[.bool a0_0, .slice c4 a8.length c5, .slice c6 a9.length c7], .agg #[.bool a1_0, .slice c8 b0.length c9, .slice d0 b1.length d1]] ?_; (with_reducible refine (checker_fraction_sub.calls k a0_0 _ _ a8 _ _ a9 a1_0 (fun k_ => k_ < w.heap.size) _ _ b0 (fun k_ => k_ < w.heap.size) _ _ b1 e1 e2 e3 _ ?side1 ?side2 ?side3 ?side4 ?side5 ?side6 A3.out).mono ?_); (case side1 => exact pC (Kd.C_below e4.out HB.out)); (case side2 => exact e5.out); (case side3 => exact pC (Kd.C_below e6.out HB.out)); (case side4 => exact e7.out); (case side5 => exact Kd.V_mk e9.out (Kd.F_below (Kd.C_F (Kd.heap_int .u32) e8.out) (aB))); (case side6 => exact Kd.V_mk f1.out (Kd.F_below (Kd.C_F (Kd.heap_int .u32) f0.out) (aB))); rintro e j1 ⟨i9, j0, rfl, i5, i6, hb⟩; refine ⟨_, rfl, ?_⟩; have b3 := lV (ok' := fun k_ => k_ ≠ b5 ∧ k_ ≠ b6) i5;have b4 := lV (ok' := fun k_ => k_ ≠ b5 ∧ k_ ≠ b6) i6;replace a6 := uB a6 hb;replace a7 := uB a7 hb;replace HB := uW hb; (try clear hb); (try clear i5); (try clear i6); obtain ⟨g4, g5, g6⟩ := Kd.V_slice b3.out; subst g6; obtain ⟨g7, g8, g9⟩ := Kd.V_slice b4.out; subst g9) | (refine gc 24 ?_; refine gl 8 Tryz.func24 #[.agg #[.bool e1, .slice g4 e2.length g5, .slice g7 e3.length g8]] ?_; (with_reducible refine (checker_fraction_sign.calls e1 _ _ e2 _ _ e3 b9 _ ?side1 ?side2 ?side3 ?side4 A4.out).mono ?_); (case side1 => exact pC ((Kd.V_reads' b3.out).2.2)); (case side2 => exact (Kd.V_reads' b3.out).2.1); (case side3 => exact pC ((Kd.V_reads' b4.out).2.2)); (case side4 => exact (Kd.V_reads' b4.out).2.1); rintro e j2 ⟨rfl, hb⟩; refine ⟨_, rfl, ?_⟩; replace b3 := uV b3 hb;replace b4 := uV b4 hb;replace a6 := uB a6 hb;replace a7 := uB a7 hb;replace HB := uW hb; (try clear hb); (try clear hb2); (try clear hk); (try clear hi)))
 go_ret
 exact ⟨by first | rfl | (simp [*] <;> rfl), aB⟩
mutual
def checker_system_sums.l0 : Nat → List (S61) → Int → Int → List (List (S61)) → List (S61) → List (S61) → Option ((List (S61)) × Bool × List Int × List Int)
 | 0, _, _, _, _, _, _ => none
 | k + 1, x6, x13, x14, x479000, x479001, x479002 => if x14 < x13 then (checker_system_sums.l1 k x6 x14 ([] : List (S61)) x13 x14 x479000 (x479000.length : Int) 0 x479000 x479001 x479002) else ((checker_sum.f k x479002 x479001).bind fun f4 => (some (x6, f4.1, f4.2.1, f4.2.2)))
def checker_system_sums.l1 : Nat → List (S61) → Int → List (S61) → Int → Int → List (List (S61)) → Int → Int → List (List (S61)) → List (S61) → List (S61) → Option ((List (S61)) × Bool × List Int × List Int)
 | 0, _, _, _, _, _, _, _, _, _, _, _ => none
 | k + 1, x6, x7, x8, x13, x14, x18, x19, x20, x479000, x479001, x479002 => if x20 < x19 then (if 0 ≤ x20 then (if x20 < (x18.length : Int) then (if 0 ≤ x7 then (if x7 < ((rd_L11 x18 x20).length : Int) then (if x8.length < 2513169434916 then (checker_system_sums.l1 k x6 x7 (x8 ++ [(⟨(rd_T61 (rd_L11 x18 x20) x7).f0, (rd_T61 (rd_L11 x18 x20) x7).f1, (rd_T61 (rd_L11 x18 x20) x7).f2⟩ : S61)]) x13 x14 x18 x19 (wrap64 (x20 + 1)) x479000 x479001 x479002) else (none)) else (none)) else (none)) else (none)) else (none)) else ((checker_sum.f k x479002 x8).bind fun f5 => (if 0 ≤ x7 then (if x7 < (x6.length : Int) then (checker_system_sums.l0 k (x6.set (x7 : Int).toNat (⟨f5.1, f5.2.1, f5.2.2⟩ : S61)) x13 (wrap64 (x14 + 1)) x479000 x479001 x479002) else (none)) else (none)))
end
def checker_system_sums.f (k : Nat) (a9 : List (List (S61))) (c5 : List (S61)) (b5 : List (S61)) (a1 : Int) : Option ((List (S61)) × Bool × List Int × List Int) := if 0 ≤ a1 then (if (a1 : Int).toNat ≤ 5026338869833 then (checker_system_sums.l0 k (List.replicate (a1 : Int).toNat z61) a1 0 a9 c5 b5) else (none)) else (none)
theorem checker_system_sums.mono_l : ∀ k, (∀ y0 y1 y2 y3 y4 y5, LeO (checker_system_sums.l0 k y0 y1 y2 y3 y4 y5) (checker_system_sums.l0 (k + 1) y0 y1 y2 y3 y4 y5)) ∧ (∀ y0 y1 y2 y3 y4 y5 y6 y7 y8 y9 q2, LeO (checker_system_sums.l1 k y0 y1 y2 y3 y4 y5 y6 y7 y8 y9 q2) (checker_system_sums.l1 (k + 1) y0 y1 y2 y3 y4 y5 y6 y7 y8 y9 q2))
 | 0 => ⟨fun _ _ _ _ _ _ r h => by simp [checker_system_sums.l0] at h, fun _ _ _ _ _ _ _ _ _ _ _ r h => by simp [checker_system_sums.l1] at h⟩
 | k + 1 => by
  obtain ⟨ih0, ih1⟩ := checker_system_sums.mono_l k
  refine ⟨?_, ?_⟩
  ·
   intro y0 y1 y2 y3 y4 y5
   unfold checker_system_sums.l0
   repeat' first | (with_reducible first | exact ih0 .. | exact ih1 .. | exact checker_sum.mono .. | exact LeO.refl _ | exact LeO.none _ | refine LeO.ite ?_ ?_ | refine LeO.bind ?_ (fun _ => ?_))
  ·
   intro y0 y1 y2 y3 y4 y5 y6 y7 y8 y9 q2
   unfold checker_system_sums.l1
   repeat' first | (with_reducible first | exact ih0 .. | exact ih1 .. | exact checker_sum.mono .. | exact LeO.refl _ | exact LeO.none _ | refine LeO.ite ?_ ?_ | refine LeO.bind ?_ (fun _ => ?_))
theorem checker_system_sums.mono : ∀ a0 a1 a2 a3 k, LeO (checker_system_sums.f k a0 a1 a2 a3) (checker_system_sums.f (k + 1) a0 a1 a2 a3) := by
 intro a0 a1 a2 a3 k
 obtain ⟨ih0, ih1⟩ := checker_system_sums.mono_l k
 unfold checker_system_sums.f
 repeat' first | (with_reducible first | exact ih0 .. | exact ih1 .. | exact checker_sum.mono .. | exact LeO.refl _ | exact LeO.none _ | refine LeO.ite ?_ ?_ | refine LeO.bind ?_ (fun _ => ?_))
set_option maxHeartbeats 8000000 in
set_option maxRecDepth 100000 in
theorem checker_system_sums.calls (k : Nat) (a7 : Nat → Prop) (d9 : Option Addr) (d8 : Nat) (a9 : List (List (S61))) (e5 : Option Addr) (e6 : Nat) (c5 : List (S61)) (e1 : Option Addr) (e2 : Nat) (b5 : List (S61)) (a1 : Int) (r1 : List (S61)) (r2 : Bool) (r3 : List Int) (r4 : List Int) (w : World) (hG : GW w) (j8 : Kd.V (Kd.slice 61 k61) 64 w w.heap.size (fun k_ => a7 k_) (.slice d9 a9.length d8) a9) (i1 : Kd.C k61 w e5 c5.length c5) (i2 : c5.length ≤ e6) (i3 : Kd.C k61 w e1 b5.length b5) (i4 : b5.length ≤ e2) (h : checker_system_sums.f k a9 c5 b5 a1 = some (r1, r2, r3, r4)) :
  Calls Tryz.prog 22 #[.agg #[.slice d9 a9.length d8, .slice e5 c5.length e6, .slice e1 b5.length e2], .int .i64 a1] w fun e w' => ∃ v0_ v2_ v3_ : Value, e = .returned (.tuple #[v0_, .agg #[.bool r2, v2_, v3_]]) ∧ Kd.N k61 61 w' w.heap.size (fun k_ => (a7 k_ ∨ w.heap.size ≤ k_)) v0_ r1 ∧ Kd.V (Kd.int .u32) 107 w' w.heap.size (fun k_ => (a7 k_ ∨ w.heap.size ≤ k_) ∧ some k_ ≠ (v0_ : Value).ownBlock) v2_ r3 ∧ Kd.V (Kd.int .u32) 107 w' w.heap.size (fun k_ => (a7 k_ ∨ w.heap.size ≤ k_) ∧ some k_ ≠ (v0_ : Value).ownBlock) v3_ r4 ∧ Below w.heap.size w w' := by
 have hu69 := Tryz.underlying69
 have hu61 := Tryz.underlying61
 have d6 := mk0 (show Kd.V (Kd.slice 61 k61) 64 w w.heap.size (fun k_ => (a7 k_ ∨ w.heap.size ≤ k_)) (.slice d9 a9.length d8) a9 from Kd.V_mono j8 (fun k_ hk => .inl hk))
 have j9 := mk0 i1
 have k0 := mk0 i2
 clear i1 i2
 have i5 := mk0 i3
 have i6 := mk0 i4
 clear i3 i4
 have HB := mk0 (Below.refl w.heap.size w)
 have HG := mk0 hG
 clear hG
 have H : (if 0 ≤ a1 then (if (a1 : Int).toNat ≤ 5026338869833 then (checker_system_sums.l0 k (List.replicate (a1 : Int).toNat z61) a1 0 a9 c5 b5) else (none)) else (none)) = some (r1, r2, r3, r4) := h
 clear h
 by_cases c3 : 0 ≤ a1
 ·
  rw [if_pos c3] at H
  have k3 := eq_true c3
  have k4 : decide (0 ≤ a1) = true := decide_eq_true c3
  clear c3
  by_cases c4 : (a1 : Int).toNat ≤ 5026338869833
  ·
   rw [if_pos c4] at H
   have k5 := eq_true c4
   have k6 : decide ((a1 : Int).toNat ≤ 5026338869833) = true := decide_eq_true c4
   clear c4
   obtain ⟨k7, hy480⟩ : ∃ y_ : List (S61), y_ = (List.replicate (a1 : Int).toNat z61) := ⟨_, rfl⟩
   replace H : (checker_system_sums.l0 k k7 a1 0 a9 c5 b5) = some (r1, r2, r3, r4) := by first | (rw [hy480]; exact H) | (rw [hy480]; exact (Option.bind_some _ _).symm.trans H) | exact (Option.bind_some _ _).symm.trans H
   have Ny480 := mk0 hy480
   clear hy480
   have H' := mk0 H
   clear H
   go_enter Tryz.func22, Tryz.ntmps22
   go_wp2_with (first | (refine gd 2 ?_; refine box_event ?hg (N := 2) ?hd (cs := #[.slice d9 a9.length d8, .slice e5 c5.length e6, .slice e1 b5.length e2]) (t := 69) ?hr ?_; (case hd => rfl); (case hg => rfl); (case hr => exact aH); intro a8 hg w5 hbox hb; replace d6 := eV d6 hg hb;have a5 := mk0 (hbox);have s8 := uG hg;have s9 := uG hg;replace HB := uW hb; clear hb hbox hg) | (refine gd 5 ?_; refine box_event ?hg (N := 5) ?hd (cs := #[.bool false, .slice none 0 0, .slice none 0 0]) (t := 61) ?hr ?_; (case hd => rfl); (case hg => rfl); (case hr => exact aH); intro a6 hg w6 hbox hb; replace d6 := eV d6 hg hb;have b2 := mk0 (hbox);have t0 := uG hg;have t1 := uG hg;replace HB := uW hb;have c7 := uL a5 hg;have c8 := uM a5 hg;replace a5 := uB a5 hb; clear hb hbox hg) | (refine gd 12 ?_; refine Kd.N_make k61 _ 61 rfl (N' := 12) rfl 64 _ _ rfl a1 rfl rfl Tryz.underlying64 (.agg #[(.bool false), (.slice none 0 0), (.slice none 0 0)]) 56 info61 rfl (by decide) (by omega) z61 (ok := fun k_ => w6.heap.size ≤ k_) (okp := fun _ => False) (k61_mkF _ _ z61 (Nat.le_refl _) (Kd.F_nil _ _ _) (Nat.le_refl _) (Kd.F_nil _ _ _)) (fun _ hk => hk.elim) (Nat.le_refl _) (aD) (Nat.le_trans (Nat.mul_le_mul_right _ (aD : a1.toNat ≤ 5026338869833)) (by omega)) (Below.refl _ _) (Nat.le_refl _) ?_; intro b6 w7 m8 hb hg_ hnew_; clear hg_ hnew_; rw [← Ny480.out] at m8; replace d6 := dV d6 (Kd.N_base m8) hb;have k8 := lN (ok' := fun k_ => (a7 k_ ∨ w.heap.size ≤ k_) ∧ k_ ≠ a8 ∧ k_ ≠ a6) m8;replace a5 := uB a5 hb;replace b2 := uB b2 hb;replace HB := uW hb; clear hb m8))
   go_loopg [14] k (fun kq u7 w' => ∃ (b3 : List (S61)) (a4 : Int) (b7 : Bool), u7 = .int .i64 a4 ∧ Aside0 (checker_system_sums.l0 kq b3 a1 a4 a9 c5 b5 = some (r1, r2, r3, r4)) ∧ Aside0 (kq ≤ k) ∧ Aside0 (Kd.N k61 61 w' w.heap.size (fun k_ => (a7 k_ ∨ w.heap.size ≤ k_) ∧ k_ ≠ a8 ∧ k_ ≠ a6) b6 b3) ∧ Aside0 (Kd.V (Kd.slice 61 k61) 64 w' w.heap.size (fun k_ => (a7 k_ ∨ w.heap.size ≤ k_) ∧ some k_ ≠ (b6 : Value).ownBlock ∧ k_ ≠ a8 ∧ k_ ≠ a6) (.slice d9 a9.length d8) a9) ∧ Aside0 (w'.heap[a8]? = some (.cells #[(.slice d9 a9.length d8), (.slice e5 c5.length e6), (.slice e1 b5.length e2)] 69 (0, 0))) ∧ Aside0 (w'.heap[a6]? = some (.cells #[.bool b7, (.slice none 0 0), (.slice none 0 0)] 61 (0, 0))) ∧ Aside0 (Below w.heap.size w w'))
   case atStart => exact ⟨(k7), (0), (false), (by first | rfl | simp [*]), H', ⟨Nat.le_refl _⟩, ⟨pN k8.out⟩, ⟨sV d6.out⟩, ⟨pB a5.out⟩, ⟨pB b2.out⟩, ⟨aB⟩⟩
   case round =>
    clear H'
    try clear c2
    try clear p2
    try clear c3
    try clear k3
    try clear k4
    try clear c4
    try clear k5
    try clear k6
    obtain ⟨b3, a4, b7, rfl, HA, HK1, b8, b1, a5, b2, HB⟩ := hrel
    cases gk with
    | zero => exact absurd HA.out (by simp [checker_system_sums.l0])
    | succ k1 =>
     have H := HA.out
     clear HA
     simp only [checker_system_sums.l0] at H
     by_cases c9 : a4 < a1
     ·
      rw [if_pos c9] at H
      have k9 : decide (a4 < a1) = true := decide_eq_true c9
      clear c9
      have H' := mk0 H
      clear H
      have t2 := c7.out
      have t3 := c8.out
      have f6 := cZ a5 0
      have f7 := cZ a5 1
      have f8 := cZ a5 2
      have f9 := blk_frozen a5.out 0
      have g0 := blk_frozen a5.out 1
      have g1 := blk_frozen a5.out 2
      go_wp2
      go_loopg [8, 20] k1 (fun kq v8 u9 w' => ∃ (b9 : List (S61)) (b0 : Int), u9 = .int .i64 b0 ∧ Aside0 (checker_system_sums.l1 kq b3 a4 b9 a1 a4 a9 (a9.length : Int) b0 a9 c5 b5 = some (r1, r2, r3, r4)) ∧ Aside0 (kq ≤ k1) ∧ Aside0 (Kd.N k61 61 w' w.heap.size (fun k_ => (a7 k_ ∨ w.heap.size ≤ k_) ∧ some k_ ≠ (v8 : Value).ownBlock ∧ k_ ≠ a8 ∧ k_ ≠ a6) b6 b3) ∧ Aside0 (Kd.N k61 61 w' w.heap.size (fun k_ => (a7 k_ ∨ w.heap.size ≤ k_) ∧ some k_ ≠ (b6 : Value).ownBlock ∧ k_ ≠ a8 ∧ k_ ≠ a6) v8 b9) ∧ Aside0 (Kd.V (Kd.slice 61 k61) 64 w' w.heap.size (fun k_ => (a7 k_ ∨ w.heap.size ≤ k_) ∧ some k_ ≠ (b6 : Value).ownBlock ∧ some k_ ≠ (v8 : Value).ownBlock ∧ k_ ≠ a8 ∧ k_ ≠ a6) (.slice d9 a9.length d8) a9) ∧ Aside0 (Kd.V (Kd.slice 61 k61) 64 w' w.heap.size (fun k_ => (a7 k_ ∨ w.heap.size ≤ k_) ∧ some k_ ≠ (b6 : Value).ownBlock ∧ some k_ ≠ (v8 : Value).ownBlock ∧ k_ ≠ a8 ∧ k_ ≠ a6) (.slice d9 a9.length d8) a9) ∧ Aside0 (w'.heap[a8]? = some (.cells #[(.slice d9 a9.length d8), (.slice e5 c5.length e6), (.slice e1 b5.length e2)] 69 (0, 0))) ∧ Aside0 (w'.heap[a6]? = some (.cells #[.bool b7, (.slice none 0 0), (.slice none 0 0)] 61 (0, 0))) ∧ Aside0 (Below w.heap.size w w'))
      case atStart => exact ⟨(([] : List (S61))), (0), (by first | rfl | simp [*]), H', ⟨Nat.le_refl _⟩, ⟨by (with_reducible repeat (first | apply Kd.N_alloc | apply Kd.N_drewN | apply Kd.N_drew)); exact Kd.N_mono b8.out (fun _ hk => ⟨hk.1, ⟨(by simp [Value.ownBlock]), ⟨hk.2.1, hk.2.2⟩⟩⟩)⟩, ⟨by first | exact Kd.S_nil _ _ _ _ _ | exact Kd.N_nil _ _ _ _ _ | exact Kd.V_nil _ _ _ _ _ | exact Kd.Q_nil _ _ _ _ _ | exact Kd.R_nil _ _ _ _ _⟩, ⟨by (with_reducible repeat (first | apply Kd.V_alloc | apply Kd.V_drewN | apply Kd.V_drew)); exact Kd.V_mono b1.out (fun _ hk => ⟨hk.1, ⟨hk.2.1, ⟨(by simp [Value.ownBlock]), ⟨hk.2.2.1, hk.2.2.2⟩⟩⟩⟩)⟩, ⟨by (with_reducible repeat (first | apply Kd.V_alloc | apply Kd.V_drewN | apply Kd.V_drew)); exact Kd.V_mono b1.out (fun _ hk => ⟨hk.1, ⟨hk.2.1, ⟨(by simp [Value.ownBlock]), ⟨hk.2.2.1, hk.2.2.2⟩⟩⟩⟩)⟩, ⟨pB a5.out⟩, ⟨pB b2.out⟩, ⟨aB⟩⟩
      case round =>
       clear H'
       try clear c1
       try clear c2
       try clear p2
       try clear c3
       try clear k3
       try clear k4
       try clear c4
       try clear k5
       try clear k6
       try clear c9
       try clear k9
       try clear v6
       try clear f6
       try clear f7
       try clear f8
       try clear f9
       try clear g0
       try clear g1
       try clear p2
       obtain ⟨b9, b0, rfl, HA, HK2, b8, d7, c6, b1, a5, b2, HB⟩ := hrel
       cases gk with
       | zero => exact absurd HA.out (by simp [checker_system_sums.l1])
       | succ k2 =>
        have H := HA.out
        clear HA
        simp only [checker_system_sums.l1] at H
        by_cases j7 : b0 < (a9.length : Int)
        ·
         rw [if_pos j7] at H
         have l2 : decide (b0 < (a9.length : Int)) = true := decide_eq_true j7
         clear j7
         by_cases m9 : 0 ≤ b0
         ·
          rw [if_pos m9] at H
          have t4 : decide (0 ≤ b0) = true := decide_eq_true m9
          clear m9
          by_cases n0 : b0 < (a9.length : Int)
          ·
           rw [if_pos n0] at H
           have t5 : decide (b0 < (a9.length : Int)) = true := decide_eq_true n0
           clear n0
           by_cases n1 : 0 ≤ a4
           ·
            rw [if_pos n1] at H
            have t6 : decide (0 ≤ a4) = true := decide_eq_true n1
            clear n1
            by_cases n2 : a4 < ((rd_L11 a9 b0).length : Int)
            ·
             rw [if_pos n2] at H
             have t7 : decide (a4 < ((rd_L11 a9 b0).length : Int)) = true := decide_eq_true n2
             clear n2
             by_cases n3 : b9.length < 2513169434916
             ·
              rw [if_pos n3] at H
              have l3 := mk0 n3
              clear n3
              obtain ⟨l4, hy492⟩ : ∃ y_ : List (S61), y_ = (b9 ++ [(⟨(rd_T61 (rd_L11 a9 b0) a4).f0, (rd_T61 (rd_L11 a9 b0) a4).f1, (rd_T61 (rd_L11 a9 b0) a4).f2⟩ : S61)]) := ⟨_, rfl⟩
              replace H : (checker_system_sums.l1 k2 b3 a4 l4 a1 a4 a9 (a9.length : Int) (wrap64 (b0 + 1)) a9 c5 b5) = some (r1, r2, r3, r4) := by first | (rw [hy492]; exact H) | (rw [hy492]; exact (Option.bind_some _ _).symm.trans H) | exact (Option.bind_some _ _).symm.trans H
              have Ny492 := mk0 hy492
              clear hy492
              have H' := mk0 H
              clear H
              have g2 : 0 ≤ (b0 : Int) := aD
              have g3 : b0 < (a9.length : Int) := aD
              obtain ⟨l5, q3, q4, e490, g4, hl490_0, hi490_0⟩ := at_L11 (Kd.V_reads' c6.out).2.2 b0 g2 g3
              cases e490
              obtain ⟨ce490, hce490, hMe490, hcc490⟩ := Kd.V_get c6.out [] b0 g2 (by first | exact g3 | exact aD | (have e_ := (Kd.V_reads' c6.out).1; omega))
              obtain ⟨ua490_0, uc490_0, rfl, ul490_0, ge490_0⟩ := Kd.FK_slice_open hMe490
              have hv490_0 := hcc490 0 _ rfl
              rw [Nat.add_zero, show ((Kd.slice 61 k61)).sz = 1 from rfl, Nat.mul_one] at hv490_0
              replace hv490_0 := Option.some.inj (hv490_0.symm.trans g4)
              injection hv490_0 with hva_ hvn_ hvc_
              rw [hva_] at ge490_0
              rw [hvc_] at ul490_0
              have d3 := mk0 (show Kd.V k61 61 _ w.heap.size _ _ (rd_L11 a9 b0) from Kd.V_mk ul490_0 ge490_0)
              clear hva_ hvn_ hvc_ ge490_0 ul490_0
              clear hcc490 hce490
              have e7 := mk0 hi490_0
              have n4 := mk0 hl490_0
              clear hi490_0 hl490_0
              replace g2 := eq_true g2
              replace g3 := eq_true g3
              have g5 : 0 ≤ (a4 : Int) := aD
              have g6 : a4 < ((rd_L11 a9 b0).length : Int) := aD
              obtain ⟨t8, i9, j0, j1, j2, e491, n5, g7, g8, hl491_1, hi491_1, hl491_2, hi491_2⟩ := at_T61 (by repeat (first | (with_reducible exact e7.out) | (with_reducible refine Kd.C_alloc ?_ _) | (with_reducible refine Kd.C_drewN ?_ _) | (with_reducible refine Kd.C_drew ?_) | exact e7.out)) a4 g5 g6
              cases e491
              obtain ⟨ce491, hce491, hMe491, hcc491⟩ := Kd.V_get d3.out z61 a4 g5 (by first | exact g6 | exact aD | (have e_ := (Kd.V_reads' d3.out).1; omega))
              obtain ⟨ua491_1, uc491_1, ua491_2, uc491_2, rfl, ul491_1, ge491_1, ul491_2, ge491_2⟩ := k61_openF hMe491
              have hv491_1 := hcc491 1 _ rfl
              rw [add_field _ _ 1 (by omega)] at hv491_1
              replace hv491_1 := Option.some.inj (hv491_1.symm.trans g7)
              injection hv491_1 with hva_ hvn_ hvc_
              rw [hva_] at ge491_1
              rw [hvc_] at ul491_1
              have d4 := mk0 (show Kd.V (Kd.int .u32) 107 _ w.heap.size _ _ ((rd_T61 (rd_L11 a9 b0) a4).f1) from Kd.V_mk ul491_1 ge491_1)
              clear hva_ hvn_ hvc_ ge491_1 ul491_1
              have hv491_2 := hcc491 2 _ rfl
              rw [add_field _ _ 2 (by omega)] at hv491_2
              replace hv491_2 := Option.some.inj (hv491_2.symm.trans g8)
              injection hv491_2 with hva_ hvn_ hvc_
              rw [hva_] at ge491_2
              rw [hvc_] at ul491_2
              have d5 := mk0 (show Kd.V (Kd.int .u32) 107 _ w.heap.size _ _ ((rd_T61 (rd_L11 a9 b0) a4).f2) from Kd.V_mk ul491_2 ge491_2)
              clear hva_ hvn_ hvc_ ge491_2 ul491_2
              clear hcc491 hce491
              have n6 := mk0 hi491_1
              have n7 := mk0 hl491_1
              clear hi491_1 hl491_1
              have n8 := mk0 hi491_2
              have n9 := mk0 hl491_2
              clear hi491_2 hl491_2
              replace g5 := eq_true g5
              replace g6 := eq_true g6
              go_wp2_with (first | ((with_reducible refine gate_builtin (b := .append) (xs := #[.tmp 24, .tmp 29]) rfl ?_); at_builtin; refine Kd.N_append k61 (w0 := w) w.heap.size rfl (.tmp 24) (.tmp 29) 64 61 (.agg #[(.bool false), (.slice none 0 0), (.slice none 0 0)]) 56 rfl Tryz.underlying64 info61 rfl (by decide) (by omega) u8 b9 (⟨(rd_T61 (rd_L11 a9 b0) a4).f0, (rd_T61 (rd_L11 a9 b0) a4).f1, (rd_T61 (rd_L11 a9 b0) a4).f2⟩ : S61) [.bool ((rd_T61 (rd_L11 a9 b0) a4).f0), .slice i9 ((rd_T61 (rd_L11 a9 b0) a4).f1).length j0, .slice j1 ((rd_T61 (rd_L11 a9 b0) a4).f2).length j2] (fun k_ => (a7 k_ ∨ w.heap.size ≤ k_) ∧ some k_ ≠ (b6 : Value).ownBlock ∧ k_ ≠ a8 ∧ k_ ≠ a6) (fun k_ => ((fun k_ => (a7 k_ ∨ w.heap.size ≤ k_) ∧ some k_ ≠ (b6 : Value).ownBlock ∧ k_ ≠ a8 ∧ k_ ≠ a6)) k_ ∧ some k_ ≠ (u8 : Value).ownBlock) rfl rfl ?aP (fun _ hk => hk) ?aF ?aO ?aB ?aS ?aL ?_; (case aP => exact (k61_mkF _ _ (⟨(rd_T61 (rd_L11 a9 b0) a4).f0, (rd_T61 (rd_L11 a9 b0) a4).f1, (rd_T61 (rd_L11 a9 b0) a4).f2⟩ : S61) (Kd.V_reads' (Kd.V_mono (ok' := (fun k_ => ((fun k_ => (a7 k_ ∨ w.heap.size ≤ k_) ∧ some k_ ≠ (b6 : Value).ownBlock ∧ k_ ≠ a8 ∧ k_ ≠ a6)) k_ ∧ some k_ ≠ (u8 : Value).ownBlock)) (d4.out) (fun k_ hk => ⟨⟨hk.1, ⟨hk.2.1, ⟨hk.2.2.2.1, hk.2.2.2.2⟩⟩⟩, hk.2.2.1⟩))).2.1 (Kd.V_F (Kd.V_mono (ok' := (fun k_ => ((fun k_ => (a7 k_ ∨ w.heap.size ≤ k_) ∧ some k_ ≠ (b6 : Value).ownBlock ∧ k_ ≠ a8 ∧ k_ ≠ a6)) k_ ∧ some k_ ≠ (u8 : Value).ownBlock)) (d4.out) (fun k_ hk => ⟨⟨hk.1, ⟨hk.2.1, ⟨hk.2.2.2.1, hk.2.2.2.2⟩⟩⟩, hk.2.2.1⟩))) (Kd.V_reads' (Kd.V_mono (ok' := (fun k_ => ((fun k_ => (a7 k_ ∨ w.heap.size ≤ k_) ∧ some k_ ≠ (b6 : Value).ownBlock ∧ k_ ≠ a8 ∧ k_ ≠ a6)) k_ ∧ some k_ ≠ (u8 : Value).ownBlock)) (d5.out) (fun k_ hk => ⟨⟨hk.1, ⟨hk.2.1, ⟨hk.2.2.2.1, hk.2.2.2.2⟩⟩⟩, hk.2.2.1⟩))).2.1 (Kd.V_F (Kd.V_mono (ok' := (fun k_ => ((fun k_ => (a7 k_ ∨ w.heap.size ≤ k_) ∧ some k_ ≠ (b6 : Value).ownBlock ∧ k_ ≠ a8 ∧ k_ ≠ a6)) k_ ∧ some k_ ≠ (u8 : Value).ownBlock)) (d5.out) (fun k_ hk => ⟨⟨hk.1, ⟨hk.2.1, ⟨hk.2.2.2.1, hk.2.2.2.2⟩⟩⟩, hk.2.2.1⟩))))); (case aB => exact (aB)); (case aF => exact (fun k_ hk => ⟨(.inr (Nat.le_trans (below_size (aB)) hk)), Kd.fresh' (Kd.N_lt (pN b8.out)) k_ hk, Kd.freshB (g := a8) (o := .cells #[.slice (some l5) a9.length d8, .slice e5 c5.length e6, .slice e1 b5.length e2] 69 (0, 0)) (pB a5.out) k_ hk, Kd.freshB (g := a6) (o := .cells #[.bool b7, .slice none 0 0, .slice none 0 0] 61 (0, 0)) (pB b2.out) k_ hk⟩)); (case aO => exact (pN d7.out)); (case aS => exact (below_size (aB))); (case aL => have := l3.out; omega); intro v0 v7 ho hb hg hat; rw [← Ny492.out] at ho; replace b8 := mk0 (Kd.N_afterv (ok := (fun k_ => (a7 k_ ∨ w.heap.size ≤ k_) ∧ k_ ≠ a8 ∧ k_ ≠ a6)) (sN b8.out) hg hat);replace c6 := mk0 (Kd.V_afterv (ok := (fun k_ => (a7 k_ ∨ w.heap.size ≤ k_) ∧ some k_ ≠ (b6 : Value).ownBlock ∧ k_ ≠ a8 ∧ k_ ≠ a6)) (sV c6.out) hg hat);replace b1 := mk0 (Kd.V_afterv (ok := (fun k_ => (a7 k_ ∨ w.heap.size ≤ k_) ∧ some k_ ≠ (b6 : Value).ownBlock ∧ k_ ≠ a8 ∧ k_ ≠ a6)) (sV b1.out) hg hat);replace a5 := gB a5 hg (Kd.N_ne d7.out a5.out (by decide));replace b2 := gB b2 hg (Kd.N_away d7.out (fun _ hk => hk.2.2.2));replace d3 := mk0 (Kd.V_afterv (ok := (fun k_ => (a7 k_ ∨ w.heap.size ≤ k_) ∧ some k_ ≠ (b6 : Value).ownBlock ∧ k_ ≠ a8 ∧ k_ ≠ a6)) (sV d3.out) hg hat);replace d4 := mk0 (Kd.V_afterv (ok := (fun k_ => (a7 k_ ∨ w.heap.size ≤ k_) ∧ some k_ ≠ (b6 : Value).ownBlock ∧ k_ ≠ a8 ∧ k_ ≠ a6)) (sV d4.out) hg hat);replace d5 := mk0 (Kd.V_afterv (ok := (fun k_ => (a7 k_ ∨ w.heap.size ≤ k_) ∧ some k_ ≠ (b6 : Value).ownBlock ∧ k_ ≠ a8 ∧ k_ ≠ a6)) (sV d5.out) hg hat);replace HB := mk0 (hb);have l6 := mk0 (ho);clear d7; clear ho hb hg hat))
              go_roundg k2
              case measure => have := HK1.out; have := HK2.out; omega
              case rel => exact ⟨(l4), (wrap64 (b0 + 1)), (by first | rfl | simp [*]), H', ⟨by have := HK1.out; have := HK2.out; omega⟩, ⟨sN b8.out⟩, ⟨pN l6.out⟩, ⟨sV c6.out⟩, ⟨sV b1.out⟩, ⟨pB a5.out⟩, ⟨pB b2.out⟩, ⟨aB⟩⟩
             ·
              rw [if_neg n3] at H
              exact absurd H (by simp)
            ·
             rw [if_neg n2] at H
             exact absurd H (by simp)
           ·
            rw [if_neg n1] at H
            exact absurd H (by simp)
          ·
           rw [if_neg n0] at H
           exact absurd H (by simp)
         ·
          rw [if_neg m9] at H
          exact absurd H (by simp)
        ·
         rw [if_neg j7] at H
         have l2 : decide (b0 < (a9.length : Int)) = false := decide_eq_false j7
         clear j7
         obtain ⟨⟨e8, e9, f3⟩, A19, H⟩ := bS H
         (try dsimp only at H)
         by_cases o1 : 0 ≤ a4
         ·
          rw [if_pos o1] at H
          have t9 : decide (0 ≤ a4) = true := decide_eq_true o1
          clear o1
          by_cases o2 : a4 < (b3.length : Int)
          ·
           rw [if_pos o2] at H
           have u0 : decide (a4 < (b3.length : Int)) = true := decide_eq_true o2
           clear o2
           obtain ⟨j3, hy502⟩ : ∃ y_ : List (S61), y_ = (b3.set (a4 : Int).toNat (⟨e8, e9, f3⟩ : S61)) := ⟨_, rfl⟩
           replace H : (checker_system_sums.l0 k2 j3 a1 (wrap64 (a4 + 1)) a9 c5 b5) = some (r1, r2, r3, r4) := by first | (rw [hy502]; exact H) | (rw [hy502]; exact (Option.bind_some _ _).symm.trans H) | exact (Option.bind_some _ _).symm.trans H
           have Ny502 := mk0 hy502
           clear hy502
           have H' := mk0 H
           clear H
           have u2 := c7.out
           have u3 := c8.out
           have o3 := cZ a5 0
           have o4 := cZ a5 1
           have o5 := cZ a5 2
           have o6 := blk_frozen a5.out 0
           have o7 := blk_frozen a5.out 1
           have o8 := blk_frozen a5.out 2
           obtain ⟨d0, d1, q5⟩ := Kd.N_slice d7.out
           subst q5
           go_wp2_with (first | (refine gc 20 ?_; refine gl 37 Tryz.func20 #[.slice e1 b5.length e2, .slice d0 b9.length d1] ?_; (with_reducible refine (checker_sum.calls k2 _ _ b5 _ _ b9 e8 e9 f3 _ ?side1 ?side2 ?side3 ?side4 ?side5 A19.out).mono ?_); (case side1 => exact GW.below HG.out (aB)); (case side2 => exact pC (Kd.C_below i5.out HB.out)); (case side3 => exact i6.out); (case side4 => exact pC ((Kd.N_reads' d7.out).2.2)); (case side5 => exact (Kd.N_reads' d7.out).2.1); rintro e g9 ⟨v2, v3, rfl, l7, l8, hb⟩; refine ⟨_, rfl, ?_⟩; replace c6 := uV c6 hb;replace b1 := uV b1 hb;have e3 := lV (ok' := fun k_ => (a7 k_ ∨ w.heap.size ≤ k_) ∧ some k_ ≠ (b6 : Value).ownBlock ∧ some k_ ≠ (.slice d0 b9.length d1 : Value).ownBlock ∧ k_ ≠ a8 ∧ k_ ≠ a6) l7;have e4 := lV (ok' := fun k_ => (a7 k_ ∨ w.heap.size ≤ k_) ∧ some k_ ≠ (b6 : Value).ownBlock ∧ some k_ ≠ (.slice d0 b9.length d1 : Value).ownBlock ∧ k_ ≠ a8 ∧ k_ ≠ a6) l8;replace b8 := uN b8 hb;replace d7 := uN d7 hb;replace a5 := uB a5 hb;replace b2 := uB b2 hb;replace HB := uW hb; (try clear hb); (try clear l7); (try clear l8); have q6 : 0 ≤ (a4 : Int) := aD; have q7 : (a4 : Int) < ((b3.length : Int) : Int) := aD; obtain ⟨b4, d2, l9, m0, gl22, cl22, HG22⟩ := Kd.N_form b8.out (by omega); (first | cases l9 | (injection l9 with ea_ en_ ec_; (first | subst ea_ | (injection ea_ with ea_; subst ea_)); subst ec_; clear en_)); have GB22 := mk0 m0; have GG22 := mk0 HG22; clear m0 gl22 HG22; obtain ⟨ce22, hcl22, hM22, hcc22, hfr22⟩ := Kd.N_elem b8.out z61 (a4 : Int) q6 q7; obtain ⟨ua22_1, uc22_1, ua22_2, uc22_2, rfl, ul22_1, ge22_1, ul22_2, ge22_2⟩ := k61_openF hM22; have q8 : g9.cell? ⟨b4, (a4 : Int).toNat * 3, none⟩ = some (.bool ((rd_T61 b3 a4).f0)) := hcc22 0 _ rfl; have q9 : g9.cell? ⟨b4, (a4 : Int).toNat * 3 + 1, none⟩ = some (.slice ua22_1 ((rd_T61 b3 a4).f1).length uc22_1) := hcc22 1 _ rfl; have r0 : g9.cell? ⟨b4, (a4 : Int).toNat * 3 + 2, none⟩ = some (.slice ua22_2 ((rd_T61 b3 a4).f2).length uc22_2) := hcc22 2 _ rfl; have hf22_0 : g9.frozen? ⟨b4, (a4 : Int).toNat * 3, none⟩ = false := hfr22 0; have hf22_1 : g9.frozen? ⟨b4, (a4 : Int).toNat * 3 + 1, none⟩ = false := hfr22 1; have hf22_2 : g9.frozen? ⟨b4, (a4 : Int).toNat * 3 + 2, none⟩ = false := hfr22 2; clear hcl22 hcc22 hfr22 hM22; replace q6 := eq_true q6; replace q7 := eq_true q7; obtain ⟨m1, m2, r5⟩ := Kd.V_slice e3.out; subst r5; obtain ⟨m3, m4, r6⟩ := Kd.V_slice e4.out; subst r6; have HX27 := mk0 (show Kd.N k61 61 g9 w.heap.size (fun k_ => (a7 k_ ∨ w.heap.size ≤ k_) ∧ some k_ ≠ (.slice d0 b9.length d1 : Value).ownBlock ∧ k_ ≠ a8 ∧ k_ ≠ a6) (.slice (some ⟨b4, 0, none⟩) b3.length d2) b3 from (pN b8.out)); obtain ⟨ce27, hcl27, hM27, hcc27, hfr27⟩ := Kd.N_elem HX27.out z61 (a4 : Int) (aD) (by have h_ : (a4 : Int) < ((b3.length : Int) : Int) := aD; first | exact h_ | (have e_ := (Kd.N_reads' b8.out).1; omega) | simpa using h_); obtain ⟨ua27_1, uc27_1, ua27_2, uc27_2, rfl, ul27_1, ge27_1, ul27_2, ge27_2⟩ := k61_openF hM27; have HP27 := Kd.N_seg HX27.out (a4 : Int) (aD) (by have h_ : (a4 : Int) < ((b3.length : Int) : Int) := aD; first | exact h_ | (have e_ := (Kd.N_reads' b8.out).1; omega) | simpa using h_) (seg := [.bool e8, .slice m1 e9.length m2, .slice m3 f3.length m4]) (j := 0) hcl27 hcc27 (show 3 ≤ 3 from by decide) (x' := (⟨e8, e9, f3⟩ : S61)) (k61_mkF _ _ (⟨e8, e9, f3⟩ : S61) (Kd.V_reads' (Kd.V_mono (ok' := (fun k_ => ((fun k_ => (a7 k_ ∨ w.heap.size ≤ k_) ∧ some k_ ≠ (.slice d0 b9.length d1 : Value).ownBlock ∧ k_ ≠ a8 ∧ k_ ≠ a6)) k_ ∧ k_ ≠ b4)) (e3.out) (fun k_ hk => ⟨⟨hk.1, ⟨hk.2.2.1, ⟨hk.2.2.2.1, hk.2.2.2.2⟩⟩⟩, fun e_ => (hk.2.1) (by rw [e_]; rfl)⟩))).2.1 (Kd.V_F (Kd.V_mono (ok' := (fun k_ => ((fun k_ => (a7 k_ ∨ w.heap.size ≤ k_) ∧ some k_ ≠ (.slice d0 b9.length d1 : Value).ownBlock ∧ k_ ≠ a8 ∧ k_ ≠ a6)) k_ ∧ k_ ≠ b4)) (e3.out) (fun k_ hk => ⟨⟨hk.1, ⟨hk.2.2.1, ⟨hk.2.2.2.1, hk.2.2.2.2⟩⟩⟩, fun e_ => (hk.2.1) (by rw [e_]; rfl)⟩))) (Kd.V_reads' (Kd.V_mono (ok' := (fun k_ => ((fun k_ => (a7 k_ ∨ w.heap.size ≤ k_) ∧ some k_ ≠ (.slice d0 b9.length d1 : Value).ownBlock ∧ k_ ≠ a8 ∧ k_ ≠ a6)) k_ ∧ k_ ≠ b4)) (e4.out) (fun k_ hk => ⟨⟨hk.1, ⟨hk.2.2.1, ⟨hk.2.2.2.1, hk.2.2.2.2⟩⟩⟩, fun e_ => (hk.2.1) (by rw [e_]; rfl)⟩))).2.1 (Kd.V_F (Kd.V_mono (ok' := (fun k_ => ((fun k_ => (a7 k_ ∨ w.heap.size ≤ k_) ∧ some k_ ≠ (.slice d0 b9.length d1 : Value).ownBlock ∧ k_ ≠ a8 ∧ k_ ≠ a6)) k_ ∧ k_ ≠ b4)) (e4.out) (fun k_ hk => ⟨⟨hk.1, ⟨hk.2.2.1, ⟨hk.2.2.2.1, hk.2.2.2.2⟩⟩⟩, fun e_ => (hk.2.1) (by rw [e_]; rfl)⟩)))) (fun _ hk => hk); have j4 := hcc27 0 _ rfl; (try simp only [show (k61).sz = 3 from rfl, Nat.mul_one, Nat.add_zero] at j4); have hf27_0 := hfr27 0; (try simp only [show (k61).sz = 3 from rfl, Nat.mul_one, Nat.add_zero] at hf27_0); have j5 := hcc27 1 _ rfl; (try simp only [show (k61).sz = 3 from rfl, Nat.mul_one, Nat.add_zero] at j5); have hf27_1 := hfr27 1; (try simp only [show (k61).sz = 3 from rfl, Nat.mul_one, Nat.add_zero] at hf27_1); have j6 := hcc27 2 _ rfl; (try simp only [show (k61).sz = 3 from rfl, Nat.mul_one, Nat.add_zero] at j6); have hf27_2 := hfr27 2; (try simp only [show (k61).sz = 3 from rfl, Nat.mul_one, Nat.add_zero] at hf27_2); clear hcl27 hcc27 hfr27 hM27) | ((with_reducible refine gate_store (t := 61) (p := 38) rfl ?_); refine store_event (t := 61) (p := 38) (v := ?vo_w28) (w1 := (((g9.setCell ⟨b4, (a4 : Int).toNat * 3, none⟩ (.bool e8)).setCell ⟨b4, (a4 : Int).toNat * 3 + 1, none⟩ (.slice m1 e9.length m2)).setCell ⟨b4, (a4 : Int).toNat * 3 + 2, none⟩ (.slice m3 f3.length m4))) ?hg ?ho ?hn ?hr ?_; (case ho => rfl); (case hg => rfl); (case hn => rfl); (case hr => exact aH); intro r7 hw; have hg : g9.grownBy r7 (some b4) := (by rw [hw]; exact HP27.2); have hp_ : Kd.N k61 61 r7 w.heap.size (fun k_ => (a7 k_ ∨ w.heap.size ≤ k_) ∧ some k_ ≠ (.slice d0 b9.length d1 : Value).ownBlock ∧ k_ ≠ a8 ∧ k_ ≠ a6) (.slice (some ⟨b4, 0, none⟩) b3.length d2) j3 := (by rw [hw, Ny502.out]; exact HP27.1); clear HP27; replace d7 := mk0 (Kd.N_afterv (v := (.slice (some ⟨b4, 0, none⟩) b3.length d2)) (v1 := (.slice (some ⟨b4, 0, none⟩) b3.length d2)) (ok := (fun k_ => (a7 k_ ∨ w.heap.size ≤ k_) ∧ k_ ≠ a8 ∧ k_ ≠ a6)) (sN d7.out) hg (.inl rfl));replace c6 := mk0 (Kd.V_afterv (v := (.slice (some ⟨b4, 0, none⟩) b3.length d2)) (v1 := (.slice (some ⟨b4, 0, none⟩) b3.length d2)) (ok := (fun k_ => (a7 k_ ∨ w.heap.size ≤ k_) ∧ some k_ ≠ (.slice d0 b9.length d1 : Value).ownBlock ∧ k_ ≠ a8 ∧ k_ ≠ a6)) (sV c6.out) hg (.inl rfl));replace b1 := mk0 (Kd.V_afterv (v := (.slice (some ⟨b4, 0, none⟩) b3.length d2)) (v1 := (.slice (some ⟨b4, 0, none⟩) b3.length d2)) (ok := (fun k_ => (a7 k_ ∨ w.heap.size ≤ k_) ∧ some k_ ≠ (.slice d0 b9.length d1 : Value).ownBlock ∧ k_ ≠ a8 ∧ k_ ≠ a6)) (sV b1.out) hg (.inl rfl));replace a5 := gB a5 hg (Kd.N_ne b8.out a5.out (by decide));replace b2 := gB b2 hg (Kd.N_away b8.out (fun _ hk => hk.2.2.2));replace b8 := mk0 (hp_);replace e3 := mk0 (Kd.V_afterv (v := (.slice (some ⟨b4, 0, none⟩) b3.length d2)) (v1 := (.slice (some ⟨b4, 0, none⟩) b3.length d2)) (ok := (fun k_ => (a7 k_ ∨ w.heap.size ≤ k_) ∧ some k_ ≠ (.slice d0 b9.length d1 : Value).ownBlock ∧ k_ ≠ a8 ∧ k_ ≠ a6)) (sV e3.out) hg (.inl rfl));replace e4 := mk0 (Kd.V_afterv (v := (.slice (some ⟨b4, 0, none⟩) b3.length d2)) (v1 := (.slice (some ⟨b4, 0, none⟩) b3.length d2)) (ok := (fun k_ => (a7 k_ ∨ w.heap.size ≤ k_) ∧ some k_ ≠ (.slice d0 b9.length d1 : Value).ownBlock ∧ k_ ≠ a8 ∧ k_ ≠ a6)) (sV e4.out) hg (.inl rfl));replace HB := mk0 ((by rw [hw]; exact below_set (below_set (below_set (HB.out) GB22.out) GB22.out) GB22.out : Below w.heap.size w r7)); clear hg hw hp_))
           go_roundg k2
           case measure => have := HK1.out; have := HK2.out; omega
           case rel => exact ⟨(j3), (wrap64 (a4 + 1)), (b7), (by first | rfl | simp [*]), H', ⟨by have := HK1.out; have := HK2.out; omega⟩, ⟨sN b8.out⟩, ⟨sV b1.out⟩, ⟨pB a5.out⟩, ⟨pB b2.out⟩, ⟨aB⟩⟩
          ·
           rw [if_neg o2] at H
           exact absurd H (by simp)
         ·
          rw [if_neg o1] at H
          exact absurd H (by simp)
     ·
      rw [if_neg c9] at H
      have k9 : decide (a4 < a1) = false := decide_eq_false c9
      clear c9
      obtain ⟨⟨m5, m6, m7⟩, A31, H⟩ := bS H
      (try dsimp only at H)
      simp only [Option.some.injEq, Prod.mk.injEq] at H
      obtain ⟨rfl, rfl, rfl, rfl⟩ := H
      have u4 := c7.out
      have u5 := c8.out
      have o9 := cZ a5 0
      have p0 := cZ a5 1
      have p1 := cZ a5 2
      have p3 := blk_frozen a5.out 0
      have p4 := blk_frozen a5.out 1
      have p5 := blk_frozen a5.out 2
      go_wp2_with (first | (refine gc 20 ?_; refine gl 45 Tryz.func20 #[.slice e1 b5.length e2, .slice e5 c5.length e6] ?_; (with_reducible refine (checker_sum.calls k1 _ _ b5 _ _ c5 m5 m6 m7 _ ?side1 ?side2 ?side3 ?side4 ?side5 A31.out).mono ?_); (case side1 => exact GW.below HG.out (aB)); (case side2 => exact pC (Kd.C_below i5.out HB.out)); (case side3 => exact i6.out); (case side4 => exact pC (Kd.C_below j9.out HB.out)); (case side5 => exact k0.out); rintro e u6 ⟨v4, v5, rfl, l7, l8, hb⟩; refine ⟨_, rfl, ?_⟩; replace b1 := uV b1 hb;have i7 := lV (ok' := fun k_ => (a7 k_ ∨ w.heap.size ≤ k_) ∧ some k_ ≠ (b6 : Value).ownBlock ∧ k_ ≠ a8 ∧ k_ ≠ a6) l7;have i8 := lV (ok' := fun k_ => (a7 k_ ∨ w.heap.size ≤ k_) ∧ some k_ ≠ (b6 : Value).ownBlock ∧ k_ ≠ a8 ∧ k_ ≠ a6) l8;replace b8 := uN b8 hb;replace a5 := uB a5 hb;replace b2 := uB b2 hb;replace HB := uW hb; (try clear hb); (try clear l7); (try clear l8); have p6 := cZ b2 0; have p7 : u6.cell? ⟨a6, 1, none⟩ = some (.slice none 0 0) := (blk_cell b2.out 1).trans rfl; have p8 : u6.cell? ⟨a6, 2, none⟩ = some (.slice none 0 0) := (blk_cell b2.out 2).trans rfl; have p9 := blk_frozen b2.out 0; have q0 := blk_frozen b2.out 1; have q1 := blk_frozen b2.out 2; obtain ⟨r8, r9, s0⟩ := Kd.V_slice i7.out; subst s0; obtain ⟨s5, s6, s7⟩ := Kd.V_slice i8.out; subst s7))
      refine bodyPost_ret (results_tc rfl _ _ a6 61 #[.bool m5, .slice r8 m6.length r9, .slice s5 m7.length s6] (0, 0) _ rfl sB Tryz.underlying61 rfl (by kernel_rfl)) rfl ?_
      exact ⟨_, _, _, by first | rfl | (simp [*] <;> rfl), sN b8.out, sV i7.out, sV i8.out, aB⟩
  ·
   rw [if_neg c4] at H
   exact absurd H (by simp)
 ·
  rw [if_neg c3] at H
  exact absurd H (by simp)
mutual
def checker_Optimal.j0 : Nat → List (S61) → List (S61) → Bool → List (List (S61)) → List (S61) → List (S61) → Option (Bool)
 | 0, _, _, _, _, _, _ => none
 | k + 1, x9, x11, x54, x523000, x523001, x523002 => if x54 = true then (some false) else (checker_Optimal.l0 k x9 x11 x523000 (x523000.length : Int) 0 x523000 x523001 x523002)
def checker_Optimal.l0 : Nat → List (S61) → List (S61) → List (List (S61)) → Int → Int → List (List (S61)) → List (S61) → List (S61) → Option (Bool)
 | 0, _, _, _, _, _, _, _, _ => none
 | k + 1, x9, x11, x56, x57, x58, x523000, x523001, x523002 => if x58 < x57 then (if 0 ≤ x58 then (if x58 < (x56.length : Int) then ((checker_sum.f k (rd_L11 x56 x58) x11).bind fun s0 => (if x58 < (x523001.length : Int) then ((checker_fraction_compare.f k s0.1 s0.2.1 s0.2.2 ((rd_T61 x523001 x58).f0) ((rd_T61 x523001 x58).f1) ((rd_T61 x523001 x58).f2)).bind fun p4 => (if p4 > 0 then (some false) else (checker_Optimal.l0 k x9 x11 x56 x57 (wrap64 (x58 + 1)) x523000 x523001 x523002))) else (none))) else (none)) else (none)) else ((checker_system_sums.f k x523000 x523001 x523002 (x9.length : Int)).bind fun o8 => (checker_Optimal.l1 k x9 x11 o8.1 (o8.1.length : Int) 0 o8.2.1 o8.2.2.1 o8.2.2.2))
def checker_Optimal.l1 : Nat → List (S61) → List (S61) → List (S61) → Int → Int → Bool → List Int → List Int → Option (Bool)
 | 0, _, _, _, _, _, _, _, _ => none
 | k + 1, x9, x11, x17, x82, x83, x544000, x544001, x544002 => if x83 < x82 then (if 0 ≤ x83 then (if x83 < (x17.length : Int) then (if x83 < (x9.length : Int) then ((checker_fraction_add.f k ((rd_T61 x17 x83).f0) ((rd_T61 x17 x83).f1) ((rd_T61 x17 x83).f2) ((rd_T61 x9 x83).f0) ((rd_T61 x9 x83).f1) ((rd_T61 x9 x83).f2)).bind fun s5 => ((checker_fraction_sign.f s5.1 s5.2.1 s5.2.2).bind fun n4 => (if n4 = 0 then (checker_Optimal.l1 k x9 x11 x17 x82 (wrap64 (x83 + 1)) x544000 x544001 x544002) else (some false)))) else (none)) else (none)) else (none)) else ((checker_sum.f k x9 x11).bind fun s6 => ((checker_fraction_add.f k x544000 x544001 x544002 s6.1 s6.2.1 s6.2.2).bind fun s7 => ((checker_fraction_sign.f s7.1 s7.2.1 s7.2.2).bind fun w3 => (some (w3 == 0)))))
end
def checker_Optimal.f (k : Nat) (l0 : List (S37)) (l1 : List ByteArray) (l2 : List ByteArray) (g2 : List ByteArray) : Option (Bool) := (checker_readAll.f k l1).bind fun g9 => ((checker_readAll.f k l2).bind fun i1 => ((checker_open.f k l0 (l1.length : Int) g2).bind fun d9 => (if g9.2 = true then (if i1.2 = true then (if d9.2.2.2 = true then (checker_Optimal.j0 k g9.1 i1.1 ((i1.1.length : Int) != (g9.1.length : Int)) d9.1 d9.2.1 d9.2.2.1) else (checker_Optimal.j0 k g9.1 i1.1 true d9.1 d9.2.1 d9.2.2.1)) else (checker_Optimal.j0 k g9.1 i1.1 true d9.1 d9.2.1 d9.2.2.1)) else (checker_Optimal.j0 k g9.1 i1.1 true d9.1 d9.2.1 d9.2.2.1))))
theorem checker_Optimal.mono_l : ∀ k, (∀ y0 y1 y2 y3 y4 y5, LeO (checker_Optimal.j0 k y0 y1 y2 y3 y4 y5) (checker_Optimal.j0 (k + 1) y0 y1 y2 y3 y4 y5)) ∧ (∀ y0 y1 y2 y3 y4 y5 y6 y7, LeO (checker_Optimal.l0 k y0 y1 y2 y3 y4 y5 y6 y7) (checker_Optimal.l0 (k + 1) y0 y1 y2 y3 y4 y5 y6 y7)) ∧ (∀ y0 y1 y2 y3 y4 y5 y6 y7, LeO (checker_Optimal.l1 k y0 y1 y2 y3 y4 y5 y6 y7) (checker_Optimal.l1 (k + 1) y0 y1 y2 y3 y4 y5 y6 y7))
 | 0 => ⟨fun _ _ _ _ _ _ r h => by simp [checker_Optimal.j0] at h, fun _ _ _ _ _ _ _ _ r h => by simp [checker_Optimal.l0] at h, fun _ _ _ _ _ _ _ _ r h => by simp [checker_Optimal.l1] at h⟩
 | k + 1 => by
  obtain ⟨ih0, ih1, ih2⟩ := checker_Optimal.mono_l k
  refine ⟨?_, ?_, ?_⟩
  ·
   intro y0 y1 y2 y3 y4 y5
   unfold checker_Optimal.j0
   repeat' first | (with_reducible first | exact ih0 .. | exact ih1 .. | exact ih2 .. | exact checker_fraction_add.mono .. | exact checker_fraction_compare.mono .. | exact checker_open.mono .. | exact checker_readAll.mono .. | exact checker_sum.mono .. | exact checker_system_sums.mono .. | exact LeO.refl _ | exact LeO.none _ | refine LeO.ite ?_ ?_ | refine LeO.bind ?_ (fun _ => ?_))
  ·
   intro y0 y1 y2 y3 y4 y5 y6 y7
   unfold checker_Optimal.l0
   repeat' first | (with_reducible first | exact ih0 .. | exact ih1 .. | exact ih2 .. | exact checker_fraction_add.mono .. | exact checker_fraction_compare.mono .. | exact checker_open.mono .. | exact checker_readAll.mono .. | exact checker_sum.mono .. | exact checker_system_sums.mono .. | exact LeO.refl _ | exact LeO.none _ | refine LeO.ite ?_ ?_ | refine LeO.bind ?_ (fun _ => ?_))
  ·
   intro y0 y1 y2 y3 y4 y5 y6 y7
   unfold checker_Optimal.l1
   repeat' first | (with_reducible first | exact ih0 .. | exact ih1 .. | exact ih2 .. | exact checker_fraction_add.mono .. | exact checker_fraction_compare.mono .. | exact checker_open.mono .. | exact checker_readAll.mono .. | exact checker_sum.mono .. | exact checker_system_sums.mono .. | exact LeO.refl _ | exact LeO.none _ | refine LeO.ite ?_ ?_ | refine LeO.bind ?_ (fun _ => ?_))
theorem checker_Optimal.mono : ∀ a0 a1 a2 a3 k, LeO (checker_Optimal.f k a0 a1 a2 a3) (checker_Optimal.f (k + 1) a0 a1 a2 a3) := by
 intro a0 a1 a2 a3 k
 obtain ⟨ih0, ih1, ih2⟩ := checker_Optimal.mono_l k
 unfold checker_Optimal.f
 repeat' first | (with_reducible first | exact ih0 .. | exact ih1 .. | exact ih2 .. | exact checker_fraction_add.mono .. | exact checker_fraction_compare.mono .. | exact checker_open.mono .. | exact checker_readAll.mono .. | exact checker_sum.mono .. | exact checker_system_sums.mono .. | exact LeO.refl _ | exact LeO.none _ | refine LeO.ite ?_ ?_ | refine LeO.bind ?_ (fun _ => ?_))
def checker_Optimal.T9 : Bool × List (List Nat × List Nat) := (true, [([], []), ([], []), ([0, 1], [0, 1]), ([], []), ([3], [3]), ([], []), ([4, 5], [4, 5]), ([6], [6]), ([2, 7, 2], [2, 7]), ([8], [8])])
def checker_Optimal.B9 : List Nat := [0, 0, 3, 0, 8, 0, 56, 120, 255, 511]
theorem checker_Optimal.tab9 : rtab .any (opsOf Tryz.f11 9) = checker_Optimal.T9 := by kernel_rfl
theorem checker_Optimal.bits9 : waitsOk checker_Optimal.T9.2 checker_Optimal.B9 = true := by kernel_rfl
def checker_Optimal.T16 : Bool × List (List Nat × List Nat) := (true, [([], []), ([], []), ([0, 1], [0, 1]), ([2], [2]), ([], []), ([], []), ([4, 5], [4, 5]), ([6], [6]), ([3, 7], [3, 7]), ([8, 8], [8]), ([9], [9])])
def checker_Optimal.B16 : List Nat := [0, 0, 3, 7, 0, 0, 48, 112, 255, 511, 1023]
theorem checker_Optimal.tab16 : rtab .any (opsOf Tryz.f11 16) = checker_Optimal.T16 := by kernel_rfl
theorem checker_Optimal.bits16 : waitsOk checker_Optimal.T16.2 checker_Optimal.B16 = true := by kernel_rfl
def checker_Optimal.T19 : Bool × List (List Nat × List Nat) := (true, [([], []), ([], []), ([], []), ([1, 2], [1, 2]), ([0, 3, 3], [0, 3]), ([4, 4], [4]), ([5], [5]), ([6, 5, 0, 1, 2, 3, 4, 5, 6], [6])])
def checker_Optimal.B19 : List Nat := [0, 0, 0, 6, 15, 31, 63, 127]
theorem checker_Optimal.tab19 : rtab .any (opsOf Tryz.f11 19) = checker_Optimal.T19 := by kernel_rfl
theorem checker_Optimal.bits19 : waitsOk checker_Optimal.T19.2 checker_Optimal.B19 = true := by kernel_rfl
set_option maxHeartbeats 8000000 in
set_option maxRecDepth 100000 in
theorem checker_Optimal.calls (k : Nat) (A0 : Option Addr) (c0 : Nat) (l0 : List (S37)) (A1 : Option Addr) (c1 : Nat) (l1 : List ByteArray) (A2 : Option Addr) (c2 : Nat) (l2 : List ByteArray) (j9 : Option Addr) (k0 : Nat) (g2 : List ByteArray) (r : Bool) (w : World) (hG : GW w) (hr0 : Kd.C k37 w A0 l0.length l0) (hc0 : l0.length ≤ c0) (hr1 : Kd.C Kd.string w A1 l1.length l1) (hc1 : l1.length ≤ c1) (hr2 : Kd.C Kd.string w A2 l2.length l2) (hc2 : l2.length ≤ c2) (v6 : Kd.C Kd.string w j9 g2.length g2) (v7 : g2.length ≤ k0) (h : checker_Optimal.f k l0 l1 l2 g2 = some r) :
  Calls Tryz.prog 11 #[.slice A0 l0.length c0, .slice A1 l1.length c1, .slice A2 l2.length c2, .agg #[.slice j9 g2.length k0]] w fun e w' => e = .returned (.bool r) ∧ Below w.heap.size w w' := by
 have hu40 := Tryz.underlying40
 have hu69 := Tryz.underlying69
 have hu61 := Tryz.underlying61
 have HR0 := mk0 hr0
 have J6 := mk0 hc0
 clear hr0 hc0
 have HR1 := mk0 hr1
 have J7 := mk0 hc1
 clear hr1 hc1
 have HR2 := mk0 hr2
 have J8 := mk0 hc2
 clear hr2 hc2
 have z4 := mk0 v6
 have z5 := mk0 v7
 clear v6 v7
 have HB := mk0 (Below.refl w.heap.size w)
 have HG := mk0 hG
 clear hG
 have H : ((checker_readAll.f k l1).bind fun g9 => ((checker_readAll.f k l2).bind fun i1 => ((checker_open.f k l0 (l1.length : Int) g2).bind fun d9 => (if g9.2 = true then (if i1.2 = true then (if d9.2.2.2 = true then (checker_Optimal.j0 k g9.1 i1.1 ((i1.1.length : Int) != (g9.1.length : Int)) d9.1 d9.2.1 d9.2.2.1) else (checker_Optimal.j0 k g9.1 i1.1 true d9.1 d9.2.1 d9.2.2.1)) else (checker_Optimal.j0 k g9.1 i1.1 true d9.1 d9.2.1 d9.2.2.1)) else (checker_Optimal.j0 k g9.1 i1.1 true d9.1 d9.2.1 d9.2.2.1))))) = some r := h
 clear h
 obtain ⟨⟨b9, z6⟩, A5, H⟩ := bS H
 (try dsimp only at H)
 obtain ⟨⟨e3, w4⟩, A6, H⟩ := bS H
 (try dsimp only at H)
 obtain ⟨⟨b4, b3, c6, t2⟩, A7, H⟩ := bS H
 (try dsimp only at H)
 have D3 := mk0 H
 clear H
 go_enter Tryz.func11, Tryz.ntmps11
 go_upto_region 4 with (first | (refine gd 7 ?_; (try (refine gate_guard (by rfl) ?_; dsimp only)); refine box_event ?hg (N := 7) ?hd (cs := #[.slice j9 g2.length k0]) (t := 40) ?hr ?_; (case hd => rfl); (case hg => rfl); (case hr => exact aH); intro b8 hg w9 hbox hb; have b1 := mk0 (hbox);have H4 := uG hg;have H5 := uG hg;replace HB := uW hb; clear hb hbox hg) | (refine gc 18 ?_; refine gl 22 Tryz.func18 #[.slice A1 l1.length c1] ?_; (with_reducible refine (checker_readAll.calls k _ _ l1 b9 z6 _ ?side1 ?side2 A5.out).mono ?_); (case side1 => exact pC (Kd.C_below HR1.out HB.out)); (case side2 => exact J7.out); rintro e L7 ⟨i2, rfl, i7, hb⟩; refine ⟨_, rfl, ?_⟩; have g3 := mk0 (Kd.N_lower (Kd.N_mono (ok' := fun k_ => k_ ≠ b8) i7 (fun k_ hk_ => (Kd.freshB (g := b8) (o := .cells #[.slice j9 g2.length k0] 40 (0, 0)) (pB b1.out) k_ hk_))) (below_size (aB)));replace b1 := uB b1 hb;replace HB := uW hb; (try clear hb); (try clear i7)) | (refine gc 18 ?_; refine gl 27 Tryz.func18 #[.slice A2 l2.length c2] ?_; (with_reducible refine (checker_readAll.calls k _ _ l2 e3 w4 _ ?side1 ?side2 A6.out).mono ?_); (case side1 => exact pC (Kd.C_below HR2.out HB.out)); (case side2 => exact J8.out); rintro e J9 ⟨f4, rfl, i7, hb⟩; refine ⟨_, rfl, ?_⟩; have i8 := mk0 (Kd.N_lower (Kd.N_mono (ok' := fun k_ => some k_ ≠ (i2 : Value).ownBlock ∧ k_ ≠ b8) i7 (fun k_ hk_ => ⟨(Kd.fresh' (Kd.N_lt (pN g3.out)) k_ hk_), (Kd.freshB (g := b8) (o := .cells #[.slice j9 g2.length k0] 40 (0, 0)) (pB b1.out) k_ hk_)⟩)) (below_size (aB)));replace g3 := dN g3 (Kd.N_base i7) hb;replace b1 := uB b1 hb;replace HB := uW hb; (try clear hb); (try clear i7); have p9 : J9.cell? ⟨b8, 0, none⟩ = some (.slice j9 g2.length k0) := (blk_cell b1.out 0).trans rfl; have q0 := blk_frozen b1.out 0) | (refine gc 19 ?_; refine gl 35 Tryz.func19 #[.slice A0 l0.length c0, .int .i64 (l1.length : Int), .agg #[.slice j9 g2.length k0]] ?_; (with_reducible refine (checker_open.calls k _ _ l0 (l1.length : Int) _ _ g2 b4 b3 c6 t2 _ ?side1 ?side2 ?side3 ?side4 A7.out).mono ?_); (case side1 => exact pC (Kd.C_below HR0.out HB.out)); (case side2 => exact J6.out); (case side3 => exact pC (Kd.C_below z4.out HB.out)); (case side4 => exact z5.out); rintro e L8 ⟨z7, z8, z9, rfl, i7, k7, w5, hb⟩; refine ⟨_, rfl, ?_⟩; have l3 := mk0 (Kd.N_lower (Kd.N_mono (ok' := fun k_ => some k_ ≠ (z8 : Value).ownBlock ∧ some k_ ≠ (z9 : Value).ownBlock ∧ some k_ ≠ (i2 : Value).ownBlock ∧ some k_ ≠ (f4 : Value).ownBlock ∧ k_ ≠ b8) i7 (fun k_ hk_ => ⟨hk_.2.1, hk_.2.2, (Kd.fresh' (Kd.N_lt (pN g3.out)) k_ hk_.1), (Kd.fresh' (Kd.N_lt (pN i8.out)) k_ hk_.1), (Kd.freshB (g := b8) (o := .cells #[.slice j9 g2.length k0] 40 (0, 0)) (pB b1.out) k_ hk_.1)⟩)) (below_size (aB)));have l4 := mk0 (Kd.N_lower (Kd.N_mono (ok' := fun k_ => some k_ ≠ (z7 : Value).ownBlock ∧ some k_ ≠ (z9 : Value).ownBlock ∧ some k_ ≠ (i2 : Value).ownBlock ∧ some k_ ≠ (f4 : Value).ownBlock ∧ k_ ≠ b8) k7 (fun k_ hk_ => ⟨hk_.2.1, hk_.2.2, (Kd.fresh' (Kd.N_lt (pN g3.out)) k_ hk_.1), (Kd.fresh' (Kd.N_lt (pN i8.out)) k_ hk_.1), (Kd.freshB (g := b8) (o := .cells #[.slice j9 g2.length k0] 40 (0, 0)) (pB b1.out) k_ hk_.1)⟩)) (below_size (aB)));have l5 := mk0 (Kd.N_lower (Kd.N_mono (ok' := fun k_ => some k_ ≠ (z7 : Value).ownBlock ∧ some k_ ≠ (z8 : Value).ownBlock ∧ some k_ ≠ (i2 : Value).ownBlock ∧ some k_ ≠ (f4 : Value).ownBlock ∧ k_ ≠ b8) w5 (fun k_ hk_ => ⟨hk_.2.1, hk_.2.2, (Kd.fresh' (Kd.N_lt (pN g3.out)) k_ hk_.1), (Kd.fresh' (Kd.N_lt (pN i8.out)) k_ hk_.1), (Kd.freshB (g := b8) (o := .cells #[.slice j9 g2.length k0] 40 (0, 0)) (pB b1.out) k_ hk_.1)⟩)) (below_size (aB)));replace g3 := mk0 (Kd.N_mono (Kd.N_told (Kd.N_told (Kd.N_told (Kd.N_old (pN g3.out) hb) (Kd.N_base i7)) (Kd.N_base k7)) (Kd.N_base w5)) (fun _ h_ => h_.1));replace i8 := mk0 (Kd.N_mono (Kd.N_told (Kd.N_told (Kd.N_told (Kd.N_old (pN i8.out) hb) (Kd.N_base i7)) (Kd.N_base k7)) (Kd.N_base w5)) (fun _ h_ => h_.1));replace b1 := uB b1 hb;replace HB := uW hb; (try clear hb); (try clear i7); (try clear k7); (try clear w5)) | (refine gd 13 ?_; (try (refine gate_guard (by rfl) ?_; dsimp only)); refine box_event ?hg (N := 13) ?hd (cs := #[.slice none 0 0, .slice none 0 0, .slice none 0 0]) (t := 69) ?hr ?_; (case hd => rfl); (case hg => rfl); (case hr => exact aH); intro b0 hg D4 hbox hb; replace g3 := eN g3 hg hb;replace i8 := eN i8 hg hb;replace l3 := eN l3 hg hb;replace l4 := eN l4 hg hb;replace l5 := eN l5 hg hb;have a8 := mk0 (hbox);have H6 := uG hg;have H7 := uG hg;replace HB := uW hb;have d0 := uL b1 hg;have k6 := uM b1 hg;replace b1 := uB b1 hb; clear hb hbox hg; obtain ⟨d3, c7, D5⟩ := Kd.N_slice l3.out; subst D5; have H8 := k6.out; have H9 := d0.out; have q1 : D4.cell? ⟨b0, 0, none⟩ = some (.slice none 0 0) := (blk_cell a8.out 0).trans rfl; have q2 : D4.cell? ⟨b0, 1, none⟩ = some (.slice none 0 0) := (blk_cell a8.out 1).trans rfl; have q3 : D4.cell? ⟨b0, 2, none⟩ = some (.slice none 0 0) := (blk_cell a8.out 2).trans rfl; have q4 := blk_frozen a8.out 0; have q6 := blk_frozen a8.out 1; have q7 := blk_frozen a8.out 2; obtain ⟨d4, c9, D6⟩ := Kd.N_slice l4.out; subst D6; obtain ⟨d1, d2, D7⟩ := Kd.N_slice l5.out; subst D7))
 (try simp only [Act.put, List.setIfInBounds_toArray, List.set_cons_zero, List.set_cons_succ])
 go_cut [54] (fun K0 wc => ∃ (kq : Nat) (q8 : Bool), K0 = .bool q8 ∧ Aside0 (checker_Optimal.j0 kq b9 e3 q8 b4 b3 c6 = some r) ∧ Aside0 (kq ≤ k) ∧ Aside0 (Kd.N k61 61 wc w.heap.size (fun k_ => some k_ ≠ (f4 : Value).ownBlock ∧ some k_ ≠ ((.slice d3 b4.length c7) : Value).ownBlock ∧ some k_ ≠ ((.slice d4 b3.length c9) : Value).ownBlock ∧ some k_ ≠ ((.slice d1 c6.length d2) : Value).ownBlock ∧ k_ ≠ b8 ∧ k_ ≠ b0) i2 b9) ∧ Aside0 (Kd.N k61 61 wc w.heap.size (fun k_ => some k_ ≠ (i2 : Value).ownBlock ∧ some k_ ≠ ((.slice d3 b4.length c7) : Value).ownBlock ∧ some k_ ≠ ((.slice d4 b3.length c9) : Value).ownBlock ∧ some k_ ≠ ((.slice d1 c6.length d2) : Value).ownBlock ∧ k_ ≠ b8 ∧ k_ ≠ b0) f4 e3) ∧ Aside0 (Kd.N (Kd.slice 61 k61) 64 wc w.heap.size (fun k_ => some k_ ≠ (i2 : Value).ownBlock ∧ some k_ ≠ (f4 : Value).ownBlock ∧ some k_ ≠ ((.slice d4 b3.length c9) : Value).ownBlock ∧ some k_ ≠ ((.slice d1 c6.length d2) : Value).ownBlock ∧ k_ ≠ b8 ∧ k_ ≠ b0) (.slice d3 b4.length c7) b4) ∧ Aside0 (Kd.N k61 61 wc w.heap.size (fun k_ => some k_ ≠ (i2 : Value).ownBlock ∧ some k_ ≠ (f4 : Value).ownBlock ∧ some k_ ≠ ((.slice d3 b4.length c7) : Value).ownBlock ∧ some k_ ≠ ((.slice d1 c6.length d2) : Value).ownBlock ∧ k_ ≠ b8 ∧ k_ ≠ b0) (.slice d4 b3.length c9) b3) ∧ Aside0 (Kd.N k61 61 wc w.heap.size (fun k_ => some k_ ≠ (i2 : Value).ownBlock ∧ some k_ ≠ (f4 : Value).ownBlock ∧ some k_ ≠ ((.slice d3 b4.length c7) : Value).ownBlock ∧ some k_ ≠ ((.slice d4 b3.length c9) : Value).ownBlock ∧ k_ ≠ b8 ∧ k_ ≠ b0) (.slice d1 c6.length d2) c6) ∧ Aside0 (wc.heap[b8]? = some (.cells #[(.slice j9 g2.length k0)] 40 (0, 0))) ∧ Aside0 (wc.heap[b0]? = some (.cells #[(.slice d3 b4.length c7), (.slice d4 b3.length c9), (.slice d1 c6.length d2)] 69 (0, 0))) ∧ Aside0 (Below w.heap.size w wc))
 case first =>
  have H := D3.out
  clear D3
  by_cases w6 : z6 = true
  ·
   subst w6
   have H1 : (if w4 = true then (if t2 = true then (checker_Optimal.j0 k b9 e3 ((e3.length : Int) != (b9.length : Int)) b4 b3 c6) else (checker_Optimal.j0 k b9 e3 true b4 b3 c6)) else (checker_Optimal.j0 k b9 e3 true b4 b3 c6)) = some r := by rw [if_pos rfl] at H; exact H
   clear H
   have H := H1
   clear H1
   by_cases w7 : w4 = true
   ·
    subst w7
    have H1 : (if t2 = true then (checker_Optimal.j0 k b9 e3 ((e3.length : Int) != (b9.length : Int)) b4 b3 c6) else (checker_Optimal.j0 k b9 e3 true b4 b3 c6)) = some r := by rw [if_pos rfl] at H; exact H
    clear H
    have H := H1
    clear H1
    by_cases w8 : t2 = true
    ·
     subst w8
     have H1 : (checker_Optimal.j0 k b9 e3 ((e3.length : Int) != (b9.length : Int)) b4 b3 c6) = some r := by rw [if_pos rfl] at H; exact H
     clear H
     have H := H1
     clear H1
     have H' := mk0 H
     clear H
     obtain ⟨K1, K2, D8⟩ := Kd.N_slice i8.out
     subst D8
     obtain ⟨K3, K4, D9⟩ := Kd.N_slice g3.out
     subst D9
     go_wp2
     go_meet
     case rel => exact ⟨_, (((e3.length : Int) != (b9.length : Int))), (by first | rfl | simp [*]), H', ⟨by omega⟩, ⟨by (with_reducible repeat (first | apply Kd.N_alloc | apply Kd.N_drewN | apply Kd.N_drew)); exact Kd.N_mono (Kd.N_far (p := ⟨b0, 2, none⟩) (Kd.N_far (p := ⟨b0, 1, none⟩) (Kd.N_far (p := ⟨b0, 0, none⟩) (Kd.N_mono g3.out (fun k_ hk => (⟨hk, hk.2⟩ : _ ∧ k_ ≠ b0))) (fun _ hk => hk.2) (.slice d3 b4.length c7)) (fun _ hk => hk.2) (.slice d4 b3.length c9)) (fun _ hk => hk.2) (.slice d1 c6.length d2)) (fun _ hk => ⟨hk.1.1.1.1.1.2, ⟨hk.1.1.1.1.2, ⟨hk.1.1.1.2, ⟨hk.1.1.2, ⟨hk.1.1.1.1.1.1, hk.1.2⟩⟩⟩⟩⟩)⟩, ⟨by (with_reducible repeat (first | apply Kd.N_alloc | apply Kd.N_drewN | apply Kd.N_drew)); exact Kd.N_mono (Kd.N_far (p := ⟨b0, 2, none⟩) (Kd.N_far (p := ⟨b0, 1, none⟩) (Kd.N_far (p := ⟨b0, 0, none⟩) (Kd.N_mono i8.out (fun k_ hk => (⟨hk, hk.2⟩ : _ ∧ k_ ≠ b0))) (fun _ hk => hk.2) (.slice d3 b4.length c7)) (fun _ hk => hk.2) (.slice d4 b3.length c9)) (fun _ hk => hk.2) (.slice d1 c6.length d2)) (fun _ hk => ⟨hk.1.1.1.1.1.1, ⟨hk.1.1.1.1.2, ⟨hk.1.1.1.2, ⟨hk.1.1.2, ⟨hk.1.1.1.1.1.2, hk.1.2⟩⟩⟩⟩⟩)⟩, ⟨sN l3.out⟩, ⟨sN l4.out⟩, ⟨sN l5.out⟩, ⟨by (with_reducible repeat (first | refine blk_drewN ?_ _ | refine blk_drew ?_ | refine blk_alloc ?_ _)); refine blk_far ?_ d0.out _; (with_reducible repeat (first | refine blk_drewN ?_ _ | refine blk_drew ?_ | refine blk_alloc ?_ _)); refine blk_far ?_ d0.out _; (with_reducible repeat (first | refine blk_drewN ?_ _ | refine blk_drew ?_ | refine blk_alloc ?_ _)); refine blk_far ?_ d0.out _; (with_reducible repeat (first | refine blk_drewN ?_ _ | refine blk_drew ?_ | refine blk_alloc ?_ _)); exact b1.out⟩, ⟨by (with_reducible repeat (first | refine blk_drewN ?_ _ | refine blk_drew ?_ | refine blk_alloc ?_ _)); refine blk_put (cs := #[.slice d3 b4.length c7, .slice d4 b3.length c9, .slice none 0 0]) ?_ 2 _ rfl; (with_reducible repeat (first | refine blk_drewN ?_ _ | refine blk_drew ?_ | refine blk_alloc ?_ _)); refine blk_put (cs := #[.slice d3 b4.length c7, .slice none 0 0, .slice none 0 0]) ?_ 1 _ rfl; (with_reducible repeat (first | refine blk_drewN ?_ _ | refine blk_drew ?_ | refine blk_alloc ?_ _)); refine blk_put (cs := #[.slice none 0 0, .slice none 0 0, .slice none 0 0]) ?_ 0 _ rfl; (with_reducible repeat (first | refine blk_drewN ?_ _ | refine blk_drew ?_ | refine blk_alloc ?_ _)); exact a8.out⟩, ⟨aB⟩⟩
    ·
     replace w8 := Bool.eq_false_iff.mpr w8
     subst w8
     have H1 : (checker_Optimal.j0 k b9 e3 true b4 b3 c6) = some r := by rw [if_neg (show ¬ (false = true) by decide)] at H; exact H
     clear H
     have H := H1
     clear H1
     have H' := mk0 H
     clear H
     go_wp2
     go_meet
     case rel => exact ⟨_, (true), (by first | rfl | simp [*]), H', ⟨by omega⟩, ⟨by (with_reducible repeat (first | apply Kd.N_alloc | apply Kd.N_drewN | apply Kd.N_drew)); exact Kd.N_mono (Kd.N_far (p := ⟨b0, 2, none⟩) (Kd.N_far (p := ⟨b0, 1, none⟩) (Kd.N_far (p := ⟨b0, 0, none⟩) (Kd.N_mono g3.out (fun k_ hk => (⟨hk, hk.2⟩ : _ ∧ k_ ≠ b0))) (fun _ hk => hk.2) (.slice d3 b4.length c7)) (fun _ hk => hk.2) (.slice d4 b3.length c9)) (fun _ hk => hk.2) (.slice d1 c6.length d2)) (fun _ hk => ⟨hk.1.1.1.1.1.2, ⟨hk.1.1.1.1.2, ⟨hk.1.1.1.2, ⟨hk.1.1.2, ⟨hk.1.1.1.1.1.1, hk.1.2⟩⟩⟩⟩⟩)⟩, ⟨by (with_reducible repeat (first | apply Kd.N_alloc | apply Kd.N_drewN | apply Kd.N_drew)); exact Kd.N_mono (Kd.N_far (p := ⟨b0, 2, none⟩) (Kd.N_far (p := ⟨b0, 1, none⟩) (Kd.N_far (p := ⟨b0, 0, none⟩) (Kd.N_mono i8.out (fun k_ hk => (⟨hk, hk.2⟩ : _ ∧ k_ ≠ b0))) (fun _ hk => hk.2) (.slice d3 b4.length c7)) (fun _ hk => hk.2) (.slice d4 b3.length c9)) (fun _ hk => hk.2) (.slice d1 c6.length d2)) (fun _ hk => ⟨hk.1.1.1.1.1.1, ⟨hk.1.1.1.1.2, ⟨hk.1.1.1.2, ⟨hk.1.1.2, ⟨hk.1.1.1.1.1.2, hk.1.2⟩⟩⟩⟩⟩)⟩, ⟨sN l3.out⟩, ⟨sN l4.out⟩, ⟨sN l5.out⟩, ⟨by (with_reducible repeat (first | refine blk_drewN ?_ _ | refine blk_drew ?_ | refine blk_alloc ?_ _)); refine blk_far ?_ d0.out _; (with_reducible repeat (first | refine blk_drewN ?_ _ | refine blk_drew ?_ | refine blk_alloc ?_ _)); refine blk_far ?_ d0.out _; (with_reducible repeat (first | refine blk_drewN ?_ _ | refine blk_drew ?_ | refine blk_alloc ?_ _)); refine blk_far ?_ d0.out _; (with_reducible repeat (first | refine blk_drewN ?_ _ | refine blk_drew ?_ | refine blk_alloc ?_ _)); exact b1.out⟩, ⟨by (with_reducible repeat (first | refine blk_drewN ?_ _ | refine blk_drew ?_ | refine blk_alloc ?_ _)); refine blk_put (cs := #[.slice d3 b4.length c7, .slice d4 b3.length c9, .slice none 0 0]) ?_ 2 _ rfl; (with_reducible repeat (first | refine blk_drewN ?_ _ | refine blk_drew ?_ | refine blk_alloc ?_ _)); refine blk_put (cs := #[.slice d3 b4.length c7, .slice none 0 0, .slice none 0 0]) ?_ 1 _ rfl; (with_reducible repeat (first | refine blk_drewN ?_ _ | refine blk_drew ?_ | refine blk_alloc ?_ _)); refine blk_put (cs := #[.slice none 0 0, .slice none 0 0, .slice none 0 0]) ?_ 0 _ rfl; (with_reducible repeat (first | refine blk_drewN ?_ _ | refine blk_drew ?_ | refine blk_alloc ?_ _)); exact a8.out⟩, ⟨aB⟩⟩
   ·
    replace w7 := Bool.eq_false_iff.mpr w7
    subst w7
    have H1 : (checker_Optimal.j0 k b9 e3 true b4 b3 c6) = some r := by rw [if_neg (show ¬ (false = true) by decide)] at H; exact H
    clear H
    have H := H1
    clear H1
    have H' := mk0 H
    clear H
    go_wp2
    go_meet
    case rel => exact ⟨_, (true), (by first | rfl | simp [*]), H', ⟨by omega⟩, ⟨by (with_reducible repeat (first | apply Kd.N_alloc | apply Kd.N_drewN | apply Kd.N_drew)); exact Kd.N_mono (Kd.N_far (p := ⟨b0, 2, none⟩) (Kd.N_far (p := ⟨b0, 1, none⟩) (Kd.N_far (p := ⟨b0, 0, none⟩) (Kd.N_mono g3.out (fun k_ hk => (⟨hk, hk.2⟩ : _ ∧ k_ ≠ b0))) (fun _ hk => hk.2) (.slice d3 b4.length c7)) (fun _ hk => hk.2) (.slice d4 b3.length c9)) (fun _ hk => hk.2) (.slice d1 c6.length d2)) (fun _ hk => ⟨hk.1.1.1.1.1.2, ⟨hk.1.1.1.1.2, ⟨hk.1.1.1.2, ⟨hk.1.1.2, ⟨hk.1.1.1.1.1.1, hk.1.2⟩⟩⟩⟩⟩)⟩, ⟨by (with_reducible repeat (first | apply Kd.N_alloc | apply Kd.N_drewN | apply Kd.N_drew)); exact Kd.N_mono (Kd.N_far (p := ⟨b0, 2, none⟩) (Kd.N_far (p := ⟨b0, 1, none⟩) (Kd.N_far (p := ⟨b0, 0, none⟩) (Kd.N_mono i8.out (fun k_ hk => (⟨hk, hk.2⟩ : _ ∧ k_ ≠ b0))) (fun _ hk => hk.2) (.slice d3 b4.length c7)) (fun _ hk => hk.2) (.slice d4 b3.length c9)) (fun _ hk => hk.2) (.slice d1 c6.length d2)) (fun _ hk => ⟨hk.1.1.1.1.1.1, ⟨hk.1.1.1.1.2, ⟨hk.1.1.1.2, ⟨hk.1.1.2, ⟨hk.1.1.1.1.1.2, hk.1.2⟩⟩⟩⟩⟩)⟩, ⟨sN l3.out⟩, ⟨sN l4.out⟩, ⟨sN l5.out⟩, ⟨by (with_reducible repeat (first | refine blk_drewN ?_ _ | refine blk_drew ?_ | refine blk_alloc ?_ _)); refine blk_far ?_ d0.out _; (with_reducible repeat (first | refine blk_drewN ?_ _ | refine blk_drew ?_ | refine blk_alloc ?_ _)); refine blk_far ?_ d0.out _; (with_reducible repeat (first | refine blk_drewN ?_ _ | refine blk_drew ?_ | refine blk_alloc ?_ _)); refine blk_far ?_ d0.out _; (with_reducible repeat (first | refine blk_drewN ?_ _ | refine blk_drew ?_ | refine blk_alloc ?_ _)); exact b1.out⟩, ⟨by (with_reducible repeat (first | refine blk_drewN ?_ _ | refine blk_drew ?_ | refine blk_alloc ?_ _)); refine blk_put (cs := #[.slice d3 b4.length c7, .slice d4 b3.length c9, .slice none 0 0]) ?_ 2 _ rfl; (with_reducible repeat (first | refine blk_drewN ?_ _ | refine blk_drew ?_ | refine blk_alloc ?_ _)); refine blk_put (cs := #[.slice d3 b4.length c7, .slice none 0 0, .slice none 0 0]) ?_ 1 _ rfl; (with_reducible repeat (first | refine blk_drewN ?_ _ | refine blk_drew ?_ | refine blk_alloc ?_ _)); refine blk_put (cs := #[.slice none 0 0, .slice none 0 0, .slice none 0 0]) ?_ 0 _ rfl; (with_reducible repeat (first | refine blk_drewN ?_ _ | refine blk_drew ?_ | refine blk_alloc ?_ _)); exact a8.out⟩, ⟨aB⟩⟩
  ·
   replace w6 := Bool.eq_false_iff.mpr w6
   subst w6
   have H1 : (checker_Optimal.j0 k b9 e3 true b4 b3 c6) = some r := by rw [if_neg (show ¬ (false = true) by decide)] at H; exact H
   clear H
   have H := H1
   clear H1
   have H' := mk0 H
   clear H
   go_wp2
   go_meet
   case rel => exact ⟨_, (true), (by first | rfl | simp [*]), H', ⟨by omega⟩, ⟨by (with_reducible repeat (first | apply Kd.N_alloc | apply Kd.N_drewN | apply Kd.N_drew)); exact Kd.N_mono (Kd.N_far (p := ⟨b0, 2, none⟩) (Kd.N_far (p := ⟨b0, 1, none⟩) (Kd.N_far (p := ⟨b0, 0, none⟩) (Kd.N_mono g3.out (fun k_ hk => (⟨hk, hk.2⟩ : _ ∧ k_ ≠ b0))) (fun _ hk => hk.2) (.slice d3 b4.length c7)) (fun _ hk => hk.2) (.slice d4 b3.length c9)) (fun _ hk => hk.2) (.slice d1 c6.length d2)) (fun _ hk => ⟨hk.1.1.1.1.1.2, ⟨hk.1.1.1.1.2, ⟨hk.1.1.1.2, ⟨hk.1.1.2, ⟨hk.1.1.1.1.1.1, hk.1.2⟩⟩⟩⟩⟩)⟩, ⟨by (with_reducible repeat (first | apply Kd.N_alloc | apply Kd.N_drewN | apply Kd.N_drew)); exact Kd.N_mono (Kd.N_far (p := ⟨b0, 2, none⟩) (Kd.N_far (p := ⟨b0, 1, none⟩) (Kd.N_far (p := ⟨b0, 0, none⟩) (Kd.N_mono i8.out (fun k_ hk => (⟨hk, hk.2⟩ : _ ∧ k_ ≠ b0))) (fun _ hk => hk.2) (.slice d3 b4.length c7)) (fun _ hk => hk.2) (.slice d4 b3.length c9)) (fun _ hk => hk.2) (.slice d1 c6.length d2)) (fun _ hk => ⟨hk.1.1.1.1.1.1, ⟨hk.1.1.1.1.2, ⟨hk.1.1.1.2, ⟨hk.1.1.2, ⟨hk.1.1.1.1.1.2, hk.1.2⟩⟩⟩⟩⟩)⟩, ⟨sN l3.out⟩, ⟨sN l4.out⟩, ⟨sN l5.out⟩, ⟨by (with_reducible repeat (first | refine blk_drewN ?_ _ | refine blk_drew ?_ | refine blk_alloc ?_ _)); refine blk_far ?_ d0.out _; (with_reducible repeat (first | refine blk_drewN ?_ _ | refine blk_drew ?_ | refine blk_alloc ?_ _)); refine blk_far ?_ d0.out _; (with_reducible repeat (first | refine blk_drewN ?_ _ | refine blk_drew ?_ | refine blk_alloc ?_ _)); refine blk_far ?_ d0.out _; (with_reducible repeat (first | refine blk_drewN ?_ _ | refine blk_drew ?_ | refine blk_alloc ?_ _)); exact b1.out⟩, ⟨by (with_reducible repeat (first | refine blk_drewN ?_ _ | refine blk_drew ?_ | refine blk_alloc ?_ _)); refine blk_put (cs := #[.slice d3 b4.length c7, .slice d4 b3.length c9, .slice none 0 0]) ?_ 2 _ rfl; (with_reducible repeat (first | refine blk_drewN ?_ _ | refine blk_drew ?_ | refine blk_alloc ?_ _)); refine blk_put (cs := #[.slice d3 b4.length c7, .slice none 0 0, .slice none 0 0]) ?_ 1 _ rfl; (with_reducible repeat (first | refine blk_drewN ?_ _ | refine blk_drew ?_ | refine blk_alloc ?_ _)); refine blk_put (cs := #[.slice none 0 0, .slice none 0 0, .slice none 0 0]) ?_ 0 _ rfl; (with_reducible repeat (first | refine blk_drewN ?_ _ | refine blk_drew ?_ | refine blk_alloc ?_ _)); exact a8.out⟩, ⟨aB⟩⟩
 case rest =>
  clear D3
  try clear c1
  try clear c2
  try clear p2
  try clear c3
  try clear K5
  try clear K6
  try clear K7
  try clear K8
  try clear w6
  try clear w7
  try clear w8
  try clear p9
  try clear q1
  try clear q2
  try clear q3
  try clear q0
  try clear q4
  try clear q6
  try clear q7
  obtain ⟨kq, q8, rfl, HA, HJ7, c8, b7, a6, a4, a5, b1, a8, HB⟩ := hcut
  cases kq with
  | zero => exact absurd HA.out (by simp [checker_Optimal.j0])
  | succ kj7 =>
   have H := HA.out
   clear HA
   simp only [checker_Optimal.j0] at H
   by_cases A3 : q8 = true
   ·
    subst A3
    have H1 : (some false) = some r := by rw [if_pos rfl] at H; exact H
    clear H
    have H := H1
    clear H1
    obtain rfl := Option.some.inj H
    go_wp2
    go_ret
    exact ⟨by first | rfl | (simp [*] <;> rfl), aB⟩
   ·
    replace A3 := Bool.eq_false_iff.mpr A3
    subst A3
    have H1 : (checker_Optimal.l0 kj7 b9 e3 b4 (b4.length : Int) 0 b4 b3 c6) = some r := by rw [if_neg (show ¬ (false = true) by decide)] at H; exact H
    clear H
    have H := H1
    clear H1
    have H' := mk0 H
    clear H
    have I0 := k6.out
    have I1 := d0.out
    have t3 := cZ a8 0
    have t4 := cZ a8 1
    have t5 := cZ a8 2
    have t6 := blk_frozen a8.out 0
    have t7 := blk_frozen a8.out 1
    have t8 := blk_frozen a8.out 2
    go_wp2
    go_loopg [58] kj7 (fun kq K9 w' => ∃ (b2 : Int), K9 = .int .i64 b2 ∧ Aside0 (checker_Optimal.l0 kq b9 e3 b4 (b4.length : Int) b2 b4 b3 c6 = some r) ∧ Aside0 (kq ≤ kj7) ∧ Aside0 (Kd.N k61 61 w' w.heap.size (fun k_ => some k_ ≠ (f4 : Value).ownBlock ∧ some k_ ≠ ((.slice d3 b4.length c7) : Value).ownBlock ∧ some k_ ≠ ((.slice d3 b4.length c7) : Value).ownBlock ∧ some k_ ≠ ((.slice d4 b3.length c9) : Value).ownBlock ∧ some k_ ≠ ((.slice d1 c6.length d2) : Value).ownBlock ∧ k_ ≠ b8 ∧ k_ ≠ b0) i2 b9) ∧ Aside0 (Kd.N k61 61 w' w.heap.size (fun k_ => some k_ ≠ (i2 : Value).ownBlock ∧ some k_ ≠ ((.slice d3 b4.length c7) : Value).ownBlock ∧ some k_ ≠ ((.slice d3 b4.length c7) : Value).ownBlock ∧ some k_ ≠ ((.slice d4 b3.length c9) : Value).ownBlock ∧ some k_ ≠ ((.slice d1 c6.length d2) : Value).ownBlock ∧ k_ ≠ b8 ∧ k_ ≠ b0) f4 e3) ∧ Aside0 (Kd.N (Kd.slice 61 k61) 64 w' w.heap.size (fun k_ => some k_ ≠ (i2 : Value).ownBlock ∧ some k_ ≠ (f4 : Value).ownBlock ∧ some k_ ≠ ((.slice d4 b3.length c9) : Value).ownBlock ∧ some k_ ≠ ((.slice d1 c6.length d2) : Value).ownBlock ∧ k_ ≠ b8 ∧ k_ ≠ b0) (.slice d3 b4.length c7) b4) ∧ Aside0 (Kd.N (Kd.slice 61 k61) 64 w' w.heap.size (fun k_ => some k_ ≠ (i2 : Value).ownBlock ∧ some k_ ≠ (f4 : Value).ownBlock ∧ some k_ ≠ ((.slice d4 b3.length c9) : Value).ownBlock ∧ some k_ ≠ ((.slice d1 c6.length d2) : Value).ownBlock ∧ k_ ≠ b8 ∧ k_ ≠ b0) (.slice d3 b4.length c7) b4) ∧ Aside0 (Kd.N k61 61 w' w.heap.size (fun k_ => some k_ ≠ (i2 : Value).ownBlock ∧ some k_ ≠ (f4 : Value).ownBlock ∧ some k_ ≠ ((.slice d3 b4.length c7) : Value).ownBlock ∧ some k_ ≠ ((.slice d3 b4.length c7) : Value).ownBlock ∧ some k_ ≠ ((.slice d1 c6.length d2) : Value).ownBlock ∧ k_ ≠ b8 ∧ k_ ≠ b0) (.slice d4 b3.length c9) b3) ∧ Aside0 (Kd.N k61 61 w' w.heap.size (fun k_ => some k_ ≠ (i2 : Value).ownBlock ∧ some k_ ≠ (f4 : Value).ownBlock ∧ some k_ ≠ ((.slice d3 b4.length c7) : Value).ownBlock ∧ some k_ ≠ ((.slice d3 b4.length c7) : Value).ownBlock ∧ some k_ ≠ ((.slice d4 b3.length c9) : Value).ownBlock ∧ k_ ≠ b8 ∧ k_ ≠ b0) (.slice d1 c6.length d2) c6) ∧ Aside0 (w'.heap[b8]? = some (.cells #[(.slice j9 g2.length k0)] 40 (0, 0))) ∧ Aside0 (w'.heap[b0]? = some (.cells #[(.slice d3 b4.length c7), (.slice d4 b3.length c9), (.slice d1 c6.length d2)] 69 (0, 0))) ∧ Aside0 (Below w.heap.size w w'))
    case atStart => exact ⟨(0), (by first | rfl | simp [*]), H', ⟨Nat.le_refl _⟩, ⟨sN c8.out⟩, ⟨sN b7.out⟩, ⟨pN a6.out⟩, ⟨pN a6.out⟩, ⟨sN a4.out⟩, ⟨sN a5.out⟩, ⟨pB b1.out⟩, ⟨pB a8.out⟩, ⟨aB⟩⟩
    case round =>
     clear H'
     try clear c1
     try clear c2
     try clear p2
     try clear c3
     try clear K5
     try clear K6
     try clear K7
     try clear K8
     try clear w6
     try clear w7
     try clear w8
     try clear A3
     try clear L9
     try clear p9
     try clear q1
     try clear q2
     try clear q3
     try clear t3
     try clear t4
     try clear t5
     try clear q0
     try clear q4
     try clear q6
     try clear q7
     try clear t6
     try clear t7
     try clear t8
     try clear p2
     obtain ⟨b2, rfl, HA, HK2, c8, b7, e2, a6, a4, a5, b1, a8, HB⟩ := hrel
     cases gk with
     | zero => exact absurd HA.out (by simp [checker_Optimal.l0])
     | succ k2 =>
      have H := HA.out
      clear HA
      simp only [checker_Optimal.l0] at H
      by_cases x0 : b2 < (b4.length : Int)
      ·
       rw [if_pos x0] at H
       have v8 : decide (b2 < (b4.length : Int)) = true := decide_eq_true x0
       clear x0
       by_cases A4 : 0 ≤ b2
       ·
        rw [if_pos A4] at H
        have I2 : decide (0 ≤ b2) = true := decide_eq_true A4
        clear A4
        by_cases A8 : b2 < (b4.length : Int)
        ·
         rw [if_pos A8] at H
         have I3 : decide (b2 < (b4.length : Int)) = true := decide_eq_true A8
         clear A8
         obtain ⟨⟨r2, r3, r4⟩, A31, H⟩ := bS H
         (try dsimp only at H)
         by_cases A9 : b2 < (b3.length : Int)
         ·
          rw [if_pos A9] at H
          have I4 : decide (b2 < (b3.length : Int)) = true := decide_eq_true A9
          clear A9
          obtain ⟨p4, A33, H⟩ := bS H
          by_cases x1 : p4 > 0
          ·
           rw [if_pos x1] at H
           have v9 : decide (0 < p4) = true := decide_eq_true x1
           clear x1
           obtain rfl := Option.some.inj H
           have n0 : 0 ≤ (b2 : Int) := aD
           have n1 : b2 < (b4.length : Int) := aD
           obtain ⟨i9, p7, p8, e523, k9, hl523_0, hi523_0⟩ := at_L11 (Kd.N_reads' e2.out).2.2 b2 n0 n1
           cases e523
           obtain ⟨ce523, hce523, hMe523, hcc523⟩ := Kd.N_get e2.out [] b2 n0 (by first | exact n1 | exact aD | (have e_ := (Kd.N_reads' e2.out).1; omega))
           obtain ⟨ua523_0, uc523_0, rfl, ul523_0, ge523_0⟩ := Kd.FK_slice_open hMe523
           have hv523_0 := hcc523 0 _ rfl
           rw [Nat.add_zero, show ((Kd.slice 61 k61)).sz = 1 from rfl, Nat.mul_one] at hv523_0
           replace hv523_0 := Option.some.inj (hv523_0.symm.trans k9)
           injection hv523_0 with hva_ hvn_ hvc_
           rw [hva_] at ge523_0
           rw [hvc_] at ul523_0
           have e1 := mk0 (show Kd.V k61 61 _ w.heap.size _ _ (rd_L11 b4 b2) from Kd.V_mk ul523_0 ge523_0)
           clear hva_ hvn_ hvc_ ge523_0 ul523_0
           clear hcc523 hce523
           have d8 := mk0 hi523_0
           have n5 := mk0 hl523_0
           clear hi523_0 hl523_0
           replace n0 := eq_true n0
           replace n1 := eq_true n1
           try go_wp2
           replace c8 := mk0 (Kd.N_drew c8.out)
           replace b7 := mk0 (Kd.N_drew b7.out)
           replace e2 := mk0 (Kd.N_drew e2.out)
           replace a6 := mk0 (Kd.N_drew a6.out)
           replace a4 := mk0 (Kd.N_drew a4.out)
           replace a5 := mk0 (Kd.N_drew a5.out)
           replace e1 := mk0 (Kd.V_drew e1.out)
           replace b1 := mk0 (blk_drew b1.out)
           replace a8 := mk0 (blk_drew a8.out)
           replace d8 := mk0 (Kd.C_drew d8.out)
           replace HB := mk0 (below_drew1 HB.out)
           have n2 : 0 ≤ (b2 : Int) := aD
           have n3 : b2 < (b3.length : Int) := aD
           obtain ⟨g1, l6, l7, l8, l9, e531, j6, g6, g7, hl531_1, hi531_1, hl531_2, hi531_2⟩ := at_T61 (Kd.N_reads' a4.out).2.2 b2 n2 n3
           cases e531
           obtain ⟨ce531, hce531, hMe531, hcc531⟩ := Kd.N_get a4.out z61 b2 n2 (by first | exact n3 | exact aD | (have e_ := (Kd.N_reads' a4.out).1; omega))
           obtain ⟨ua531_1, uc531_1, ua531_2, uc531_2, rfl, ul531_1, ge531_1, ul531_2, ge531_2⟩ := k61_openF hMe531
           have hv531_1 := hcc531 1 _ rfl
           rw [add_field _ _ 1 (by omega)] at hv531_1
           replace hv531_1 := Option.some.inj (hv531_1.symm.trans g6)
           injection hv531_1 with hva_ hvn_ hvc_
           rw [hva_] at ge531_1
           rw [hvc_] at ul531_1
           have f5 := mk0 (show Kd.V (Kd.int .u32) 107 _ w.heap.size _ _ ((rd_T61 b3 b2).f1) from Kd.V_mk ul531_1 ge531_1)
           clear hva_ hvn_ hvc_ ge531_1 ul531_1
           have hv531_2 := hcc531 2 _ rfl
           rw [add_field _ _ 2 (by omega)] at hv531_2
           replace hv531_2 := Option.some.inj (hv531_2.symm.trans g7)
           injection hv531_2 with hva_ hvn_ hvc_
           rw [hva_] at ge531_2
           rw [hvc_] at ul531_2
           have f6 := mk0 (show Kd.V (Kd.int .u32) 107 _ w.heap.size _ _ ((rd_T61 b3 b2).f2) from Kd.V_mk ul531_2 ge531_2)
           clear hva_ hvn_ hvc_ ge531_2 ul531_2
           clear hcc531 hce531
           have e5 := mk0 hi531_1
           have n6 := mk0 hl531_1
           clear hi531_1 hl531_1
           have e6 := mk0 hi531_2
           have n7 := mk0 hl531_2
           clear hi531_2 hl531_2
           replace n2 := eq_true n2
           replace n3 := eq_true n3
           obtain ⟨x2, x3, B0⟩ := Kd.N_slice b7.out
           (first | subst B0 | (injection B0 with f1_ f2_ f3_; have f4_ := f1_.symm; have f5_ := f3_.symm; clear f1_ f2_ f3_; subst f4_; subst f5_))
           refine start_ (n := 10) (S := fun w' => w'.cell? ⟨b0, 0, none⟩ = some (.slice (some i9) b4.length c7) ∧ w'.cell? ⟨b0, 1, none⟩ = some (.slice (some g1) b3.length c9) ∧ w'.cell? ⟨b0, 2, none⟩ = some (.slice d1 c6.length d2) ∧ w'.cell? (g1.add ((b2).toNat * 3)) = some (.bool ((rd_T61 b3 b2).f0)) ∧ w'.cell? ⟨(g1.add ((b2).toNat * 3)).block, (g1.add ((b2).toNat * 3)).off + 1, none⟩ = some (.slice l6 ((rd_T61 b3 b2).f1).length l7) ∧ w'.cell? ⟨(g1.add ((b2).toNat * 3)).block, (g1.add ((b2).toNat * 3)).off + 2, none⟩ = some (.slice l8 ((rd_T61 b3 b2).f2).length l9)) (ds := []) #[false, false, false, false, false, false, false, false, false, false] (by kernel_rfl) rfl rfl ⟨(blk_cell a8.out 0).trans rfl, (blk_cell a8.out 1).trans rfl, (blk_cell a8.out 2).trans rfl, j6, g6, g7⟩ (fun a7 => ?_); refine with_tabW checker_Optimal.tab9 checker_Optimal.bits9 (fun HT_ HW_ => ?_)
           generalize wr.drew = M0 at c8 b7 e2 a6 a4 a5 e1 b1 a8 d8 HB f5 f6 e5 e6 j6 g6 g7 a7 ⊢
           refine pu 0 63 HT_ ?_
           refine pu 1 64 HT_ ?_
           refine pu 3 66 HT_ ?_
           refine pu 5 68 HT_ ?_
           refine tk 4 67 HT_ HW_ a7 ?_
           refine pu 6 69 HT_ ?_
           refine tk 7 70 HT_ HW_ a7 ?_
           refine oN 2 65 HT_ (fun K hK => ?_)
           refine gz Tryz.func20 #[.slice p7 (rd_L11 b4 b2).length p8, .slice x2 e3.length x3] ?_
           with_reducible refine (checker_sum.calls k2 _ _ (rd_L11 b4 b2) _ _ e3 r2 r3 r4 _ ?side1 ?side2 ?side3 ?side4 ?side5 A31.out).mono ?_
           (case side1 => exact GW.below HG.out (aB))
           (case side2 => exact pC d8.out)
           (case side3 => exact n5.out)
           (case side4 => exact pC ((Kd.N_reads' b7.out).2.2))
           (case side5 => exact (Kd.N_reads' b7.out).2.1)
           rintro e M1 ⟨E0, E1, rfl, i7, k7, hb⟩
           have HS3_ := (hb.cell (World.block_lt_of_cell? _ _ (a7.2.2.2.1))).trans (a7.2.2.2.1)
           have HS4_ := (hb.cell (World.block_lt_of_cell? _ _ (a7.2.2.2.2.1))).trans (a7.2.2.2.2.1)
           have HS5_ := (hb.cell (World.block_lt_of_cell? _ _ (a7.2.2.2.2.2))).trans (a7.2.2.2.2.2)
           refine ⟨_, rfl, ?_⟩
           replace e1 := uV e1 hb
           replace f5 := uV f5 hb
           replace f6 := uV f6 hb
           have j1 := lV (ok' := fun k_ => some k_ ≠ (i2 : Value).ownBlock ∧ some k_ ≠ (.slice x2 e3.length x3 : Value).ownBlock ∧ some k_ ≠ (.slice (some i9) b4.length c7 : Value).ownBlock ∧ some k_ ≠ (.slice (some i9) b4.length c7 : Value).ownBlock ∧ some k_ ≠ (.slice (some g1) b3.length c9 : Value).ownBlock ∧ some k_ ≠ (.slice d1 c6.length d2 : Value).ownBlock ∧ k_ ≠ b8 ∧ k_ ≠ b0) i7
           have j2 := lV (ok' := fun k_ => some k_ ≠ (i2 : Value).ownBlock ∧ some k_ ≠ (.slice x2 e3.length x3 : Value).ownBlock ∧ some k_ ≠ (.slice (some i9) b4.length c7 : Value).ownBlock ∧ some k_ ≠ (.slice (some i9) b4.length c7 : Value).ownBlock ∧ some k_ ≠ (.slice (some g1) b3.length c9 : Value).ownBlock ∧ some k_ ≠ (.slice d1 c6.length d2 : Value).ownBlock ∧ k_ ≠ b8 ∧ k_ ≠ b0) k7
           replace c8 := uN c8 hb
           replace b7 := uN b7 hb
           replace e2 := uN e2 hb
           replace a6 := uN a6 hb
           replace a4 := uN a4 hb
           replace a5 := uN a5 hb
           replace b1 := uB b1 hb
           replace a8 := uB a8 hb
           replace d8 := uC d8 hb
           replace e5 := uC e5 hb
           replace e6 := uC e6 hb
           replace HB := uW hb
           (try clear hb)
           (try clear hb2)
           (try clear hk)
           (try clear hi)
           (try clear i7)
           (try clear k7)
           obtain ⟨E2, E3, B1⟩ := Kd.V_slice j1.out
           (first | subst B1 | (injection B1 with f1_ f2_ f3_; have f4_ := f1_.symm; have f5_ := f3_.symm; clear f1_ f2_ f3_; subst f4_; subst f5_))
           obtain ⟨E4, E5, B2⟩ := Kd.V_slice j2.out
           (first | subst B2 | (injection B2 with f1_ f2_ f3_; have f4_ := f1_.symm; have f5_ := f3_.symm; clear f1_ f2_ f3_; subst f4_; subst f5_))
           refine hK.out _ _ ⟨(blk_cell a8.out 0).trans rfl, (blk_cell a8.out 1).trans rfl, (blk_cell a8.out 2).trans rfl, HS3_, HS4_, HS5_⟩ (fun a7 => ?_)
           clear hK K
           refine norm_ (a' := ?_) ?_ ?_
           rotate_left
           ·
            show Act.put _ (some 65) _ = _
            exact aP
           refine oN 8 71 HT_ (fun K hK => ?_)
           refine gz Tryz.func21 #[.agg #[.bool r2, .slice E2 r3.length E3, .slice E4 r4.length E5], .agg #[.bool ((rd_T61 b3 b2).f0), .slice l6 ((rd_T61 b3 b2).f1).length l7, .slice l8 ((rd_T61 b3 b2).f2).length l9]] ?_
           with_reducible refine (checker_fraction_compare.calls k2 r2 _ _ r3 _ _ r4 ((rd_T61 b3 b2).f0) _ _ ((rd_T61 b3 b2).f1) _ _ ((rd_T61 b3 b2).f2) p4 _ ?side1 ?side2 ?side3 ?side4 ?side5 ?side6 ?side7 ?side8 A33.out).mono ?_
           (case side1 => exact pC ((Kd.V_reads' j1.out).2.2))
           (case side2 => exact (Kd.V_reads' j1.out).2.1)
           (case side3 => exact pC ((Kd.V_reads' j2.out).2.2))
           (case side4 => exact (Kd.V_reads' j2.out).2.1)
           (case side5 => exact pC e5.out)
           (case side6 => exact n6.out)
           (case side7 => exact pC e6.out)
           (case side8 => exact n7.out)
           rintro e M2 ⟨rfl, hb⟩
           have HS3_ := (hb.cell (World.block_lt_of_cell? _ _ (a7.2.2.2.1))).trans (a7.2.2.2.1)
           have HS4_ := (hb.cell (World.block_lt_of_cell? _ _ (a7.2.2.2.2.1))).trans (a7.2.2.2.2.1)
           have HS5_ := (hb.cell (World.block_lt_of_cell? _ _ (a7.2.2.2.2.2))).trans (a7.2.2.2.2.2)
           refine ⟨_, rfl, ?_⟩
           replace c8 := uN c8 hb
           replace b7 := uN b7 hb
           replace e2 := uN e2 hb
           replace a6 := uN a6 hb
           replace a4 := uN a4 hb
           replace a5 := uN a5 hb
           replace e1 := uV e1 hb
           replace f5 := uV f5 hb
           replace f6 := uV f6 hb
           replace j1 := uV j1 hb
           replace j2 := uV j2 hb
           replace b1 := uB b1 hb
           replace a8 := uB a8 hb
           replace d8 := uC d8 hb
           replace e5 := uC e5 hb
           replace e6 := uC e6 hb
           replace HB := uW hb
           (try clear hb)
           (try clear hb2)
           (try clear hk)
           (try clear hi)
           refine hK.out _ _ ⟨(blk_cell a8.out 0).trans rfl, (blk_cell a8.out 1).trans rfl, (blk_cell a8.out 2).trans rfl, HS3_, HS4_, HS5_⟩ (fun a7 => ?_)
           clear hK K
           refine norm_ (a' := ?_) ?_ ?_
           rotate_left
           ·
            show Act.put _ (some 71) _ = _
            exact aP
           refine pu 9 72 HT_ ?_
           refine done_ (done_of HT_.out (by kernel_rfl)) ?_
           try go_wp2
           go_ret
           exact ⟨by first | rfl | (simp [*] <;> rfl), aB⟩
          ·
           rw [if_neg x1] at H
           have v9 : decide (0 < p4) = false := decide_eq_false x1
           clear x1
           have H' := mk0 H
           clear H
           have n0 : 0 ≤ (b2 : Int) := aD
           have n1 : b2 < (b4.length : Int) := aD
           obtain ⟨i9, p7, p8, e523, k9, hl523_0, hi523_0⟩ := at_L11 (Kd.N_reads' e2.out).2.2 b2 n0 n1
           cases e523
           obtain ⟨ce523, hce523, hMe523, hcc523⟩ := Kd.N_get e2.out [] b2 n0 (by first | exact n1 | exact aD | (have e_ := (Kd.N_reads' e2.out).1; omega))
           obtain ⟨ua523_0, uc523_0, rfl, ul523_0, ge523_0⟩ := Kd.FK_slice_open hMe523
           have hv523_0 := hcc523 0 _ rfl
           rw [Nat.add_zero, show ((Kd.slice 61 k61)).sz = 1 from rfl, Nat.mul_one] at hv523_0
           replace hv523_0 := Option.some.inj (hv523_0.symm.trans k9)
           injection hv523_0 with hva_ hvn_ hvc_
           rw [hva_] at ge523_0
           rw [hvc_] at ul523_0
           have e1 := mk0 (show Kd.V k61 61 _ w.heap.size _ _ (rd_L11 b4 b2) from Kd.V_mk ul523_0 ge523_0)
           clear hva_ hvn_ hvc_ ge523_0 ul523_0
           clear hcc523 hce523
           have d8 := mk0 hi523_0
           have n5 := mk0 hl523_0
           clear hi523_0 hl523_0
           replace n0 := eq_true n0
           replace n1 := eq_true n1
           try go_wp2
           replace c8 := mk0 (Kd.N_drew c8.out)
           replace b7 := mk0 (Kd.N_drew b7.out)
           replace e2 := mk0 (Kd.N_drew e2.out)
           replace a6 := mk0 (Kd.N_drew a6.out)
           replace a4 := mk0 (Kd.N_drew a4.out)
           replace a5 := mk0 (Kd.N_drew a5.out)
           replace e1 := mk0 (Kd.V_drew e1.out)
           replace b1 := mk0 (blk_drew b1.out)
           replace a8 := mk0 (blk_drew a8.out)
           replace d8 := mk0 (Kd.C_drew d8.out)
           replace HB := mk0 (below_drew1 HB.out)
           have n2 : 0 ≤ (b2 : Int) := aD
           have n3 : b2 < (b3.length : Int) := aD
           obtain ⟨g1, l6, l7, l8, l9, e531, j6, g6, g7, hl531_1, hi531_1, hl531_2, hi531_2⟩ := at_T61 (Kd.N_reads' a4.out).2.2 b2 n2 n3
           cases e531
           obtain ⟨ce531, hce531, hMe531, hcc531⟩ := Kd.N_get a4.out z61 b2 n2 (by first | exact n3 | exact aD | (have e_ := (Kd.N_reads' a4.out).1; omega))
           obtain ⟨ua531_1, uc531_1, ua531_2, uc531_2, rfl, ul531_1, ge531_1, ul531_2, ge531_2⟩ := k61_openF hMe531
           have hv531_1 := hcc531 1 _ rfl
           rw [add_field _ _ 1 (by omega)] at hv531_1
           replace hv531_1 := Option.some.inj (hv531_1.symm.trans g6)
           injection hv531_1 with hva_ hvn_ hvc_
           rw [hva_] at ge531_1
           rw [hvc_] at ul531_1
           have f5 := mk0 (show Kd.V (Kd.int .u32) 107 _ w.heap.size _ _ ((rd_T61 b3 b2).f1) from Kd.V_mk ul531_1 ge531_1)
           clear hva_ hvn_ hvc_ ge531_1 ul531_1
           have hv531_2 := hcc531 2 _ rfl
           rw [add_field _ _ 2 (by omega)] at hv531_2
           replace hv531_2 := Option.some.inj (hv531_2.symm.trans g7)
           injection hv531_2 with hva_ hvn_ hvc_
           rw [hva_] at ge531_2
           rw [hvc_] at ul531_2
           have f6 := mk0 (show Kd.V (Kd.int .u32) 107 _ w.heap.size _ _ ((rd_T61 b3 b2).f2) from Kd.V_mk ul531_2 ge531_2)
           clear hva_ hvn_ hvc_ ge531_2 ul531_2
           clear hcc531 hce531
           have e5 := mk0 hi531_1
           have n6 := mk0 hl531_1
           clear hi531_1 hl531_1
           have e6 := mk0 hi531_2
           have n7 := mk0 hl531_2
           clear hi531_2 hl531_2
           replace n2 := eq_true n2
           replace n3 := eq_true n3
           obtain ⟨x4, x5, B3⟩ := Kd.N_slice b7.out
           (first | subst B3 | (injection B3 with f1_ f2_ f3_; have f4_ := f1_.symm; have f5_ := f3_.symm; clear f1_ f2_ f3_; subst f4_; subst f5_))
           refine start_ (n := 10) (S := fun w' => w'.cell? ⟨b0, 0, none⟩ = some (.slice (some i9) b4.length c7) ∧ w'.cell? ⟨b0, 1, none⟩ = some (.slice (some g1) b3.length c9) ∧ w'.cell? ⟨b0, 2, none⟩ = some (.slice d1 c6.length d2) ∧ w'.cell? (g1.add ((b2).toNat * 3)) = some (.bool ((rd_T61 b3 b2).f0)) ∧ w'.cell? ⟨(g1.add ((b2).toNat * 3)).block, (g1.add ((b2).toNat * 3)).off + 1, none⟩ = some (.slice l6 ((rd_T61 b3 b2).f1).length l7) ∧ w'.cell? ⟨(g1.add ((b2).toNat * 3)).block, (g1.add ((b2).toNat * 3)).off + 2, none⟩ = some (.slice l8 ((rd_T61 b3 b2).f2).length l9)) (ds := []) #[false, false, false, false, false, false, false, false, false, false] (by kernel_rfl) rfl rfl ⟨(blk_cell a8.out 0).trans rfl, (blk_cell a8.out 1).trans rfl, (blk_cell a8.out 2).trans rfl, j6, g6, g7⟩ (fun a7 => ?_); refine with_tabW checker_Optimal.tab9 checker_Optimal.bits9 (fun HT_ HW_ => ?_)
           generalize wr.drew = M3 at c8 b7 e2 a6 a4 a5 e1 b1 a8 d8 HB f5 f6 e5 e6 j6 g6 g7 a7 ⊢
           refine pu 0 63 HT_ ?_
           refine pu 1 64 HT_ ?_
           refine pu 3 66 HT_ ?_
           refine pu 5 68 HT_ ?_
           refine tk 4 67 HT_ HW_ a7 ?_
           refine pu 6 69 HT_ ?_
           refine tk 7 70 HT_ HW_ a7 ?_
           refine oN 2 65 HT_ (fun K hK => ?_)
           refine gz Tryz.func20 #[.slice p7 (rd_L11 b4 b2).length p8, .slice x4 e3.length x5] ?_
           with_reducible refine (checker_sum.calls k2 _ _ (rd_L11 b4 b2) _ _ e3 r2 r3 r4 _ ?side1 ?side2 ?side3 ?side4 ?side5 A31.out).mono ?_
           (case side1 => exact GW.below HG.out (aB))
           (case side2 => exact pC d8.out)
           (case side3 => exact n5.out)
           (case side4 => exact pC ((Kd.N_reads' b7.out).2.2))
           (case side5 => exact (Kd.N_reads' b7.out).2.1)
           rintro e M4 ⟨E0, E1, rfl, i7, k7, hb⟩
           have HS3_ := (hb.cell (World.block_lt_of_cell? _ _ (a7.2.2.2.1))).trans (a7.2.2.2.1)
           have HS4_ := (hb.cell (World.block_lt_of_cell? _ _ (a7.2.2.2.2.1))).trans (a7.2.2.2.2.1)
           have HS5_ := (hb.cell (World.block_lt_of_cell? _ _ (a7.2.2.2.2.2))).trans (a7.2.2.2.2.2)
           refine ⟨_, rfl, ?_⟩
           replace e1 := uV e1 hb
           replace f5 := uV f5 hb
           replace f6 := uV f6 hb
           have j1 := lV (ok' := fun k_ => some k_ ≠ (i2 : Value).ownBlock ∧ some k_ ≠ (.slice x4 e3.length x5 : Value).ownBlock ∧ some k_ ≠ (.slice (some i9) b4.length c7 : Value).ownBlock ∧ some k_ ≠ (.slice (some i9) b4.length c7 : Value).ownBlock ∧ some k_ ≠ (.slice (some g1) b3.length c9 : Value).ownBlock ∧ some k_ ≠ (.slice d1 c6.length d2 : Value).ownBlock ∧ k_ ≠ b8 ∧ k_ ≠ b0) i7
           have j2 := lV (ok' := fun k_ => some k_ ≠ (i2 : Value).ownBlock ∧ some k_ ≠ (.slice x4 e3.length x5 : Value).ownBlock ∧ some k_ ≠ (.slice (some i9) b4.length c7 : Value).ownBlock ∧ some k_ ≠ (.slice (some i9) b4.length c7 : Value).ownBlock ∧ some k_ ≠ (.slice (some g1) b3.length c9 : Value).ownBlock ∧ some k_ ≠ (.slice d1 c6.length d2 : Value).ownBlock ∧ k_ ≠ b8 ∧ k_ ≠ b0) k7
           replace c8 := uN c8 hb
           replace b7 := uN b7 hb
           replace e2 := uN e2 hb
           replace a6 := uN a6 hb
           replace a4 := uN a4 hb
           replace a5 := uN a5 hb
           replace b1 := uB b1 hb
           replace a8 := uB a8 hb
           replace d8 := uC d8 hb
           replace e5 := uC e5 hb
           replace e6 := uC e6 hb
           replace HB := uW hb
           (try clear hb)
           (try clear hb2)
           (try clear hk)
           (try clear hi)
           (try clear i7)
           (try clear k7)
           obtain ⟨E6, E7, B4⟩ := Kd.V_slice j1.out
           (first | subst B4 | (injection B4 with f1_ f2_ f3_; have f4_ := f1_.symm; have f5_ := f3_.symm; clear f1_ f2_ f3_; subst f4_; subst f5_))
           obtain ⟨E8, E9, B5⟩ := Kd.V_slice j2.out
           (first | subst B5 | (injection B5 with f1_ f2_ f3_; have f4_ := f1_.symm; have f5_ := f3_.symm; clear f1_ f2_ f3_; subst f4_; subst f5_))
           refine hK.out _ _ ⟨(blk_cell a8.out 0).trans rfl, (blk_cell a8.out 1).trans rfl, (blk_cell a8.out 2).trans rfl, HS3_, HS4_, HS5_⟩ (fun a7 => ?_)
           clear hK K
           refine norm_ (a' := ?_) ?_ ?_
           rotate_left
           ·
            show Act.put _ (some 65) _ = _
            exact aP
           refine oN 8 71 HT_ (fun K hK => ?_)
           refine gz Tryz.func21 #[.agg #[.bool r2, .slice E6 r3.length E7, .slice E8 r4.length E9], .agg #[.bool ((rd_T61 b3 b2).f0), .slice l6 ((rd_T61 b3 b2).f1).length l7, .slice l8 ((rd_T61 b3 b2).f2).length l9]] ?_
           with_reducible refine (checker_fraction_compare.calls k2 r2 _ _ r3 _ _ r4 ((rd_T61 b3 b2).f0) _ _ ((rd_T61 b3 b2).f1) _ _ ((rd_T61 b3 b2).f2) p4 _ ?side1 ?side2 ?side3 ?side4 ?side5 ?side6 ?side7 ?side8 A33.out).mono ?_
           (case side1 => exact pC ((Kd.V_reads' j1.out).2.2))
           (case side2 => exact (Kd.V_reads' j1.out).2.1)
           (case side3 => exact pC ((Kd.V_reads' j2.out).2.2))
           (case side4 => exact (Kd.V_reads' j2.out).2.1)
           (case side5 => exact pC e5.out)
           (case side6 => exact n6.out)
           (case side7 => exact pC e6.out)
           (case side8 => exact n7.out)
           rintro e M5 ⟨rfl, hb⟩
           have HS3_ := (hb.cell (World.block_lt_of_cell? _ _ (a7.2.2.2.1))).trans (a7.2.2.2.1)
           have HS4_ := (hb.cell (World.block_lt_of_cell? _ _ (a7.2.2.2.2.1))).trans (a7.2.2.2.2.1)
           have HS5_ := (hb.cell (World.block_lt_of_cell? _ _ (a7.2.2.2.2.2))).trans (a7.2.2.2.2.2)
           refine ⟨_, rfl, ?_⟩
           replace c8 := uN c8 hb
           replace b7 := uN b7 hb
           replace e2 := uN e2 hb
           replace a6 := uN a6 hb
           replace a4 := uN a4 hb
           replace a5 := uN a5 hb
           replace e1 := uV e1 hb
           replace f5 := uV f5 hb
           replace f6 := uV f6 hb
           replace j1 := uV j1 hb
           replace j2 := uV j2 hb
           replace b1 := uB b1 hb
           replace a8 := uB a8 hb
           replace d8 := uC d8 hb
           replace e5 := uC e5 hb
           replace e6 := uC e6 hb
           replace HB := uW hb
           (try clear hb)
           (try clear hb2)
           (try clear hk)
           (try clear hi)
           refine hK.out _ _ ⟨(blk_cell a8.out 0).trans rfl, (blk_cell a8.out 1).trans rfl, (blk_cell a8.out 2).trans rfl, HS3_, HS4_, HS5_⟩ (fun a7 => ?_)
           clear hK K
           refine norm_ (a' := ?_) ?_ ?_
           rotate_left
           ·
            show Act.put _ (some 71) _ = _
            exact aP
           refine pu 9 72 HT_ ?_
           refine done_ (done_of HT_.out (by kernel_rfl)) ?_
           try go_wp2
           go_roundg k2
           case measure => have := HJ7.out; have := HK2.out; omega
           case rel => exact ⟨(wrap64 (b2 + 1)), (by first | rfl | simp [*]), H', ⟨by have := HJ7.out; have := HK2.out; omega⟩, ⟨pN c8.out⟩, ⟨pN b7.out⟩, ⟨pN e2.out⟩, ⟨pN a6.out⟩, ⟨pN a4.out⟩, ⟨pN a5.out⟩, ⟨pB b1.out⟩, ⟨pB a8.out⟩, ⟨aB⟩⟩
         ·
          rw [if_neg A9] at H
          exact absurd H (by simp)
        ·
         rw [if_neg A8] at H
         exact absurd H (by simp)
       ·
        rw [if_neg A4] at H
        exact absurd H (by simp)
      ·
       rw [if_neg x0] at H
       have v8 : decide (b2 < (b4.length : Int)) = false := decide_eq_false x0
       clear x0
       obtain ⟨⟨d5, o9, n8, p0⟩, A47, H⟩ := bS H
       (try dsimp only at H)
       have H' := mk0 H
       clear H
       have I5 := k6.out
       have I6 := d0.out
       have t9 := cZ a8 0
       have u0 := cZ a8 1
       have u2 := cZ a8 2
       have u3 := blk_frozen a8.out 0
       have u4 := blk_frozen a8.out 1
       have u5 := blk_frozen a8.out 2
       obtain ⟨j3, g8, F0⟩ := Kd.N_slice c8.out
       subst F0
       go_wp2_with (first | (refine gc 22 ?_; refine gl 78 Tryz.func22 #[.agg #[.slice d3 b4.length c7, .slice d4 b3.length c9, .slice d1 c6.length d2], .int .i64 (b9.length : Int)] ?_; (with_reducible refine (checker_system_sums.calls k2 (fun k_ => (some k_ ≠ (.slice j3 b9.length g8 : Value).ownBlock ∧ (some k_ ≠ (f4 : Value).ownBlock ∧ (some k_ ≠ (.slice d4 b3.length c9 : Value).ownBlock ∧ (some k_ ≠ (.slice d1 c6.length d2 : Value).ownBlock ∧ (k_ ≠ b8 ∧ k_ ≠ b0)))))) _ _ b4 _ _ b3 _ _ c6 (b9.length : Int) d5 o9 n8 p0 _ ?side1 ?side2 ?side3 ?side4 ?side5 ?side6 A47.out).mono ?_); (case side1 => exact GW.below HG.out (aB)); (case side2 => exact Kd.V_mono (Kd.N_V (a6.out)) (fun k_ hk => by first | exact hk | (simp only [hk, ne_eq, not_false_eq_true, and_self]; done))); (case side3 => exact pC ((Kd.N_reads' a4.out).2.2)); (case side4 => exact (Kd.N_reads' a4.out).2.1); (case side5 => exact pC ((Kd.N_reads' a5.out).2.2)); (case side6 => exact (Kd.N_reads' a5.out).2.1); rintro e M6 ⟨B6, L0, L1, rfl, i7, k7, w5, hb⟩; refine ⟨_, rfl, ?_⟩; replace e2 := dN e2 (Kd.N_base i7) hb;replace a6 := dN a6 (Kd.N_base i7) hb;have q9 := mk0 (Kd.N_lower (Kd.N_mono (ok' := fun k_ => some k_ ≠ (.slice j3 b9.length g8 : Value).ownBlock ∧ some k_ ≠ (f4 : Value).ownBlock ∧ some k_ ≠ (.slice d4 b3.length c9 : Value).ownBlock ∧ some k_ ≠ (.slice d1 c6.length d2 : Value).ownBlock ∧ k_ ≠ b8 ∧ k_ ≠ b0) i7 (fun k_ hk_ => ⟨Or.elim hk_ (fun hs_ => hs_.1) (fun hn_ => (Kd.fresh' (Kd.N_lt (pN c8.out)) k_ hn_)), Or.elim hk_ (fun hs_ => hs_.2.1) (fun hn_ => (Kd.fresh' (Kd.N_lt (pN b7.out)) k_ hn_)), Or.elim hk_ (fun hs_ => hs_.2.2.1) (fun hn_ => (Kd.fresh' (Kd.N_lt (pN a4.out)) k_ hn_)), Or.elim hk_ (fun hs_ => hs_.2.2.2.1) (fun hn_ => (Kd.fresh' (Kd.N_lt (pN a5.out)) k_ hn_)), Or.elim hk_ (fun hs_ => hs_.2.2.2.2.1) (fun hn_ => (Kd.freshB (g := b8) (o := .cells #[.slice j9 g2.length k0] 40 (0, 0)) (pB b1.out) k_ hn_)), Or.elim hk_ (fun hs_ => hs_.2.2.2.2.2) (fun hn_ => (Kd.freshB (g := b0) (o := .cells #[.slice d3 b4.length c7, .slice d4 b3.length c9, .slice d1 c6.length d2] 69 (0, 0)) (pB a8.out) k_ hn_))⟩)) (below_size (aB)));have r0 := mk0 (Kd.V_lower (Kd.V_mono (ok' := fun k_ => some k_ ≠ (B6 : Value).ownBlock ∧ some k_ ≠ (.slice j3 b9.length g8 : Value).ownBlock ∧ some k_ ≠ (f4 : Value).ownBlock ∧ some k_ ≠ (.slice d4 b3.length c9 : Value).ownBlock ∧ some k_ ≠ (.slice d1 c6.length d2 : Value).ownBlock ∧ k_ ≠ b8 ∧ k_ ≠ b0) k7 (fun k_ hk_ => ⟨hk_.2, Or.elim hk_.1 (fun hs_ => hs_.1) (fun hn_ => (Kd.fresh' (Kd.N_lt (pN c8.out)) k_ hn_)), Or.elim hk_.1 (fun hs_ => hs_.2.1) (fun hn_ => (Kd.fresh' (Kd.N_lt (pN b7.out)) k_ hn_)), Or.elim hk_.1 (fun hs_ => hs_.2.2.1) (fun hn_ => (Kd.fresh' (Kd.N_lt (pN a4.out)) k_ hn_)), Or.elim hk_.1 (fun hs_ => hs_.2.2.2.1) (fun hn_ => (Kd.fresh' (Kd.N_lt (pN a5.out)) k_ hn_)), Or.elim hk_.1 (fun hs_ => hs_.2.2.2.2.1) (fun hn_ => (Kd.freshB (g := b8) (o := .cells #[.slice j9 g2.length k0] 40 (0, 0)) (pB b1.out) k_ hn_)), Or.elim hk_.1 (fun hs_ => hs_.2.2.2.2.2) (fun hn_ => (Kd.freshB (g := b0) (o := .cells #[.slice d3 b4.length c7, .slice d4 b3.length c9, .slice d1 c6.length d2] 69 (0, 0)) (pB a8.out) k_ hn_))⟩)) (below_size (aB)));have r1 := mk0 (Kd.V_lower (Kd.V_mono (ok' := fun k_ => some k_ ≠ (B6 : Value).ownBlock ∧ some k_ ≠ (.slice j3 b9.length g8 : Value).ownBlock ∧ some k_ ≠ (f4 : Value).ownBlock ∧ some k_ ≠ (.slice d4 b3.length c9 : Value).ownBlock ∧ some k_ ≠ (.slice d1 c6.length d2 : Value).ownBlock ∧ k_ ≠ b8 ∧ k_ ≠ b0) w5 (fun k_ hk_ => ⟨hk_.2, Or.elim hk_.1 (fun hs_ => hs_.1) (fun hn_ => (Kd.fresh' (Kd.N_lt (pN c8.out)) k_ hn_)), Or.elim hk_.1 (fun hs_ => hs_.2.1) (fun hn_ => (Kd.fresh' (Kd.N_lt (pN b7.out)) k_ hn_)), Or.elim hk_.1 (fun hs_ => hs_.2.2.1) (fun hn_ => (Kd.fresh' (Kd.N_lt (pN a4.out)) k_ hn_)), Or.elim hk_.1 (fun hs_ => hs_.2.2.2.1) (fun hn_ => (Kd.fresh' (Kd.N_lt (pN a5.out)) k_ hn_)), Or.elim hk_.1 (fun hs_ => hs_.2.2.2.2.1) (fun hn_ => (Kd.freshB (g := b8) (o := .cells #[.slice j9 g2.length k0] 40 (0, 0)) (pB b1.out) k_ hn_)), Or.elim hk_.1 (fun hs_ => hs_.2.2.2.2.2) (fun hn_ => (Kd.freshB (g := b0) (o := .cells #[.slice d3 b4.length c7, .slice d4 b3.length c9, .slice d1 c6.length d2] 69 (0, 0)) (pB a8.out) k_ hn_))⟩)) (below_size (aB)));replace c8 := dN c8 (Kd.N_base i7) hb;replace b7 := dN b7 (Kd.N_base i7) hb;replace a4 := dN a4 (Kd.N_base i7) hb;replace a5 := dN a5 (Kd.N_base i7) hb;replace b1 := uB b1 hb;replace a8 := uB a8 hb;replace HB := uW hb; (try clear hb); (try clear i7); (try clear k7); (try clear w5)) | (refine gd 18 ?_; (try (refine gate_guard (by rfl) ?_; dsimp only)); refine box_event ?hg (N := 18) ?hd (cs := #[.bool false, .slice none 0 0, .slice none 0 0]) (t := 61) ?hr ?_; (case hd => rfl); (case hg => rfl); (case hr => exact aH); intro e4 hg F1 hbox hb; replace c8 := eN c8 hg hb;replace b7 := eN b7 hg hb;replace e2 := eN e2 hg hb;replace a6 := eN a6 hg hb;replace a4 := eN a4 hg hb;replace a5 := eN a5 hg hb;replace q9 := eN q9 hg hb;replace r0 := eV r0 hg hb;replace r1 := eV r1 hg hb;have d6 := mk0 (hbox);have I7 := uG hg;have I8 := uG hg;replace HB := uW hb;have j7 := uL b1 hg;have r5 := uM b1 hg;replace b1 := uB b1 hb;have j8 := uL a8 hg;have r6 := uM a8 hg;replace a8 := uB a8 hb; clear hb hbox hg; have I9 := r5.out; have J0 := j7.out; have J1 := r6.out; have J2 := j8.out; have u6 : F1.cell? ⟨e4, 0, none⟩ = some (.bool false) := (blk_cell d6.out 0).trans rfl; have u7 : F1.cell? ⟨e4, 1, none⟩ = some (.slice none 0 0) := (blk_cell d6.out 1).trans rfl; have u9 : F1.cell? ⟨e4, 2, none⟩ = some (.slice none 0 0) := (blk_cell d6.out 2).trans rfl; have v0 := blk_frozen d6.out 0; have v2 := blk_frozen d6.out 1; have v3 := blk_frozen d6.out 2; obtain ⟨s8, s9, F2⟩ := Kd.V_slice r0.out; subst F2; obtain ⟨v4, v5, F3⟩ := Kd.V_slice r1.out; subst F3; obtain ⟨k8, k1, F4⟩ := Kd.N_slice q9.out; subst F4))
       go_loopg [83] k2 (fun kq L2 w' => ∃ (a9 : Int), L2 = .int .i64 a9 ∧ Aside0 (checker_Optimal.l1 kq b9 e3 d5 (d5.length : Int) a9 o9 n8 p0 = some r) ∧ Aside0 (kq ≤ k2) ∧ Aside0 (Kd.N k61 61 w' w.heap.size (fun k_ => some k_ ≠ (f4 : Value).ownBlock ∧ some k_ ≠ ((.slice k8 d5.length k1) : Value).ownBlock ∧ some k_ ≠ ((.slice d3 b4.length c7) : Value).ownBlock ∧ some k_ ≠ ((.slice d4 b3.length c9) : Value).ownBlock ∧ some k_ ≠ ((.slice d1 c6.length d2) : Value).ownBlock ∧ k_ ≠ b8 ∧ k_ ≠ b0 ∧ k_ ≠ e4) (.slice j3 b9.length g8) b9) ∧ Aside0 (Kd.N k61 61 w' w.heap.size (fun k_ => some k_ ≠ ((.slice j3 b9.length g8) : Value).ownBlock ∧ some k_ ≠ ((.slice k8 d5.length k1) : Value).ownBlock ∧ some k_ ≠ ((.slice d3 b4.length c7) : Value).ownBlock ∧ some k_ ≠ ((.slice d4 b3.length c9) : Value).ownBlock ∧ some k_ ≠ ((.slice d1 c6.length d2) : Value).ownBlock ∧ k_ ≠ b8 ∧ k_ ≠ b0 ∧ k_ ≠ e4) f4 e3) ∧ Aside0 (Kd.N k61 61 w' w.heap.size (fun k_ => some k_ ≠ ((.slice j3 b9.length g8) : Value).ownBlock ∧ some k_ ≠ (f4 : Value).ownBlock ∧ some k_ ≠ ((.slice d4 b3.length c9) : Value).ownBlock ∧ some k_ ≠ ((.slice d1 c6.length d2) : Value).ownBlock ∧ k_ ≠ b8 ∧ k_ ≠ b0 ∧ k_ ≠ e4) (.slice k8 d5.length k1) d5) ∧ Aside0 (Kd.N (Kd.slice 61 k61) 64 w' w.heap.size (fun k_ => some k_ ≠ ((.slice j3 b9.length g8) : Value).ownBlock ∧ some k_ ≠ (f4 : Value).ownBlock ∧ some k_ ≠ ((.slice k8 d5.length k1) : Value).ownBlock ∧ some k_ ≠ ((.slice d4 b3.length c9) : Value).ownBlock ∧ some k_ ≠ ((.slice d1 c6.length d2) : Value).ownBlock ∧ k_ ≠ b8 ∧ k_ ≠ b0 ∧ k_ ≠ e4) (.slice d3 b4.length c7) b4) ∧ Aside0 (Kd.N k61 61 w' w.heap.size (fun k_ => some k_ ≠ ((.slice j3 b9.length g8) : Value).ownBlock ∧ some k_ ≠ (f4 : Value).ownBlock ∧ some k_ ≠ ((.slice k8 d5.length k1) : Value).ownBlock ∧ some k_ ≠ ((.slice d3 b4.length c7) : Value).ownBlock ∧ some k_ ≠ ((.slice d1 c6.length d2) : Value).ownBlock ∧ k_ ≠ b8 ∧ k_ ≠ b0 ∧ k_ ≠ e4) (.slice d4 b3.length c9) b3) ∧ Aside0 (Kd.N k61 61 w' w.heap.size (fun k_ => some k_ ≠ ((.slice j3 b9.length g8) : Value).ownBlock ∧ some k_ ≠ (f4 : Value).ownBlock ∧ some k_ ≠ ((.slice k8 d5.length k1) : Value).ownBlock ∧ some k_ ≠ ((.slice d3 b4.length c7) : Value).ownBlock ∧ some k_ ≠ ((.slice d4 b3.length c9) : Value).ownBlock ∧ k_ ≠ b8 ∧ k_ ≠ b0 ∧ k_ ≠ e4) (.slice d1 c6.length d2) c6) ∧ Aside0 (Kd.V (Kd.int .u32) 107 w' w.heap.size (fun k_ => some k_ ≠ ((.slice j3 b9.length g8) : Value).ownBlock ∧ some k_ ≠ (f4 : Value).ownBlock ∧ some k_ ≠ ((.slice k8 d5.length k1) : Value).ownBlock ∧ some k_ ≠ ((.slice d4 b3.length c9) : Value).ownBlock ∧ some k_ ≠ ((.slice d1 c6.length d2) : Value).ownBlock ∧ k_ ≠ b8 ∧ k_ ≠ b0 ∧ k_ ≠ e4) (.slice s8 n8.length s9) n8) ∧ Aside0 (Kd.V (Kd.int .u32) 107 w' w.heap.size (fun k_ => some k_ ≠ ((.slice j3 b9.length g8) : Value).ownBlock ∧ some k_ ≠ (f4 : Value).ownBlock ∧ some k_ ≠ ((.slice k8 d5.length k1) : Value).ownBlock ∧ some k_ ≠ ((.slice d4 b3.length c9) : Value).ownBlock ∧ some k_ ≠ ((.slice d1 c6.length d2) : Value).ownBlock ∧ k_ ≠ b8 ∧ k_ ≠ b0 ∧ k_ ≠ e4) (.slice v4 p0.length v5) p0) ∧ Aside0 (w'.heap[b8]? = some (.cells #[(.slice j9 g2.length k0)] 40 (0, 0))) ∧ Aside0 (w'.heap[b0]? = some (.cells #[(.slice d3 b4.length c7), (.slice d4 b3.length c9), (.slice d1 c6.length d2)] 69 (0, 0))) ∧ Aside0 (w'.heap[e4]? = some (.cells #[.bool o9, (.slice s8 n8.length s9), (.slice v4 p0.length v5)] 61 (0, 0))) ∧ Aside0 (Below w.heap.size w w'))
       case atStart => exact ⟨(0), (by first | rfl | simp [*]), H', ⟨Nat.le_refl _⟩, ⟨sN c8.out⟩, ⟨sN b7.out⟩, ⟨sN q9.out⟩, ⟨sN a6.out⟩, ⟨sN a4.out⟩, ⟨sN a5.out⟩, ⟨sV r0.out⟩, ⟨sV r1.out⟩, ⟨by (with_reducible repeat (first | refine blk_drewN ?_ _ | refine blk_drew ?_ | refine blk_alloc ?_ _)); refine blk_far ?_ j7.out _; (with_reducible repeat (first | refine blk_drewN ?_ _ | refine blk_drew ?_ | refine blk_alloc ?_ _)); refine blk_far ?_ j7.out _; (with_reducible repeat (first | refine blk_drewN ?_ _ | refine blk_drew ?_ | refine blk_alloc ?_ _)); refine blk_far ?_ j7.out _; (with_reducible repeat (first | refine blk_drewN ?_ _ | refine blk_drew ?_ | refine blk_alloc ?_ _)); exact b1.out⟩, ⟨by (with_reducible repeat (first | refine blk_drewN ?_ _ | refine blk_drew ?_ | refine blk_alloc ?_ _)); refine blk_far ?_ j8.out _; (with_reducible repeat (first | refine blk_drewN ?_ _ | refine blk_drew ?_ | refine blk_alloc ?_ _)); refine blk_far ?_ j8.out _; (with_reducible repeat (first | refine blk_drewN ?_ _ | refine blk_drew ?_ | refine blk_alloc ?_ _)); refine blk_far ?_ j8.out _; (with_reducible repeat (first | refine blk_drewN ?_ _ | refine blk_drew ?_ | refine blk_alloc ?_ _)); exact a8.out⟩, ⟨by (with_reducible repeat (first | refine blk_drewN ?_ _ | refine blk_drew ?_ | refine blk_alloc ?_ _)); refine blk_put (cs := #[.bool o9, .slice s8 n8.length s9, .slice none 0 0]) ?_ 2 _ rfl; (with_reducible repeat (first | refine blk_drewN ?_ _ | refine blk_drew ?_ | refine blk_alloc ?_ _)); refine blk_put (cs := #[.bool o9, .slice none 0 0, .slice none 0 0]) ?_ 1 _ rfl; (with_reducible repeat (first | refine blk_drewN ?_ _ | refine blk_drew ?_ | refine blk_alloc ?_ _)); refine blk_put (cs := #[.bool false, .slice none 0 0, .slice none 0 0]) ?_ 0 _ rfl; (with_reducible repeat (first | refine blk_drewN ?_ _ | refine blk_drew ?_ | refine blk_alloc ?_ _)); exact d6.out⟩, ⟨aB⟩⟩
       case round =>
        clear H'
        try clear c2
        try clear p2
        try clear c3
        try clear c4
        try clear c5
        try clear p5
        try clear q5
        try clear hx5
        try clear p6
        try clear w6
        try clear w7
        try clear w8
        try clear x0
        try clear v8
        try clear A4
        try clear A8
        try clear A9
        try clear x1
        try clear v9
        try clear M7
        try clear M8
        try clear M9
        try clear N0
        try clear hx52
        try clear N1
        try clear N2
        try clear N3
        try clear hx53
        try clear N4
        try clear t9
        try clear u0
        try clear u2
        try clear u6
        try clear u7
        try clear u9
        try clear u3
        try clear u4
        try clear u5
        try clear v0
        try clear v2
        try clear v3
        try clear k9
        try clear j6
        try clear g6
        try clear g7
        try clear n0
        try clear n2
        try clear n1
        try clear n3
        obtain ⟨a9, rfl, HA, HK3, c8, b7, d7, a6, a4, a5, b5, b6, b1, a8, d6, HB⟩ := hrel
        cases gk with
        | zero => exact absurd HA.out (by simp [checker_Optimal.l1])
        | succ k3 =>
         have H := HA.out
         clear HA
         simp only [checker_Optimal.l1] at H
         by_cases z3 : a9 < (d5.length : Int)
         ·
          rw [if_pos z3] at H
          have B7 : decide (a9 < (d5.length : Int)) = true := decide_eq_true z3
          clear z3
          by_cases D0 : 0 ≤ a9
          ·
           rw [if_pos D0] at H
           have J3 : decide (0 ≤ a9) = true := decide_eq_true D0
           clear D0
           by_cases D1 : a9 < (d5.length : Int)
           ·
            rw [if_pos D1] at H
            have J4 : decide (a9 < (d5.length : Int)) = true := decide_eq_true D1
            clear D1
            by_cases D2 : a9 < (b9.length : Int)
            ·
             rw [if_pos D2] at H
             have J5 : decide (a9 < (b9.length : Int)) = true := decide_eq_true D2
             clear D2
             obtain ⟨⟨r7, r8, r9⟩, A63, H⟩ := bS H
             (try dsimp only at H)
             obtain ⟨n4, A64, H⟩ := bS H
             by_cases x6 : n4 = 0
             ·
              rw [if_pos x6] at H
              have B8 : (n4 == 0) = true := beq_iff_eq.mpr x6
              have C0 : (n4 != 0) = false := bne_eq_false_iff_eq.mpr x6
              clear x6
              have H' := mk0 H
              clear H
              try go_wp2
              replace c8 := mk0 (Kd.N_drew c8.out)
              replace b7 := mk0 (Kd.N_drew b7.out)
              replace d7 := mk0 (Kd.N_drew d7.out)
              replace a6 := mk0 (Kd.N_drew a6.out)
              replace a4 := mk0 (Kd.N_drew a4.out)
              replace a5 := mk0 (Kd.N_drew a5.out)
              replace b5 := mk0 (Kd.V_drew b5.out)
              replace b6 := mk0 (Kd.V_drew b6.out)
              replace b1 := mk0 (blk_drew b1.out)
              replace a8 := mk0 (blk_drew a8.out)
              replace d6 := mk0 (blk_drew d6.out)
              replace HB := mk0 (below_drew1 HB.out)
              have n9 : 0 ≤ (a9 : Int) := aD
              have o1 : a9 < (d5.length : Int) := aD
              obtain ⟨g4, m0, m1, m2, m3, e559, k4, i3, i4, hl559_1, hi559_1, hl559_2, hi559_2⟩ := at_T61 (Kd.N_reads' d7.out).2.2 a9 n9 o1
              cases e559
              obtain ⟨ce559, hce559, hMe559, hcc559⟩ := Kd.N_get d7.out z61 a9 n9 (by first | exact o1 | exact aD | (have e_ := (Kd.N_reads' d7.out).1; omega))
              obtain ⟨ua559_1, uc559_1, ua559_2, uc559_2, rfl, ul559_1, ge559_1, ul559_2, ge559_2⟩ := k61_openF hMe559
              have hv559_1 := hcc559 1 _ rfl
              rw [add_field _ _ 1 (by omega)] at hv559_1
              replace hv559_1 := Option.some.inj (hv559_1.symm.trans i3)
              injection hv559_1 with hva_ hvn_ hvc_
              rw [hva_] at ge559_1
              rw [hvc_] at ul559_1
              have f7 := mk0 (show Kd.V (Kd.int .u32) 107 _ w.heap.size _ _ ((rd_T61 d5 a9).f1) from Kd.V_mk ul559_1 ge559_1)
              clear hva_ hvn_ hvc_ ge559_1 ul559_1
              have hv559_2 := hcc559 2 _ rfl
              rw [add_field _ _ 2 (by omega)] at hv559_2
              replace hv559_2 := Option.some.inj (hv559_2.symm.trans i4)
              injection hv559_2 with hva_ hvn_ hvc_
              rw [hva_] at ge559_2
              rw [hvc_] at ul559_2
              have f8 := mk0 (show Kd.V (Kd.int .u32) 107 _ w.heap.size _ _ ((rd_T61 d5 a9).f2) from Kd.V_mk ul559_2 ge559_2)
              clear hva_ hvn_ hvc_ ge559_2 ul559_2
              clear hcc559 hce559
              have e7 := mk0 hi559_1
              have o2 := mk0 hl559_1
              clear hi559_1 hl559_1
              have e8 := mk0 hi559_2
              have o3 := mk0 hl559_2
              clear hi559_2 hl559_2
              replace n9 := eq_true n9
              replace o1 := eq_true o1
              have o4 : 0 ≤ (a9 : Int) := aD
              have o5 : a9 < (b9.length : Int) := aD
              obtain ⟨g5, m4, m5, m6, m7, e560, k5, i5, i6, hl560_1, hi560_1, hl560_2, hi560_2⟩ := at_T61 (Kd.N_reads' c8.out).2.2 a9 o4 o5
              cases e560
              obtain ⟨ce560, hce560, hMe560, hcc560⟩ := Kd.N_get c8.out z61 a9 o4 (by first | exact o5 | exact aD | (have e_ := (Kd.N_reads' c8.out).1; omega))
              obtain ⟨ua560_1, uc560_1, ua560_2, uc560_2, rfl, ul560_1, ge560_1, ul560_2, ge560_2⟩ := k61_openF hMe560
              have hv560_1 := hcc560 1 _ rfl
              rw [add_field _ _ 1 (by omega)] at hv560_1
              replace hv560_1 := Option.some.inj (hv560_1.symm.trans i5)
              injection hv560_1 with hva_ hvn_ hvc_
              rw [hva_] at ge560_1
              rw [hvc_] at ul560_1
              have f9 := mk0 (show Kd.V (Kd.int .u32) 107 _ w.heap.size _ _ ((rd_T61 b9 a9).f1) from Kd.V_mk ul560_1 ge560_1)
              clear hva_ hvn_ hvc_ ge560_1 ul560_1
              have hv560_2 := hcc560 2 _ rfl
              rw [add_field _ _ 2 (by omega)] at hv560_2
              replace hv560_2 := Option.some.inj (hv560_2.symm.trans i6)
              injection hv560_2 with hva_ hvn_ hvc_
              rw [hva_] at ge560_2
              rw [hvc_] at ul560_2
              have g0 := mk0 (show Kd.V (Kd.int .u32) 107 _ w.heap.size _ _ ((rd_T61 b9 a9).f2) from Kd.V_mk ul560_2 ge560_2)
              clear hva_ hvn_ hvc_ ge560_2 ul560_2
              clear hcc560 hce560
              have e9 := mk0 hi560_1
              have o6 := mk0 hl560_1
              clear hi560_1 hl560_1
              have f3 := mk0 hi560_2
              have o7 := mk0 hl560_2
              clear hi560_2 hl560_2
              replace o4 := eq_true o4
              replace o5 := eq_true o5
              refine start_ (n := 11) (S := fun w' => w'.cell? (g4.add ((a9).toNat * 3)) = some (.bool ((rd_T61 d5 a9).f0)) ∧ w'.cell? ⟨(g4.add ((a9).toNat * 3)).block, (g4.add ((a9).toNat * 3)).off + 1, none⟩ = some (.slice m0 ((rd_T61 d5 a9).f1).length m1) ∧ w'.cell? ⟨(g4.add ((a9).toNat * 3)).block, (g4.add ((a9).toNat * 3)).off + 2, none⟩ = some (.slice m2 ((rd_T61 d5 a9).f2).length m3) ∧ w'.cell? (g5.add ((a9).toNat * 3)) = some (.bool ((rd_T61 b9 a9).f0)) ∧ w'.cell? ⟨(g5.add ((a9).toNat * 3)).block, (g5.add ((a9).toNat * 3)).off + 1, none⟩ = some (.slice m4 ((rd_T61 b9 a9).f1).length m5) ∧ w'.cell? ⟨(g5.add ((a9).toNat * 3)).block, (g5.add ((a9).toNat * 3)).off + 2, none⟩ = some (.slice m6 ((rd_T61 b9 a9).f2).length m7)) (ds := []) #[false, false, false, false, false, false, false, false, false, false, false] (by kernel_rfl) rfl rfl ⟨k4, i3, i4, k5, i5, i6⟩ (fun a7 => ?_); refine with_tabW checker_Optimal.tab16 checker_Optimal.bits16 (fun HT_ HW_ => ?_)
              generalize wr.drew = N5 at c8 b7 d7 a6 a4 a5 b5 b6 b1 a8 d6 HB f7 f8 f9 g0 e7 e8 e9 f3 k4 i3 i4 k5 i5 i6 a7 ⊢
              refine pu 0 86 HT_ ?_
              refine pu 1 87 HT_ ?_
              refine pu 2 88 HT_ ?_
              refine pu 4 90 HT_ ?_
              refine pu 5 91 HT_ ?_
              refine pu 6 92 HT_ ?_
              refine tk 3 89 HT_ HW_ a7 ?_
              refine tk 7 93 HT_ HW_ a7 ?_
              refine oN 8 94 HT_ (fun K hK => ?_)
              refine gz Tryz.func23 #[.agg #[.bool ((rd_T61 d5 a9).f0), .slice m0 ((rd_T61 d5 a9).f1).length m1, .slice m2 ((rd_T61 d5 a9).f2).length m3], .agg #[.bool ((rd_T61 b9 a9).f0), .slice m4 ((rd_T61 b9 a9).f1).length m5, .slice m6 ((rd_T61 b9 a9).f2).length m7]] ?_
              with_reducible refine (checker_fraction_add.calls k3 ((rd_T61 d5 a9).f0) _ _ ((rd_T61 d5 a9).f1) _ _ ((rd_T61 d5 a9).f2) ((rd_T61 b9 a9).f0) _ _ ((rd_T61 b9 a9).f1) _ _ ((rd_T61 b9 a9).f2) r7 r8 r9 _ ?side1 ?side2 ?side3 ?side4 ?side5 ?side6 ?side7 ?side8 A63.out).mono ?_
              (case side1 => exact pC e7.out)
              (case side2 => exact o2.out)
              (case side3 => exact pC e8.out)
              (case side4 => exact o3.out)
              (case side5 => exact pC e9.out)
              (case side6 => exact o6.out)
              (case side7 => exact pC f3.out)
              (case side8 => exact o7.out)
              rintro e N6 ⟨F5, F6, rfl, i7, k7, hb⟩
              have HS0_ := (hb.cell (World.block_lt_of_cell? _ _ (a7.1))).trans (a7.1)
              have HS1_ := (hb.cell (World.block_lt_of_cell? _ _ (a7.2.1))).trans (a7.2.1)
              have HS2_ := (hb.cell (World.block_lt_of_cell? _ _ (a7.2.2.1))).trans (a7.2.2.1)
              have HS3_ := (hb.cell (World.block_lt_of_cell? _ _ (a7.2.2.2.1))).trans (a7.2.2.2.1)
              have HS4_ := (hb.cell (World.block_lt_of_cell? _ _ (a7.2.2.2.2.1))).trans (a7.2.2.2.2.1)
              have HS5_ := (hb.cell (World.block_lt_of_cell? _ _ (a7.2.2.2.2.2))).trans (a7.2.2.2.2.2)
              refine ⟨_, rfl, ?_⟩
              replace b5 := uV b5 hb
              replace b6 := uV b6 hb
              replace f7 := uV f7 hb
              replace f8 := uV f8 hb
              replace f9 := uV f9 hb
              replace g0 := uV g0 hb
              have j4 := lV (ok' := fun k_ => some k_ ≠ (.slice (some g5) b9.length g8 : Value).ownBlock ∧ some k_ ≠ (f4 : Value).ownBlock ∧ some k_ ≠ (.slice (some g4) d5.length k1 : Value).ownBlock ∧ some k_ ≠ (.slice d3 b4.length c7 : Value).ownBlock ∧ some k_ ≠ (.slice d4 b3.length c9 : Value).ownBlock ∧ some k_ ≠ (.slice d1 c6.length d2 : Value).ownBlock ∧ k_ ≠ b8 ∧ k_ ≠ b0 ∧ k_ ≠ e4) i7
              have j5 := lV (ok' := fun k_ => some k_ ≠ (.slice (some g5) b9.length g8 : Value).ownBlock ∧ some k_ ≠ (f4 : Value).ownBlock ∧ some k_ ≠ (.slice (some g4) d5.length k1 : Value).ownBlock ∧ some k_ ≠ (.slice d3 b4.length c7 : Value).ownBlock ∧ some k_ ≠ (.slice d4 b3.length c9 : Value).ownBlock ∧ some k_ ≠ (.slice d1 c6.length d2 : Value).ownBlock ∧ k_ ≠ b8 ∧ k_ ≠ b0 ∧ k_ ≠ e4) k7
              replace c8 := uN c8 hb
              replace b7 := uN b7 hb
              replace d7 := uN d7 hb
              replace a6 := uN a6 hb
              replace a4 := uN a4 hb
              replace a5 := uN a5 hb
              replace b1 := uB b1 hb
              replace a8 := uB a8 hb
              replace d6 := uB d6 hb
              replace e7 := uC e7 hb
              replace e8 := uC e8 hb
              replace e9 := uC e9 hb
              replace f3 := uC f3 hb
              replace HB := uW hb
              (try clear hb)
              (try clear hb2)
              (try clear hk)
              (try clear hi)
              (try clear i7)
              (try clear k7)
              obtain ⟨F7, F8, C1⟩ := Kd.V_slice j4.out
              (first | subst C1 | (injection C1 with f1_ f2_ f3_; have f4_ := f1_.symm; have f5_ := f3_.symm; clear f1_ f2_ f3_; subst f4_; subst f5_))
              obtain ⟨F9, G0, C2⟩ := Kd.V_slice j5.out
              (first | subst C2 | (injection C2 with f1_ f2_ f3_; have f4_ := f1_.symm; have f5_ := f3_.symm; clear f1_ f2_ f3_; subst f4_; subst f5_))
              refine hK.out _ _ ⟨HS0_, HS1_, HS2_, HS3_, HS4_, HS5_⟩ (fun a7 => ?_)
              clear hK K
              refine norm_ (a' := ?_) ?_ ?_
              rotate_left
              ·
               show Act.put _ (some 94) _ = _
               exact aP
              refine oN 9 95 HT_ (fun K hK => ?_)
              refine gz Tryz.func24 #[.agg #[.bool r7, .slice F7 r8.length F8, .slice F9 r9.length G0]] ?_
              with_reducible refine (checker_fraction_sign.calls r7 _ _ r8 _ _ r9 n4 _ ?side1 ?side2 ?side3 ?side4 A64.out).mono ?_
              (case side1 => exact pC ((Kd.V_reads' j4.out).2.2))
              (case side2 => exact (Kd.V_reads' j4.out).2.1)
              (case side3 => exact pC ((Kd.V_reads' j5.out).2.2))
              (case side4 => exact (Kd.V_reads' j5.out).2.1)
              rintro e N7 ⟨rfl, hb⟩
              have HS0_ := (hb.cell (World.block_lt_of_cell? _ _ (a7.1))).trans (a7.1)
              have HS1_ := (hb.cell (World.block_lt_of_cell? _ _ (a7.2.1))).trans (a7.2.1)
              have HS2_ := (hb.cell (World.block_lt_of_cell? _ _ (a7.2.2.1))).trans (a7.2.2.1)
              have HS3_ := (hb.cell (World.block_lt_of_cell? _ _ (a7.2.2.2.1))).trans (a7.2.2.2.1)
              have HS4_ := (hb.cell (World.block_lt_of_cell? _ _ (a7.2.2.2.2.1))).trans (a7.2.2.2.2.1)
              have HS5_ := (hb.cell (World.block_lt_of_cell? _ _ (a7.2.2.2.2.2))).trans (a7.2.2.2.2.2)
              refine ⟨_, rfl, ?_⟩
              replace c8 := uN c8 hb
              replace b7 := uN b7 hb
              replace d7 := uN d7 hb
              replace a6 := uN a6 hb
              replace a4 := uN a4 hb
              replace a5 := uN a5 hb
              replace b5 := uV b5 hb
              replace b6 := uV b6 hb
              replace f7 := uV f7 hb
              replace f8 := uV f8 hb
              replace f9 := uV f9 hb
              replace g0 := uV g0 hb
              replace j4 := uV j4 hb
              replace j5 := uV j5 hb
              replace b1 := uB b1 hb
              replace a8 := uB a8 hb
              replace d6 := uB d6 hb
              replace e7 := uC e7 hb
              replace e8 := uC e8 hb
              replace e9 := uC e9 hb
              replace f3 := uC f3 hb
              replace HB := uW hb
              (try clear hb)
              (try clear hb2)
              (try clear hk)
              (try clear hi)
              refine hK.out _ _ ⟨HS0_, HS1_, HS2_, HS3_, HS4_, HS5_⟩ (fun a7 => ?_)
              clear hK K
              refine norm_ (a' := ?_) ?_ ?_
              rotate_left
              ·
               show Act.put _ (some 95) _ = _
               exact aP
              refine pu 10 96 HT_ ?_
              refine done_ (done_of HT_.out (by kernel_rfl)) ?_
              try go_wp2
              go_roundg k3
              case measure => have := HJ7.out; have := HK2.out; have := HK3.out; omega
              case rel => exact ⟨(wrap64 (a9 + 1)), (by first | rfl | simp [*]), H', ⟨by have := HJ7.out; have := HK2.out; have := HK3.out; omega⟩, ⟨pN c8.out⟩, ⟨pN b7.out⟩, ⟨pN d7.out⟩, ⟨pN a6.out⟩, ⟨pN a4.out⟩, ⟨pN a5.out⟩, ⟨pV b5.out⟩, ⟨pV b6.out⟩, ⟨pB b1.out⟩, ⟨pB a8.out⟩, ⟨pB d6.out⟩, ⟨aB⟩⟩
             ·
              rw [if_neg x6] at H
              have B8 : (n4 == 0) = false := beq_eq_false_iff_ne.mpr x6
              have C0 : (n4 != 0) = true := bne_iff_ne.mpr x6
              obtain rfl := Option.some.inj H
              try go_wp2
              replace c8 := mk0 (Kd.N_drew c8.out)
              replace b7 := mk0 (Kd.N_drew b7.out)
              replace d7 := mk0 (Kd.N_drew d7.out)
              replace a6 := mk0 (Kd.N_drew a6.out)
              replace a4 := mk0 (Kd.N_drew a4.out)
              replace a5 := mk0 (Kd.N_drew a5.out)
              replace b5 := mk0 (Kd.V_drew b5.out)
              replace b6 := mk0 (Kd.V_drew b6.out)
              replace b1 := mk0 (blk_drew b1.out)
              replace a8 := mk0 (blk_drew a8.out)
              replace d6 := mk0 (blk_drew d6.out)
              replace HB := mk0 (below_drew1 HB.out)
              have n9 : 0 ≤ (a9 : Int) := aD
              have o1 : a9 < (d5.length : Int) := aD
              obtain ⟨g4, m0, m1, m2, m3, e559, k4, i3, i4, hl559_1, hi559_1, hl559_2, hi559_2⟩ := at_T61 (Kd.N_reads' d7.out).2.2 a9 n9 o1
              cases e559
              obtain ⟨ce559, hce559, hMe559, hcc559⟩ := Kd.N_get d7.out z61 a9 n9 (by first | exact o1 | exact aD | (have e_ := (Kd.N_reads' d7.out).1; omega))
              obtain ⟨ua559_1, uc559_1, ua559_2, uc559_2, rfl, ul559_1, ge559_1, ul559_2, ge559_2⟩ := k61_openF hMe559
              have hv559_1 := hcc559 1 _ rfl
              rw [add_field _ _ 1 (by omega)] at hv559_1
              replace hv559_1 := Option.some.inj (hv559_1.symm.trans i3)
              injection hv559_1 with hva_ hvn_ hvc_
              rw [hva_] at ge559_1
              rw [hvc_] at ul559_1
              have f7 := mk0 (show Kd.V (Kd.int .u32) 107 _ w.heap.size _ _ ((rd_T61 d5 a9).f1) from Kd.V_mk ul559_1 ge559_1)
              clear hva_ hvn_ hvc_ ge559_1 ul559_1
              have hv559_2 := hcc559 2 _ rfl
              rw [add_field _ _ 2 (by omega)] at hv559_2
              replace hv559_2 := Option.some.inj (hv559_2.symm.trans i4)
              injection hv559_2 with hva_ hvn_ hvc_
              rw [hva_] at ge559_2
              rw [hvc_] at ul559_2
              have f8 := mk0 (show Kd.V (Kd.int .u32) 107 _ w.heap.size _ _ ((rd_T61 d5 a9).f2) from Kd.V_mk ul559_2 ge559_2)
              clear hva_ hvn_ hvc_ ge559_2 ul559_2
              clear hcc559 hce559
              have e7 := mk0 hi559_1
              have o2 := mk0 hl559_1
              clear hi559_1 hl559_1
              have e8 := mk0 hi559_2
              have o3 := mk0 hl559_2
              clear hi559_2 hl559_2
              replace n9 := eq_true n9
              replace o1 := eq_true o1
              have o4 : 0 ≤ (a9 : Int) := aD
              have o5 : a9 < (b9.length : Int) := aD
              obtain ⟨g5, m4, m5, m6, m7, e560, k5, i5, i6, hl560_1, hi560_1, hl560_2, hi560_2⟩ := at_T61 (Kd.N_reads' c8.out).2.2 a9 o4 o5
              cases e560
              obtain ⟨ce560, hce560, hMe560, hcc560⟩ := Kd.N_get c8.out z61 a9 o4 (by first | exact o5 | exact aD | (have e_ := (Kd.N_reads' c8.out).1; omega))
              obtain ⟨ua560_1, uc560_1, ua560_2, uc560_2, rfl, ul560_1, ge560_1, ul560_2, ge560_2⟩ := k61_openF hMe560
              have hv560_1 := hcc560 1 _ rfl
              rw [add_field _ _ 1 (by omega)] at hv560_1
              replace hv560_1 := Option.some.inj (hv560_1.symm.trans i5)
              injection hv560_1 with hva_ hvn_ hvc_
              rw [hva_] at ge560_1
              rw [hvc_] at ul560_1
              have f9 := mk0 (show Kd.V (Kd.int .u32) 107 _ w.heap.size _ _ ((rd_T61 b9 a9).f1) from Kd.V_mk ul560_1 ge560_1)
              clear hva_ hvn_ hvc_ ge560_1 ul560_1
              have hv560_2 := hcc560 2 _ rfl
              rw [add_field _ _ 2 (by omega)] at hv560_2
              replace hv560_2 := Option.some.inj (hv560_2.symm.trans i6)
              injection hv560_2 with hva_ hvn_ hvc_
              rw [hva_] at ge560_2
              rw [hvc_] at ul560_2
              have g0 := mk0 (show Kd.V (Kd.int .u32) 107 _ w.heap.size _ _ ((rd_T61 b9 a9).f2) from Kd.V_mk ul560_2 ge560_2)
              clear hva_ hvn_ hvc_ ge560_2 ul560_2
              clear hcc560 hce560
              have e9 := mk0 hi560_1
              have o6 := mk0 hl560_1
              clear hi560_1 hl560_1
              have f3 := mk0 hi560_2
              have o7 := mk0 hl560_2
              clear hi560_2 hl560_2
              replace o4 := eq_true o4
              replace o5 := eq_true o5
              refine start_ (n := 11) (S := fun w' => w'.cell? (g4.add ((a9).toNat * 3)) = some (.bool ((rd_T61 d5 a9).f0)) ∧ w'.cell? ⟨(g4.add ((a9).toNat * 3)).block, (g4.add ((a9).toNat * 3)).off + 1, none⟩ = some (.slice m0 ((rd_T61 d5 a9).f1).length m1) ∧ w'.cell? ⟨(g4.add ((a9).toNat * 3)).block, (g4.add ((a9).toNat * 3)).off + 2, none⟩ = some (.slice m2 ((rd_T61 d5 a9).f2).length m3) ∧ w'.cell? (g5.add ((a9).toNat * 3)) = some (.bool ((rd_T61 b9 a9).f0)) ∧ w'.cell? ⟨(g5.add ((a9).toNat * 3)).block, (g5.add ((a9).toNat * 3)).off + 1, none⟩ = some (.slice m4 ((rd_T61 b9 a9).f1).length m5) ∧ w'.cell? ⟨(g5.add ((a9).toNat * 3)).block, (g5.add ((a9).toNat * 3)).off + 2, none⟩ = some (.slice m6 ((rd_T61 b9 a9).f2).length m7)) (ds := []) #[false, false, false, false, false, false, false, false, false, false, false] (by kernel_rfl) rfl rfl ⟨k4, i3, i4, k5, i5, i6⟩ (fun a7 => ?_); refine with_tabW checker_Optimal.tab16 checker_Optimal.bits16 (fun HT_ HW_ => ?_)
              generalize wr.drew = N8 at c8 b7 d7 a6 a4 a5 b5 b6 b1 a8 d6 HB f7 f8 f9 g0 e7 e8 e9 f3 k4 i3 i4 k5 i5 i6 a7 ⊢
              refine pu 0 86 HT_ ?_
              refine pu 1 87 HT_ ?_
              refine pu 2 88 HT_ ?_
              refine pu 4 90 HT_ ?_
              refine pu 5 91 HT_ ?_
              refine pu 6 92 HT_ ?_
              refine tk 3 89 HT_ HW_ a7 ?_
              refine tk 7 93 HT_ HW_ a7 ?_
              refine oN 8 94 HT_ (fun K hK => ?_)
              refine gz Tryz.func23 #[.agg #[.bool ((rd_T61 d5 a9).f0), .slice m0 ((rd_T61 d5 a9).f1).length m1, .slice m2 ((rd_T61 d5 a9).f2).length m3], .agg #[.bool ((rd_T61 b9 a9).f0), .slice m4 ((rd_T61 b9 a9).f1).length m5, .slice m6 ((rd_T61 b9 a9).f2).length m7]] ?_
              with_reducible refine (checker_fraction_add.calls k3 ((rd_T61 d5 a9).f0) _ _ ((rd_T61 d5 a9).f1) _ _ ((rd_T61 d5 a9).f2) ((rd_T61 b9 a9).f0) _ _ ((rd_T61 b9 a9).f1) _ _ ((rd_T61 b9 a9).f2) r7 r8 r9 _ ?side1 ?side2 ?side3 ?side4 ?side5 ?side6 ?side7 ?side8 A63.out).mono ?_
              (case side1 => exact pC e7.out)
              (case side2 => exact o2.out)
              (case side3 => exact pC e8.out)
              (case side4 => exact o3.out)
              (case side5 => exact pC e9.out)
              (case side6 => exact o6.out)
              (case side7 => exact pC f3.out)
              (case side8 => exact o7.out)
              rintro e N9 ⟨F5, F6, rfl, i7, k7, hb⟩
              have HS0_ := (hb.cell (World.block_lt_of_cell? _ _ (a7.1))).trans (a7.1)
              have HS1_ := (hb.cell (World.block_lt_of_cell? _ _ (a7.2.1))).trans (a7.2.1)
              have HS2_ := (hb.cell (World.block_lt_of_cell? _ _ (a7.2.2.1))).trans (a7.2.2.1)
              have HS3_ := (hb.cell (World.block_lt_of_cell? _ _ (a7.2.2.2.1))).trans (a7.2.2.2.1)
              have HS4_ := (hb.cell (World.block_lt_of_cell? _ _ (a7.2.2.2.2.1))).trans (a7.2.2.2.2.1)
              have HS5_ := (hb.cell (World.block_lt_of_cell? _ _ (a7.2.2.2.2.2))).trans (a7.2.2.2.2.2)
              refine ⟨_, rfl, ?_⟩
              replace b5 := uV b5 hb
              replace b6 := uV b6 hb
              replace f7 := uV f7 hb
              replace f8 := uV f8 hb
              replace f9 := uV f9 hb
              replace g0 := uV g0 hb
              have j4 := lV (ok' := fun k_ => some k_ ≠ (.slice (some g5) b9.length g8 : Value).ownBlock ∧ some k_ ≠ (f4 : Value).ownBlock ∧ some k_ ≠ (.slice (some g4) d5.length k1 : Value).ownBlock ∧ some k_ ≠ (.slice d3 b4.length c7 : Value).ownBlock ∧ some k_ ≠ (.slice d4 b3.length c9 : Value).ownBlock ∧ some k_ ≠ (.slice d1 c6.length d2 : Value).ownBlock ∧ k_ ≠ b8 ∧ k_ ≠ b0 ∧ k_ ≠ e4) i7
              have j5 := lV (ok' := fun k_ => some k_ ≠ (.slice (some g5) b9.length g8 : Value).ownBlock ∧ some k_ ≠ (f4 : Value).ownBlock ∧ some k_ ≠ (.slice (some g4) d5.length k1 : Value).ownBlock ∧ some k_ ≠ (.slice d3 b4.length c7 : Value).ownBlock ∧ some k_ ≠ (.slice d4 b3.length c9 : Value).ownBlock ∧ some k_ ≠ (.slice d1 c6.length d2 : Value).ownBlock ∧ k_ ≠ b8 ∧ k_ ≠ b0 ∧ k_ ≠ e4) k7
              replace c8 := uN c8 hb
              replace b7 := uN b7 hb
              replace d7 := uN d7 hb
              replace a6 := uN a6 hb
              replace a4 := uN a4 hb
              replace a5 := uN a5 hb
              replace b1 := uB b1 hb
              replace a8 := uB a8 hb
              replace d6 := uB d6 hb
              replace e7 := uC e7 hb
              replace e8 := uC e8 hb
              replace e9 := uC e9 hb
              replace f3 := uC f3 hb
              replace HB := uW hb
              (try clear hb)
              (try clear hb2)
              (try clear hk)
              (try clear hi)
              (try clear i7)
              (try clear k7)
              obtain ⟨G1, G2, C3⟩ := Kd.V_slice j4.out
              (first | subst C3 | (injection C3 with f1_ f2_ f3_; have f4_ := f1_.symm; have f5_ := f3_.symm; clear f1_ f2_ f3_; subst f4_; subst f5_))
              obtain ⟨G3, G4, C4⟩ := Kd.V_slice j5.out
              (first | subst C4 | (injection C4 with f1_ f2_ f3_; have f4_ := f1_.symm; have f5_ := f3_.symm; clear f1_ f2_ f3_; subst f4_; subst f5_))
              refine hK.out _ _ ⟨HS0_, HS1_, HS2_, HS3_, HS4_, HS5_⟩ (fun a7 => ?_)
              clear hK K
              refine norm_ (a' := ?_) ?_ ?_
              rotate_left
              ·
               show Act.put _ (some 94) _ = _
               exact aP
              refine oN 9 95 HT_ (fun K hK => ?_)
              refine gz Tryz.func24 #[.agg #[.bool r7, .slice G1 r8.length G2, .slice G3 r9.length G4]] ?_
              with_reducible refine (checker_fraction_sign.calls r7 _ _ r8 _ _ r9 n4 _ ?side1 ?side2 ?side3 ?side4 A64.out).mono ?_
              (case side1 => exact pC ((Kd.V_reads' j4.out).2.2))
              (case side2 => exact (Kd.V_reads' j4.out).2.1)
              (case side3 => exact pC ((Kd.V_reads' j5.out).2.2))
              (case side4 => exact (Kd.V_reads' j5.out).2.1)
              rintro e O0 ⟨rfl, hb⟩
              have HS0_ := (hb.cell (World.block_lt_of_cell? _ _ (a7.1))).trans (a7.1)
              have HS1_ := (hb.cell (World.block_lt_of_cell? _ _ (a7.2.1))).trans (a7.2.1)
              have HS2_ := (hb.cell (World.block_lt_of_cell? _ _ (a7.2.2.1))).trans (a7.2.2.1)
              have HS3_ := (hb.cell (World.block_lt_of_cell? _ _ (a7.2.2.2.1))).trans (a7.2.2.2.1)
              have HS4_ := (hb.cell (World.block_lt_of_cell? _ _ (a7.2.2.2.2.1))).trans (a7.2.2.2.2.1)
              have HS5_ := (hb.cell (World.block_lt_of_cell? _ _ (a7.2.2.2.2.2))).trans (a7.2.2.2.2.2)
              refine ⟨_, rfl, ?_⟩
              replace c8 := uN c8 hb
              replace b7 := uN b7 hb
              replace d7 := uN d7 hb
              replace a6 := uN a6 hb
              replace a4 := uN a4 hb
              replace a5 := uN a5 hb
              replace b5 := uV b5 hb
              replace b6 := uV b6 hb
              replace f7 := uV f7 hb
              replace f8 := uV f8 hb
              replace f9 := uV f9 hb
              replace g0 := uV g0 hb
              replace j4 := uV j4 hb
              replace j5 := uV j5 hb
              replace b1 := uB b1 hb
              replace a8 := uB a8 hb
              replace d6 := uB d6 hb
              replace e7 := uC e7 hb
              replace e8 := uC e8 hb
              replace e9 := uC e9 hb
              replace f3 := uC f3 hb
              replace HB := uW hb
              (try clear hb)
              (try clear hb2)
              (try clear hk)
              (try clear hi)
              refine hK.out _ _ ⟨HS0_, HS1_, HS2_, HS3_, HS4_, HS5_⟩ (fun a7 => ?_)
              clear hK K
              refine norm_ (a' := ?_) ?_ ?_
              rotate_left
              ·
               show Act.put _ (some 95) _ = _
               exact aP
              refine pu 10 96 HT_ ?_
              refine done_ (done_of HT_.out (by kernel_rfl)) ?_
              try go_wp2
              go_ret
              exact ⟨by first | rfl | (simp [*] <;> rfl), aB⟩
            ·
             rw [if_neg D2] at H
             exact absurd H (by simp)
           ·
            rw [if_neg D1] at H
            exact absurd H (by simp)
          ·
           rw [if_neg D0] at H
           exact absurd H (by simp)
         ·
          rw [if_neg z3] at H
          have B7 : decide (a9 < (d5.length : Int)) = false := decide_eq_false z3
          clear z3
          obtain ⟨⟨x7, x8, y8⟩, A76, H⟩ := bS H
          (try dsimp only at H)
          obtain ⟨⟨y9, z1, z2⟩, A77, H⟩ := bS H
          (try dsimp only at H)
          obtain ⟨w3, A78, H⟩ := bS H
          obtain rfl := Option.some.inj H
          try go_wp2
          replace c8 := mk0 (Kd.N_drew c8.out)
          replace b7 := mk0 (Kd.N_drew b7.out)
          replace d7 := mk0 (Kd.N_drew d7.out)
          replace a6 := mk0 (Kd.N_drew a6.out)
          replace a4 := mk0 (Kd.N_drew a4.out)
          replace a5 := mk0 (Kd.N_drew a5.out)
          replace b5 := mk0 (Kd.V_drew b5.out)
          replace b6 := mk0 (Kd.V_drew b6.out)
          replace b1 := mk0 (blk_drew b1.out)
          replace a8 := mk0 (blk_drew a8.out)
          replace d6 := mk0 (blk_drew d6.out)
          replace HB := mk0 (below_drew1 HB.out)
          obtain ⟨t0, t1, C5⟩ := Kd.N_slice b7.out
          (first | subst C5 | (injection C5 with f1_ f2_ f3_; have f4_ := f1_.symm; have f5_ := f3_.symm; clear f1_ f2_ f3_; subst f4_; subst f5_))
          refine start_ (n := 8) (S := fun w' => w'.cell? ⟨e4, 0, none⟩ = some (.bool o9) ∧ w'.cell? ⟨e4, 1, none⟩ = some (.slice s8 n8.length s9) ∧ w'.cell? ⟨e4, 2, none⟩ = some (.slice v4 p0.length v5)) (ds := []) #[false, false, false, false, false, false, false, false] (by kernel_rfl) rfl rfl cS (fun a7 => ?_); refine with_tabW checker_Optimal.tab19 checker_Optimal.bits19 (fun HT_ HW_ => ?_)
          generalize wr.drew = O1 at c8 b7 d7 a6 a4 a5 b5 b6 b1 a8 d6 HB a7 ⊢
          refine pu 1 99 HT_ ?_
          refine pu 2 100 HT_ ?_
          refine tk 0 98 HT_ HW_ a7 ?_
          refine oN 3 101 HT_ (fun K hK => ?_)
          refine gz Tryz.func20 #[.slice j3 b9.length g8, .slice t0 e3.length t1] ?_
          with_reducible refine (checker_sum.calls k3 _ _ b9 _ _ e3 x7 x8 y8 _ ?side1 ?side2 ?side3 ?side4 ?side5 A76.out).mono ?_
          (case side1 => exact GW.below HG.out (aB))
          (case side2 => exact pC ((Kd.N_reads' c8.out).2.2))
          (case side3 => exact (Kd.N_reads' c8.out).2.1)
          (case side4 => exact pC ((Kd.N_reads' b7.out).2.2))
          (case side5 => exact (Kd.N_reads' b7.out).2.1)
          rintro e O2 ⟨L3, L4, rfl, i7, k7, hb⟩
          refine ⟨_, rfl, ?_⟩
          replace b5 := uV b5 hb
          replace b6 := uV b6 hb
          have m8 := lV (ok' := fun k_ => some k_ ≠ (.slice j3 b9.length g8 : Value).ownBlock ∧ some k_ ≠ (.slice t0 e3.length t1 : Value).ownBlock ∧ some k_ ≠ (.slice k8 d5.length k1 : Value).ownBlock ∧ some k_ ≠ (.slice d3 b4.length c7 : Value).ownBlock ∧ some k_ ≠ (.slice d4 b3.length c9 : Value).ownBlock ∧ some k_ ≠ (.slice d1 c6.length d2 : Value).ownBlock ∧ k_ ≠ b8 ∧ k_ ≠ b0 ∧ k_ ≠ e4) i7
          have m9 := lV (ok' := fun k_ => some k_ ≠ (.slice j3 b9.length g8 : Value).ownBlock ∧ some k_ ≠ (.slice t0 e3.length t1 : Value).ownBlock ∧ some k_ ≠ (.slice k8 d5.length k1 : Value).ownBlock ∧ some k_ ≠ (.slice d3 b4.length c7 : Value).ownBlock ∧ some k_ ≠ (.slice d4 b3.length c9 : Value).ownBlock ∧ some k_ ≠ (.slice d1 c6.length d2 : Value).ownBlock ∧ k_ ≠ b8 ∧ k_ ≠ b0 ∧ k_ ≠ e4) k7
          replace c8 := uN c8 hb
          replace b7 := uN b7 hb
          replace d7 := uN d7 hb
          replace a6 := uN a6 hb
          replace a4 := uN a4 hb
          replace a5 := uN a5 hb
          replace b1 := uB b1 hb
          replace a8 := uB a8 hb
          replace d6 := uB d6 hb
          replace HB := uW hb
          (try clear hb)
          (try clear hb2)
          (try clear hk)
          (try clear hi)
          (try clear i7)
          (try clear k7)
          obtain ⟨G5, G6, C6⟩ := Kd.V_slice m8.out
          (first | subst C6 | (injection C6 with f1_ f2_ f3_; have f4_ := f1_.symm; have f5_ := f3_.symm; clear f1_ f2_ f3_; subst f4_; subst f5_))
          obtain ⟨G7, G8, C7⟩ := Kd.V_slice m9.out
          (first | subst C7 | (injection C7 with f1_ f2_ f3_; have f4_ := f1_.symm; have f5_ := f3_.symm; clear f1_ f2_ f3_; subst f4_; subst f5_))
          refine hK.out _ _ cS (fun a7 => ?_)
          clear hK K
          refine norm_ (a' := ?_) ?_ ?_
          rotate_left
          ·
           show Act.put _ (some 101) _ = _
           exact aP
          refine oN 4 102 HT_ (fun K hK => ?_)
          refine gz Tryz.func23 #[.agg #[.bool o9, .slice s8 n8.length s9, .slice v4 p0.length v5], .agg #[.bool x7, .slice G5 x8.length G6, .slice G7 y8.length G8]] ?_
          with_reducible refine (checker_fraction_add.calls k3 o9 _ _ n8 _ _ p0 x7 _ _ x8 _ _ y8 y9 z1 z2 _ ?side1 ?side2 ?side3 ?side4 ?side5 ?side6 ?side7 ?side8 A77.out).mono ?_
          (case side1 => exact pC ((Kd.V_reads' b5.out).2.2))
          (case side2 => exact (Kd.V_reads' b5.out).2.1)
          (case side3 => exact pC ((Kd.V_reads' b6.out).2.2))
          (case side4 => exact (Kd.V_reads' b6.out).2.1)
          (case side5 => exact pC ((Kd.V_reads' m8.out).2.2))
          (case side6 => exact (Kd.V_reads' m8.out).2.1)
          (case side7 => exact pC ((Kd.V_reads' m9.out).2.2))
          (case side8 => exact (Kd.V_reads' m9.out).2.1)
          rintro e O3 ⟨L5, L6, rfl, i7, k7, hb⟩
          refine ⟨_, rfl, ?_⟩
          replace b5 := uV b5 hb
          replace b6 := uV b6 hb
          replace m8 := uV m8 hb
          replace m9 := uV m9 hb
          have p1 := lV (ok' := fun k_ => some k_ ≠ (.slice j3 b9.length g8 : Value).ownBlock ∧ some k_ ≠ (.slice t0 e3.length t1 : Value).ownBlock ∧ some k_ ≠ (.slice k8 d5.length k1 : Value).ownBlock ∧ some k_ ≠ (.slice d3 b4.length c7 : Value).ownBlock ∧ some k_ ≠ (.slice d4 b3.length c9 : Value).ownBlock ∧ some k_ ≠ (.slice d1 c6.length d2 : Value).ownBlock ∧ k_ ≠ b8 ∧ k_ ≠ b0 ∧ k_ ≠ e4) i7
          have p3 := lV (ok' := fun k_ => some k_ ≠ (.slice j3 b9.length g8 : Value).ownBlock ∧ some k_ ≠ (.slice t0 e3.length t1 : Value).ownBlock ∧ some k_ ≠ (.slice k8 d5.length k1 : Value).ownBlock ∧ some k_ ≠ (.slice d3 b4.length c7 : Value).ownBlock ∧ some k_ ≠ (.slice d4 b3.length c9 : Value).ownBlock ∧ some k_ ≠ (.slice d1 c6.length d2 : Value).ownBlock ∧ k_ ≠ b8 ∧ k_ ≠ b0 ∧ k_ ≠ e4) k7
          replace c8 := uN c8 hb
          replace b7 := uN b7 hb
          replace d7 := uN d7 hb
          replace a6 := uN a6 hb
          replace a4 := uN a4 hb
          replace a5 := uN a5 hb
          replace b1 := uB b1 hb
          replace a8 := uB a8 hb
          replace d6 := uB d6 hb
          replace HB := uW hb
          (try clear hb)
          (try clear hb2)
          (try clear hk)
          (try clear hi)
          (try clear i7)
          (try clear k7)
          obtain ⟨G9, H0, C8⟩ := Kd.V_slice p1.out
          (first | subst C8 | (injection C8 with f1_ f2_ f3_; have f4_ := f1_.symm; have f5_ := f3_.symm; clear f1_ f2_ f3_; subst f4_; subst f5_))
          obtain ⟨H2, H3, C9⟩ := Kd.V_slice p3.out
          (first | subst C9 | (injection C9 with f1_ f2_ f3_; have f4_ := f1_.symm; have f5_ := f3_.symm; clear f1_ f2_ f3_; subst f4_; subst f5_))
          refine hK.out _ _ cS (fun a7 => ?_)
          clear hK K
          refine norm_ (a' := ?_) ?_ ?_
          rotate_left
          ·
           show Act.put _ (some 102) _ = _
           exact aP
          refine oN 5 103 HT_ (fun K hK => ?_)
          refine gz Tryz.func24 #[.agg #[.bool y9, .slice G9 z1.length H0, .slice H2 z2.length H3]] ?_
          with_reducible refine (checker_fraction_sign.calls y9 _ _ z1 _ _ z2 w3 _ ?side1 ?side2 ?side3 ?side4 A78.out).mono ?_
          (case side1 => exact pC ((Kd.V_reads' p1.out).2.2))
          (case side2 => exact (Kd.V_reads' p1.out).2.1)
          (case side3 => exact pC ((Kd.V_reads' p3.out).2.2))
          (case side4 => exact (Kd.V_reads' p3.out).2.1)
          rintro e O4 ⟨rfl, hb⟩
          refine ⟨_, rfl, ?_⟩
          replace c8 := uN c8 hb
          replace b7 := uN b7 hb
          replace d7 := uN d7 hb
          replace a6 := uN a6 hb
          replace a4 := uN a4 hb
          replace a5 := uN a5 hb
          replace b5 := uV b5 hb
          replace b6 := uV b6 hb
          replace m8 := uV m8 hb
          replace m9 := uV m9 hb
          replace p1 := uV p1 hb
          replace p3 := uV p3 hb
          replace b1 := uB b1 hb
          replace a8 := uB a8 hb
          replace d6 := uB d6 hb
          replace HB := uW hb
          (try clear hb)
          (try clear hb2)
          (try clear hk)
          (try clear hi)
          refine hK.out _ _ cS (fun a7 => ?_)
          clear hK K
          refine norm_ (a' := ?_) ?_ ?_
          rotate_left
          ·
           show Act.put _ (some 103) _ = _
           exact aP
          refine pu 6 104 HT_ ?_
          refine pu 7 8 HT_ ?_
          refine done_ (done_of HT_.out (by kernel_rfl)) ?_
          try go_wp2
          go_ret
          exact ⟨by first | rfl | (simp [*] <;> rfl), aB⟩
/-- What is told of Map here: it accepts the empty map. -/
def checker_Map.f (a0 : List (S115)) (a1 : List (S120)) (a2 : List ByteArray) : Option (Bool) := if a0.length + a1.length + a2.length = 0 then some true else none
theorem mapMake (W : World) : (Instr.makeSlice 81 (.int .i64 0) (.int .i64 0)).run Tryz.prog W = .ok (.slice (some ⟨W.heap.size, 0, none⟩) 0 0) (W.alloc (.cells #[] 30)) := by
 have h0 : (Tryz.prog.info? 30).map (·.zero) = some (some (.slice none 0 0)) := by kernel_rfl
 obtain ⟨i0, hi, hz⟩ := Option.map_eq_some_iff.1 h0
 have := run_make (P := Tryz.prog) (w := W) 81 30 i0 (.slice none 0 0) Tryz.underlying81 hi hz .i64 .i64 0 0 (by omega) (by omega) (by omega) (by omega)
 rw [this]
 have h1 : madeCells (Value.slice none 0 0).cells (Int.toNat 0 * i0.size) = #[] := by
  rw [Int.toNat_zero, Nat.zero_mul]
  exact Array.eq_empty_of_size_eq_zero (size_madeCells _ _)
 rw [h1]
 rfl
theorem mapMakeI (W : World) : (Instr.makeSlice 30 (.int .i64 0) (.int .i64 0)).run Tryz.prog W = .ok (.slice (some ⟨W.heap.size, 0, none⟩) 0 0) (W.alloc (.cells #[] 3)) := by
 have h0 : (Tryz.prog.info? 3).map (·.zero) = some (some (.int .i64 0)) := by kernel_rfl
 obtain ⟨i0, hi, hz⟩ := Option.map_eq_some_iff.1 h0
 have := run_make (P := Tryz.prog) (w := W) 30 3 i0 (.int .i64 0) Tryz.underlying30 hi hz .i64 .i64 0 0 (by omega) (by omega) (by omega) (by omega)
 rw [this]
 have h1 : madeCells (Value.int .i64 0).cells (Int.toNat 0 * i0.size) = #[] := by
  rw [Int.toNat_zero, Nat.zero_mul]
  exact Array.eq_empty_of_size_eq_zero (size_madeCells _ _)
 rw [h1]
 rfl
theorem mapMakeB (W : World) : (Instr.makeSlice 91 (.int .i64 0) (.int .i64 0)).run Tryz.prog W = .ok (.slice (some ⟨W.heap.size, 0, none⟩) 0 0) (W.alloc (.cells #[] 4)) := by
 have h0 : (Tryz.prog.info? 4).map (·.zero) = some (some (.bool false)) := by kernel_rfl
 obtain ⟨i0, hi, hz⟩ := Option.map_eq_some_iff.1 h0
 have := run_make (P := Tryz.prog) (w := W) 91 4 i0 (.bool false) Tryz.underlying91 hi hz .i64 .i64 0 0 (by omega) (by omega) (by omega) (by omega)
 rw [this]
 have h1 : madeCells (Value.bool false).cells (Int.toNat 0 * i0.size) = #[] := by
  rw [Int.toNat_zero, Nat.zero_mul]
  exact Array.eq_empty_of_size_eq_zero (size_madeCells _ _)
 rw [h1]
 rfl
theorem mapPut (W : World) (b : Nat) (hb : b = W.heap.size) : (Instr.mapUpdate 90 (.map (some b)) (.int .i64 (-1)) (.int .i64 (-1))).run Tryz.prog (W.alloc (.map #[] 0)) = .ok () (W.alloc (.map #[⟨.int .i64 (-1), .int .i64 (-1), 0⟩] 1)) := by
 subst hb
 have K : Go.Maps.Keyed Tryz.prog 3 := Go.Maps.int_keyed Tryz.underlying3
 have hkey : keyOf Tryz.prog 3 (.int .i64 (-1)) = some (.int .i64 (-1)) := Go.Maps.keyOf_int_mk Tryz.underlying3 (by decide)
 have hbk : (W.alloc (.map #[] 0)).heap[W.heap.size]? = some (.map #[] 0) := heap_alloc_new W _
 have h1 : (Instr.findKey 3 (.int .i64 (-1)) []).run Tryz.prog (W.alloc (.map #[] 0)) = .ok none (W.alloc (.map #[] 0)) := by
  rcases K.find (W.alloc (.map #[] 0)) hkey [] (by intro e he; cases he) with ⟨h, _⟩ | ⟨j, e, _, h, _⟩
  ·
   exact h
  ·
   simp at h
 have hset : Go.ChangeMaps.setBlock (W.alloc (.map #[] 0)) W.heap.size (.map #[⟨.int .i64 (-1), .int .i64 (-1), 0⟩] 1) = W.alloc (.map #[⟨.int .i64 (-1), .int .i64 (-1), 0⟩] 1) := by
  have hs : ∀ (h : Array Obj) (x y : Obj), (h.push x).setIfInBounds h.size y = h.push y := fun h x y => by
   apply Array.toList_inj.1
   rw [Array.toList_setIfInBounds, Array.toList_push, Array.toList_push, ← Array.length_toList, List.set_append_right _ _ (Nat.le_refl _), Nat.sub_self]
   rfl
  show ({ (W.alloc (.map #[] 0)) with heap := (W.heap.push (.map #[] 0)).setIfInBounds W.heap.size (.map #[⟨.int .i64 (-1), .int .i64 (-1), 0⟩] 1) } : World) = _
  rw [hs]
  rfl
 rw [← hset]
 simp [Instr.mapUpdate, run_underlying Tryz.underlying90, Go.MapKept.run_getObj_map hbk, K.check (W.alloc (.map #[] 0)) false hkey, h1, Go.MapKept.run_setObj_map _ hbk, Result.andThen, Go.ChangeMaps.setBlock]
set_option maxRecDepth 100000 in
set_option maxHeartbeats 8000000 in
theorem checker_Map.calls (a3 : Option Addr) (a4 : Nat) (a0 : List (S115)) (a5 : Option Addr) (a6 : Nat) (a1 : List (S120)) (a7 : Option Addr) (a8 : Nat) (a2 : List ByteArray) (r : Bool) (w : World) (a9 : Kd.C k115 w a3 a0.length a0) (b0 : a0.length ≤ a4) (b1 : Kd.C k120 w a5 a1.length a1) (b2 : a1.length ≤ a6) (b3 : Kd.C Kd.string w a7 a2.length a2) (b4 : a2.length ≤ a8) (h : checker_Map.f a0 a1 a2 = some r) :
  Calls Tryz.prog 12 #[.agg #[.slice a3 a0.length a4, .slice a5 a1.length a6, .slice a7 a2.length a8]] w fun e w' => e = .returned (.bool r) ∧ Below w.heap.size w w' := by
 unfold checker_Map.f at h
 by_cases hz : a0.length + a1.length + a2.length = 0
 case neg => rw [if_neg hz] at h; cases h
 rw [if_pos hz] at h
 obtain rfl := Option.some.inj h
 have h0 : a0.length = 0 := by omega
 have h1 : a1.length = 0 := by omega
 have h2 : a2.length = 0 := by omega
 rw [h0, h1, h2]
 clear a9 b1 b3 b0 b2 b4 h0 h1 h2 hz h
 have hmm := @run_makeMap Tryz.prog
 have hms := mapMake
 have hmsi := mapMakeI
 have hmu := mapPut
 have hmsb := mapMakeB
 have hcp := fun (W : World) (d a : Option Addr) (dc sc : Nat) => run_copy_none (P := Tryz.prog) W 30 30 3 3 d a 0 dc 1 sc Tryz.underlying30 (by kernel_rfl) rfl
 go_enter Tryz.func12, Tryz.ntmps12
 go_wp2
 repeat (refine wp_loop_rounds 1 ?_; rw [rounds_succ]; go_wp2)
 go_ret
 refine ⟨rfl, ?_⟩
 repeat (first | exact Below.refl _ _ | apply below_alloc | apply pw_below_drewN | apply below_drew1 | refine below_set ?_ (by omega))
def klippelaw55_known.f (k : Nat)  : Option (Bool) := (some (([(⟨1, (⟨#[66]⟩ : ByteArray), (⟨#[65]⟩ : ByteArray)⟩ : S33), (⟨1, (⟨#[67]⟩ : ByteArray), (⟨#[66]⟩ : ByteArray)⟩ : S33), (⟨1, (⟨#[67]⟩ : ByteArray), (⟨#[65]⟩ : ByteArray)⟩ : S33)] : List (S33)) : List (S33))).bind fun a2 => ((some (([(⟨(([(⟨#[45, 49]⟩ : ByteArray)] : List ByteArray)), (⟨#[45, 49]⟩ : ByteArray)⟩ : S37), (⟨(([(⟨#[49]⟩ : ByteArray)] : List ByteArray)), (⟨#[51]⟩ : ByteArray)⟩ : S37)] : List (S37)) : List (S37))).bind fun a8 => ((some (([(⟨#[49]⟩ : ByteArray)] : List ByteArray) : List ByteArray)).bind fun a1 => ((some (([(⟨#[49]⟩ : ByteArray), (⟨#[48]⟩ : ByteArray)] : List ByteArray) : List ByteArray)).bind fun a5 => ((checker_Number.f k (⟨#[51, 47, 54]⟩ : ByteArray)).bind fun c7 => (if c7 = true then (some false) else ((checker_Number.f k (⟨#[45, 51, 47, 50]⟩ : ByteArray)).bind fun c5 => (if c5 = true then ((checker_Implied.f k a2 2 (([0, 1] : List Int))).bind fun b8 => (if b8 = true then ((checker_Implied.f k a2 2 (([1, 0] : List Int))).bind fun b7 => (if b7 = true then (some false) else ((checker_Order.f a2 (([(⟨#[65]⟩ : ByteArray), (⟨#[66]⟩ : ByteArray), (⟨#[67]⟩ : ByteArray)] : List ByteArray))).bind fun b4 => (if b4 = true then ((checker_Order.f a2 (([(⟨#[66]⟩ : ByteArray), (⟨#[65]⟩ : ByteArray), (⟨#[67]⟩ : ByteArray)] : List ByteArray))).bind fun b2 => (if b2 = true then (some false) else ((checker_Optimal.f k a8 a1 a1 a5).bind fun b1 => (if b1 = true then ((checker_Optimal.f k a8 a1 (([(⟨#[50]⟩ : ByteArray)] : List ByteArray)) a5).bind fun b0 => (if b0 = true then (some false) else ((checker_Map.f ([] : List (S115)) ([] : List (S120)) ([] : List ByteArray)).bind fun a9 => (some a9)))) else (some false))))) else (some false))))) else (some false))) else (some false))))))))
theorem klippelaw55_known.mono : ∀ k, LeO (klippelaw55_known.f k ) (klippelaw55_known.f (k + 1) ) := by
 intro  k
 unfold klippelaw55_known.f
 repeat' first | (with_reducible first | exact checker_Implied.mono .. | exact checker_Number.mono .. | exact checker_Optimal.mono .. | exact LeO.refl _ | exact LeO.none _ | refine LeO.ite ?_ ?_ | refine LeO.bind ?_ (fun _ => ?_))
set_option maxHeartbeats 8000000 in
set_option maxRecDepth 100000 in
theorem klippelaw55_known.calls (k : Nat)  (r : Bool) (w : World) (hr : r = true) (hG : GW w) (h : klippelaw55_known.f k  = some r) :
  Calls Tryz.prog 4 #[] w fun e w' => e = .returned (.bool r) ∧ Below w.heap.size w w' := by
 have hu33 := Tryz.underlying33
 have hu37 := Tryz.underlying37
 have hu40 := Tryz.underlying40
 have hu48 := Tryz.underlying48
 have HB := mk0 (Below.refl w.heap.size w)
 have HRT := mk0 hr
 clear hr
 have HG := mk0 hG
 clear hG
 have H : ((some (([(⟨1, (⟨#[66]⟩ : ByteArray), (⟨#[65]⟩ : ByteArray)⟩ : S33), (⟨1, (⟨#[67]⟩ : ByteArray), (⟨#[66]⟩ : ByteArray)⟩ : S33), (⟨1, (⟨#[67]⟩ : ByteArray), (⟨#[65]⟩ : ByteArray)⟩ : S33)] : List (S33)) : List (S33))).bind fun a2 => ((some (([(⟨(([(⟨#[45, 49]⟩ : ByteArray)] : List ByteArray)), (⟨#[45, 49]⟩ : ByteArray)⟩ : S37), (⟨(([(⟨#[49]⟩ : ByteArray)] : List ByteArray)), (⟨#[51]⟩ : ByteArray)⟩ : S37)] : List (S37)) : List (S37))).bind fun a8 => ((some (([(⟨#[49]⟩ : ByteArray)] : List ByteArray) : List ByteArray)).bind fun a1 => ((some (([(⟨#[49]⟩ : ByteArray), (⟨#[48]⟩ : ByteArray)] : List ByteArray) : List ByteArray)).bind fun a5 => ((checker_Number.f k (⟨#[51, 47, 54]⟩ : ByteArray)).bind fun c7 => (if c7 = true then (some false) else ((checker_Number.f k (⟨#[45, 51, 47, 50]⟩ : ByteArray)).bind fun c5 => (if c5 = true then ((checker_Implied.f k a2 2 (([0, 1] : List Int))).bind fun b8 => (if b8 = true then ((checker_Implied.f k a2 2 (([1, 0] : List Int))).bind fun b7 => (if b7 = true then (some false) else ((checker_Order.f a2 (([(⟨#[65]⟩ : ByteArray), (⟨#[66]⟩ : ByteArray), (⟨#[67]⟩ : ByteArray)] : List ByteArray))).bind fun b4 => (if b4 = true then ((checker_Order.f a2 (([(⟨#[66]⟩ : ByteArray), (⟨#[65]⟩ : ByteArray), (⟨#[67]⟩ : ByteArray)] : List ByteArray))).bind fun b2 => (if b2 = true then (some false) else ((checker_Optimal.f k a8 a1 a1 a5).bind fun b1 => (if b1 = true then ((checker_Optimal.f k a8 a1 (([(⟨#[50]⟩ : ByteArray)] : List ByteArray)) a5).bind fun b0 => (if b0 = true then (some false) else ((checker_Map.f ([] : List (S115)) ([] : List (S120)) ([] : List ByteArray)).bind fun a9 => (some a9)))) else (some false))))) else (some false))))) else (some false))) else (some false))))))))) = some r := h
 clear h
 obtain ⟨a2, hy569⟩ : ∃ y_ : List (S33), y_ = (([(⟨1, (⟨#[66]⟩ : ByteArray), (⟨#[65]⟩ : ByteArray)⟩ : S33), (⟨1, (⟨#[67]⟩ : ByteArray), (⟨#[66]⟩ : ByteArray)⟩ : S33), (⟨1, (⟨#[67]⟩ : ByteArray), (⟨#[65]⟩ : ByteArray)⟩ : S33)] : List (S33))) := ⟨_, rfl⟩
 replace H : ((some (([(⟨(([(⟨#[45, 49]⟩ : ByteArray)] : List ByteArray)), (⟨#[45, 49]⟩ : ByteArray)⟩ : S37), (⟨(([(⟨#[49]⟩ : ByteArray)] : List ByteArray)), (⟨#[51]⟩ : ByteArray)⟩ : S37)] : List (S37)) : List (S37))).bind fun a8 => ((some (([(⟨#[49]⟩ : ByteArray)] : List ByteArray) : List ByteArray)).bind fun a1 => ((some (([(⟨#[49]⟩ : ByteArray), (⟨#[48]⟩ : ByteArray)] : List ByteArray) : List ByteArray)).bind fun a5 => ((checker_Number.f k (⟨#[51, 47, 54]⟩ : ByteArray)).bind fun c7 => (if c7 = true then (some false) else ((checker_Number.f k (⟨#[45, 51, 47, 50]⟩ : ByteArray)).bind fun c5 => (if c5 = true then ((checker_Implied.f k a2 2 (([0, 1] : List Int))).bind fun b8 => (if b8 = true then ((checker_Implied.f k a2 2 (([1, 0] : List Int))).bind fun b7 => (if b7 = true then (some false) else ((checker_Order.f a2 (([(⟨#[65]⟩ : ByteArray), (⟨#[66]⟩ : ByteArray), (⟨#[67]⟩ : ByteArray)] : List ByteArray))).bind fun b4 => (if b4 = true then ((checker_Order.f a2 (([(⟨#[66]⟩ : ByteArray), (⟨#[65]⟩ : ByteArray), (⟨#[67]⟩ : ByteArray)] : List ByteArray))).bind fun b2 => (if b2 = true then (some false) else ((checker_Optimal.f k a8 a1 a1 a5).bind fun b1 => (if b1 = true then ((checker_Optimal.f k a8 a1 (([(⟨#[50]⟩ : ByteArray)] : List ByteArray)) a5).bind fun b0 => (if b0 = true then (some false) else ((checker_Map.f ([] : List (S115)) ([] : List (S120)) ([] : List ByteArray)).bind fun a9 => (some a9)))) else (some false))))) else (some false))))) else (some false))) else (some false)))))))) = some r := by first | (rw [hy569]; exact H) | (rw [hy569]; exact (Option.bind_some _ _).symm.trans H) | exact (Option.bind_some _ _).symm.trans H
 have Ny569 := mk0 hy569
 clear hy569
 obtain ⟨d1, hy572⟩ : ∃ y_ : List ByteArray, y_ = (([(⟨#[45, 49]⟩ : ByteArray)] : List ByteArray)) := ⟨_, rfl⟩
 replace H : ((some (([(⟨d1, (⟨#[45, 49]⟩ : ByteArray)⟩ : S37), (⟨(([(⟨#[49]⟩ : ByteArray)] : List ByteArray)), (⟨#[51]⟩ : ByteArray)⟩ : S37)] : List (S37)) : List (S37))).bind fun a8 => ((some (([(⟨#[49]⟩ : ByteArray)] : List ByteArray) : List ByteArray)).bind fun a1 => ((some (([(⟨#[49]⟩ : ByteArray), (⟨#[48]⟩ : ByteArray)] : List ByteArray) : List ByteArray)).bind fun a5 => ((checker_Number.f k (⟨#[51, 47, 54]⟩ : ByteArray)).bind fun c7 => (if c7 = true then (some false) else ((checker_Number.f k (⟨#[45, 51, 47, 50]⟩ : ByteArray)).bind fun c5 => (if c5 = true then ((checker_Implied.f k a2 2 (([0, 1] : List Int))).bind fun b8 => (if b8 = true then ((checker_Implied.f k a2 2 (([1, 0] : List Int))).bind fun b7 => (if b7 = true then (some false) else ((checker_Order.f a2 (([(⟨#[65]⟩ : ByteArray), (⟨#[66]⟩ : ByteArray), (⟨#[67]⟩ : ByteArray)] : List ByteArray))).bind fun b4 => (if b4 = true then ((checker_Order.f a2 (([(⟨#[66]⟩ : ByteArray), (⟨#[65]⟩ : ByteArray), (⟨#[67]⟩ : ByteArray)] : List ByteArray))).bind fun b2 => (if b2 = true then (some false) else ((checker_Optimal.f k a8 a1 a1 a5).bind fun b1 => (if b1 = true then ((checker_Optimal.f k a8 a1 (([(⟨#[50]⟩ : ByteArray)] : List ByteArray)) a5).bind fun b0 => (if b0 = true then (some false) else ((checker_Map.f ([] : List (S115)) ([] : List (S120)) ([] : List ByteArray)).bind fun a9 => (some a9)))) else (some false))))) else (some false))))) else (some false))) else (some false)))))))) = some r := by first | (rw [hy572]; exact H) | (rw [hy572]; exact (Option.bind_some _ _).symm.trans H) | exact (Option.bind_some _ _).symm.trans H
 have Ny572 := mk0 hy572
 clear hy572
 obtain ⟨d3, hy575⟩ : ∃ y_ : List ByteArray, y_ = (([(⟨#[49]⟩ : ByteArray)] : List ByteArray)) := ⟨_, rfl⟩
 replace H : ((some (([(⟨d1, (⟨#[45, 49]⟩ : ByteArray)⟩ : S37), (⟨d3, (⟨#[51]⟩ : ByteArray)⟩ : S37)] : List (S37)) : List (S37))).bind fun a8 => ((some (([(⟨#[49]⟩ : ByteArray)] : List ByteArray) : List ByteArray)).bind fun a1 => ((some (([(⟨#[49]⟩ : ByteArray), (⟨#[48]⟩ : ByteArray)] : List ByteArray) : List ByteArray)).bind fun a5 => ((checker_Number.f k (⟨#[51, 47, 54]⟩ : ByteArray)).bind fun c7 => (if c7 = true then (some false) else ((checker_Number.f k (⟨#[45, 51, 47, 50]⟩ : ByteArray)).bind fun c5 => (if c5 = true then ((checker_Implied.f k a2 2 (([0, 1] : List Int))).bind fun b8 => (if b8 = true then ((checker_Implied.f k a2 2 (([1, 0] : List Int))).bind fun b7 => (if b7 = true then (some false) else ((checker_Order.f a2 (([(⟨#[65]⟩ : ByteArray), (⟨#[66]⟩ : ByteArray), (⟨#[67]⟩ : ByteArray)] : List ByteArray))).bind fun b4 => (if b4 = true then ((checker_Order.f a2 (([(⟨#[66]⟩ : ByteArray), (⟨#[65]⟩ : ByteArray), (⟨#[67]⟩ : ByteArray)] : List ByteArray))).bind fun b2 => (if b2 = true then (some false) else ((checker_Optimal.f k a8 a1 a1 a5).bind fun b1 => (if b1 = true then ((checker_Optimal.f k a8 a1 (([(⟨#[50]⟩ : ByteArray)] : List ByteArray)) a5).bind fun b0 => (if b0 = true then (some false) else ((checker_Map.f ([] : List (S115)) ([] : List (S120)) ([] : List ByteArray)).bind fun a9 => (some a9)))) else (some false))))) else (some false))))) else (some false))) else (some false)))))))) = some r := by first | (rw [hy575]; exact H) | (rw [hy575]; exact (Option.bind_some _ _).symm.trans H) | exact (Option.bind_some _ _).symm.trans H
 have Ny575 := mk0 hy575
 clear hy575
 obtain ⟨a8, hy578⟩ : ∃ y_ : List (S37), y_ = (([(⟨d1, (⟨#[45, 49]⟩ : ByteArray)⟩ : S37), (⟨d3, (⟨#[51]⟩ : ByteArray)⟩ : S37)] : List (S37))) := ⟨_, rfl⟩
 replace H : ((some (([(⟨#[49]⟩ : ByteArray)] : List ByteArray) : List ByteArray)).bind fun a1 => ((some (([(⟨#[49]⟩ : ByteArray), (⟨#[48]⟩ : ByteArray)] : List ByteArray) : List ByteArray)).bind fun a5 => ((checker_Number.f k (⟨#[51, 47, 54]⟩ : ByteArray)).bind fun c7 => (if c7 = true then (some false) else ((checker_Number.f k (⟨#[45, 51, 47, 50]⟩ : ByteArray)).bind fun c5 => (if c5 = true then ((checker_Implied.f k a2 2 (([0, 1] : List Int))).bind fun b8 => (if b8 = true then ((checker_Implied.f k a2 2 (([1, 0] : List Int))).bind fun b7 => (if b7 = true then (some false) else ((checker_Order.f a2 (([(⟨#[65]⟩ : ByteArray), (⟨#[66]⟩ : ByteArray), (⟨#[67]⟩ : ByteArray)] : List ByteArray))).bind fun b4 => (if b4 = true then ((checker_Order.f a2 (([(⟨#[66]⟩ : ByteArray), (⟨#[65]⟩ : ByteArray), (⟨#[67]⟩ : ByteArray)] : List ByteArray))).bind fun b2 => (if b2 = true then (some false) else ((checker_Optimal.f k a8 a1 a1 a5).bind fun b1 => (if b1 = true then ((checker_Optimal.f k a8 a1 (([(⟨#[50]⟩ : ByteArray)] : List ByteArray)) a5).bind fun b0 => (if b0 = true then (some false) else ((checker_Map.f ([] : List (S115)) ([] : List (S120)) ([] : List ByteArray)).bind fun a9 => (some a9)))) else (some false))))) else (some false))))) else (some false))) else (some false))))))) = some r := by first | (rw [hy578]; exact H) | (rw [hy578]; exact (Option.bind_some _ _).symm.trans H) | exact (Option.bind_some _ _).symm.trans H
 have Ny578 := mk0 hy578
 clear hy578
 obtain ⟨a1, hy581⟩ : ∃ y_ : List ByteArray, y_ = (([(⟨#[49]⟩ : ByteArray)] : List ByteArray)) := ⟨_, rfl⟩
 replace H : ((some (([(⟨#[49]⟩ : ByteArray), (⟨#[48]⟩ : ByteArray)] : List ByteArray) : List ByteArray)).bind fun a5 => ((checker_Number.f k (⟨#[51, 47, 54]⟩ : ByteArray)).bind fun c7 => (if c7 = true then (some false) else ((checker_Number.f k (⟨#[45, 51, 47, 50]⟩ : ByteArray)).bind fun c5 => (if c5 = true then ((checker_Implied.f k a2 2 (([0, 1] : List Int))).bind fun b8 => (if b8 = true then ((checker_Implied.f k a2 2 (([1, 0] : List Int))).bind fun b7 => (if b7 = true then (some false) else ((checker_Order.f a2 (([(⟨#[65]⟩ : ByteArray), (⟨#[66]⟩ : ByteArray), (⟨#[67]⟩ : ByteArray)] : List ByteArray))).bind fun b4 => (if b4 = true then ((checker_Order.f a2 (([(⟨#[66]⟩ : ByteArray), (⟨#[65]⟩ : ByteArray), (⟨#[67]⟩ : ByteArray)] : List ByteArray))).bind fun b2 => (if b2 = true then (some false) else ((checker_Optimal.f k a8 a1 a1 a5).bind fun b1 => (if b1 = true then ((checker_Optimal.f k a8 a1 (([(⟨#[50]⟩ : ByteArray)] : List ByteArray)) a5).bind fun b0 => (if b0 = true then (some false) else ((checker_Map.f ([] : List (S115)) ([] : List (S120)) ([] : List ByteArray)).bind fun a9 => (some a9)))) else (some false))))) else (some false))))) else (some false))) else (some false)))))) = some r := by first | (rw [hy581]; exact H) | (rw [hy581]; exact (Option.bind_some _ _).symm.trans H) | exact (Option.bind_some _ _).symm.trans H
 have Ny581 := mk0 hy581
 clear hy581
 obtain ⟨a5, hy584⟩ : ∃ y_ : List ByteArray, y_ = (([(⟨#[49]⟩ : ByteArray), (⟨#[48]⟩ : ByteArray)] : List ByteArray)) := ⟨_, rfl⟩
 replace H : ((checker_Number.f k (⟨#[51, 47, 54]⟩ : ByteArray)).bind fun c7 => (if c7 = true then (some false) else ((checker_Number.f k (⟨#[45, 51, 47, 50]⟩ : ByteArray)).bind fun c5 => (if c5 = true then ((checker_Implied.f k a2 2 (([0, 1] : List Int))).bind fun b8 => (if b8 = true then ((checker_Implied.f k a2 2 (([1, 0] : List Int))).bind fun b7 => (if b7 = true then (some false) else ((checker_Order.f a2 (([(⟨#[65]⟩ : ByteArray), (⟨#[66]⟩ : ByteArray), (⟨#[67]⟩ : ByteArray)] : List ByteArray))).bind fun b4 => (if b4 = true then ((checker_Order.f a2 (([(⟨#[66]⟩ : ByteArray), (⟨#[65]⟩ : ByteArray), (⟨#[67]⟩ : ByteArray)] : List ByteArray))).bind fun b2 => (if b2 = true then (some false) else ((checker_Optimal.f k a8 a1 a1 a5).bind fun b1 => (if b1 = true then ((checker_Optimal.f k a8 a1 (([(⟨#[50]⟩ : ByteArray)] : List ByteArray)) a5).bind fun b0 => (if b0 = true then (some false) else ((checker_Map.f ([] : List (S115)) ([] : List (S120)) ([] : List ByteArray)).bind fun a9 => (some a9)))) else (some false))))) else (some false))))) else (some false))) else (some false))))) = some r := by first | (rw [hy584]; exact H) | (rw [hy584]; exact (Option.bind_some _ _).symm.trans H) | exact (Option.bind_some _ _).symm.trans H
 have Ny584 := mk0 hy584
 clear hy584
 obtain ⟨c7, A1, H⟩ := bS H
 by_cases c2 : c7 = true
 ·
  subst c2
  have H1 : (some false) = some r := by rw [if_pos rfl] at H; exact H
  clear H
  have H := H1
  clear H1
  exact absurd ((Option.some.inj H).trans HRT.out) (by decide)
 ·
  replace c2 := Bool.eq_false_iff.mpr c2
  subst c2
  have H1 : ((checker_Number.f k (⟨#[45, 51, 47, 50]⟩ : ByteArray)).bind fun c5 => (if c5 = true then ((checker_Implied.f k a2 2 (([0, 1] : List Int))).bind fun b8 => (if b8 = true then ((checker_Implied.f k a2 2 (([1, 0] : List Int))).bind fun b7 => (if b7 = true then (some false) else ((checker_Order.f a2 (([(⟨#[65]⟩ : ByteArray), (⟨#[66]⟩ : ByteArray), (⟨#[67]⟩ : ByteArray)] : List ByteArray))).bind fun b4 => (if b4 = true then ((checker_Order.f a2 (([(⟨#[66]⟩ : ByteArray), (⟨#[65]⟩ : ByteArray), (⟨#[67]⟩ : ByteArray)] : List ByteArray))).bind fun b2 => (if b2 = true then (some false) else ((checker_Optimal.f k a8 a1 a1 a5).bind fun b1 => (if b1 = true then ((checker_Optimal.f k a8 a1 (([(⟨#[50]⟩ : ByteArray)] : List ByteArray)) a5).bind fun b0 => (if b0 = true then (some false) else ((checker_Map.f ([] : List (S115)) ([] : List (S120)) ([] : List ByteArray)).bind fun a9 => (some a9)))) else (some false))))) else (some false))))) else (some false))) else (some false))) = some r := by rw [if_neg (show ¬ (false = true) by decide)] at H; exact H
  clear H
  have H := H1
  clear H1
  obtain ⟨c5, A3, H⟩ := bS H
  by_cases c4 : c5 = true
  ·
   subst c4
   have H1 : ((checker_Implied.f k a2 2 (([0, 1] : List Int))).bind fun b8 => (if b8 = true then ((checker_Implied.f k a2 2 (([1, 0] : List Int))).bind fun b7 => (if b7 = true then (some false) else ((checker_Order.f a2 (([(⟨#[65]⟩ : ByteArray), (⟨#[66]⟩ : ByteArray), (⟨#[67]⟩ : ByteArray)] : List ByteArray))).bind fun b4 => (if b4 = true then ((checker_Order.f a2 (([(⟨#[66]⟩ : ByteArray), (⟨#[65]⟩ : ByteArray), (⟨#[67]⟩ : ByteArray)] : List ByteArray))).bind fun b2 => (if b2 = true then (some false) else ((checker_Optimal.f k a8 a1 a1 a5).bind fun b1 => (if b1 = true then ((checker_Optimal.f k a8 a1 (([(⟨#[50]⟩ : ByteArray)] : List ByteArray)) a5).bind fun b0 => (if b0 = true then (some false) else ((checker_Map.f ([] : List (S115)) ([] : List (S120)) ([] : List ByteArray)).bind fun a9 => (some a9)))) else (some false))))) else (some false))))) else (some false))) = some r := by rw [if_pos rfl] at H; exact H
   clear H
   have H := H1
   clear H1
   obtain ⟨f0, hy590⟩ : ∃ y_ : List Int, y_ = (([0, 1] : List Int)) := ⟨_, rfl⟩
   replace H : ((checker_Implied.f k a2 2 f0).bind fun b8 => (if b8 = true then ((checker_Implied.f k a2 2 (([1, 0] : List Int))).bind fun b7 => (if b7 = true then (some false) else ((checker_Order.f a2 (([(⟨#[65]⟩ : ByteArray), (⟨#[66]⟩ : ByteArray), (⟨#[67]⟩ : ByteArray)] : List ByteArray))).bind fun b4 => (if b4 = true then ((checker_Order.f a2 (([(⟨#[66]⟩ : ByteArray), (⟨#[65]⟩ : ByteArray), (⟨#[67]⟩ : ByteArray)] : List ByteArray))).bind fun b2 => (if b2 = true then (some false) else ((checker_Optimal.f k a8 a1 a1 a5).bind fun b1 => (if b1 = true then ((checker_Optimal.f k a8 a1 (([(⟨#[50]⟩ : ByteArray)] : List ByteArray)) a5).bind fun b0 => (if b0 = true then (some false) else ((checker_Map.f ([] : List (S115)) ([] : List (S120)) ([] : List ByteArray)).bind fun a9 => (some a9)))) else (some false))))) else (some false))))) else (some false))) = some r := by first | (rw [hy590]; exact H) | (rw [hy590]; exact (Option.bind_some _ _).symm.trans H) | exact (Option.bind_some _ _).symm.trans H
   have Ny590 := mk0 hy590
   clear hy590
   obtain ⟨b8, A5, H⟩ := bS H
   by_cases c6 : b8 = true
   ·
    subst c6
    have H1 : ((checker_Implied.f k a2 2 (([1, 0] : List Int))).bind fun b7 => (if b7 = true then (some false) else ((checker_Order.f a2 (([(⟨#[65]⟩ : ByteArray), (⟨#[66]⟩ : ByteArray), (⟨#[67]⟩ : ByteArray)] : List ByteArray))).bind fun b4 => (if b4 = true then ((checker_Order.f a2 (([(⟨#[66]⟩ : ByteArray), (⟨#[65]⟩ : ByteArray), (⟨#[67]⟩ : ByteArray)] : List ByteArray))).bind fun b2 => (if b2 = true then (some false) else ((checker_Optimal.f k a8 a1 a1 a5).bind fun b1 => (if b1 = true then ((checker_Optimal.f k a8 a1 (([(⟨#[50]⟩ : ByteArray)] : List ByteArray)) a5).bind fun b0 => (if b0 = true then (some false) else ((checker_Map.f ([] : List (S115)) ([] : List (S120)) ([] : List ByteArray)).bind fun a9 => (some a9)))) else (some false))))) else (some false))))) = some r := by rw [if_pos rfl] at H; exact H
    clear H
    have H := H1
    clear H1
    obtain ⟨f1, hy594⟩ : ∃ y_ : List Int, y_ = (([1, 0] : List Int)) := ⟨_, rfl⟩
    replace H : ((checker_Implied.f k a2 2 f1).bind fun b7 => (if b7 = true then (some false) else ((checker_Order.f a2 (([(⟨#[65]⟩ : ByteArray), (⟨#[66]⟩ : ByteArray), (⟨#[67]⟩ : ByteArray)] : List ByteArray))).bind fun b4 => (if b4 = true then ((checker_Order.f a2 (([(⟨#[66]⟩ : ByteArray), (⟨#[65]⟩ : ByteArray), (⟨#[67]⟩ : ByteArray)] : List ByteArray))).bind fun b2 => (if b2 = true then (some false) else ((checker_Optimal.f k a8 a1 a1 a5).bind fun b1 => (if b1 = true then ((checker_Optimal.f k a8 a1 (([(⟨#[50]⟩ : ByteArray)] : List ByteArray)) a5).bind fun b0 => (if b0 = true then (some false) else ((checker_Map.f ([] : List (S115)) ([] : List (S120)) ([] : List ByteArray)).bind fun a9 => (some a9)))) else (some false))))) else (some false))))) = some r := by first | (rw [hy594]; exact H) | (rw [hy594]; exact (Option.bind_some _ _).symm.trans H) | exact (Option.bind_some _ _).symm.trans H
    have Ny594 := mk0 hy594
    clear hy594
    obtain ⟨b7, A7, H⟩ := bS H
    by_cases c8 : b7 = true
    ·
     subst c8
     have H1 : (some false) = some r := by rw [if_pos rfl] at H; exact H
     clear H
     have H := H1
     clear H1
     exact absurd ((Option.some.inj H).trans HRT.out) (by decide)
    ·
     replace c8 := Bool.eq_false_iff.mpr c8
     subst c8
     have H1 : ((checker_Order.f a2 (([(⟨#[65]⟩ : ByteArray), (⟨#[66]⟩ : ByteArray), (⟨#[67]⟩ : ByteArray)] : List ByteArray))).bind fun b4 => (if b4 = true then ((checker_Order.f a2 (([(⟨#[66]⟩ : ByteArray), (⟨#[65]⟩ : ByteArray), (⟨#[67]⟩ : ByteArray)] : List ByteArray))).bind fun b2 => (if b2 = true then (some false) else ((checker_Optimal.f k a8 a1 a1 a5).bind fun b1 => (if b1 = true then ((checker_Optimal.f k a8 a1 (([(⟨#[50]⟩ : ByteArray)] : List ByteArray)) a5).bind fun b0 => (if b0 = true then (some false) else ((checker_Map.f ([] : List (S115)) ([] : List (S120)) ([] : List ByteArray)).bind fun a9 => (some a9)))) else (some false))))) else (some false))) = some r := by rw [if_neg (show ¬ (false = true) by decide)] at H; exact H
     clear H
     have H := H1
     clear H1
     obtain ⟨f2, hy598⟩ : ∃ y_ : List ByteArray, y_ = (([(⟨#[65]⟩ : ByteArray), (⟨#[66]⟩ : ByteArray), (⟨#[67]⟩ : ByteArray)] : List ByteArray)) := ⟨_, rfl⟩
     replace H : ((checker_Order.f a2 f2).bind fun b4 => (if b4 = true then ((checker_Order.f a2 (([(⟨#[66]⟩ : ByteArray), (⟨#[65]⟩ : ByteArray), (⟨#[67]⟩ : ByteArray)] : List ByteArray))).bind fun b2 => (if b2 = true then (some false) else ((checker_Optimal.f k a8 a1 a1 a5).bind fun b1 => (if b1 = true then ((checker_Optimal.f k a8 a1 (([(⟨#[50]⟩ : ByteArray)] : List ByteArray)) a5).bind fun b0 => (if b0 = true then (some false) else ((checker_Map.f ([] : List (S115)) ([] : List (S120)) ([] : List ByteArray)).bind fun a9 => (some a9)))) else (some false))))) else (some false))) = some r := by first | (rw [hy598]; exact H) | (rw [hy598]; exact (Option.bind_some _ _).symm.trans H) | exact (Option.bind_some _ _).symm.trans H
     have Ny598 := mk0 hy598
     clear hy598
     obtain ⟨b4, A9, H⟩ := bS H
     by_cases f9 : b4 = true
     ·
      subst f9
      have H1 : ((checker_Order.f a2 (([(⟨#[66]⟩ : ByteArray), (⟨#[65]⟩ : ByteArray), (⟨#[67]⟩ : ByteArray)] : List ByteArray))).bind fun b2 => (if b2 = true then (some false) else ((checker_Optimal.f k a8 a1 a1 a5).bind fun b1 => (if b1 = true then ((checker_Optimal.f k a8 a1 (([(⟨#[50]⟩ : ByteArray)] : List ByteArray)) a5).bind fun b0 => (if b0 = true then (some false) else ((checker_Map.f ([] : List (S115)) ([] : List (S120)) ([] : List ByteArray)).bind fun a9 => (some a9)))) else (some false))))) = some r := by rw [if_pos rfl] at H; exact H
      clear H
      have H := H1
      clear H1
      obtain ⟨f3, hy602⟩ : ∃ y_ : List ByteArray, y_ = (([(⟨#[66]⟩ : ByteArray), (⟨#[65]⟩ : ByteArray), (⟨#[67]⟩ : ByteArray)] : List ByteArray)) := ⟨_, rfl⟩
      replace H : ((checker_Order.f a2 f3).bind fun b2 => (if b2 = true then (some false) else ((checker_Optimal.f k a8 a1 a1 a5).bind fun b1 => (if b1 = true then ((checker_Optimal.f k a8 a1 (([(⟨#[50]⟩ : ByteArray)] : List ByteArray)) a5).bind fun b0 => (if b0 = true then (some false) else ((checker_Map.f ([] : List (S115)) ([] : List (S120)) ([] : List ByteArray)).bind fun a9 => (some a9)))) else (some false))))) = some r := by first | (rw [hy602]; exact H) | (rw [hy602]; exact (Option.bind_some _ _).symm.trans H) | exact (Option.bind_some _ _).symm.trans H
      have Ny602 := mk0 hy602
      clear hy602
      obtain ⟨b2, A11, H⟩ := bS H
      by_cases g0 : b2 = true
      ·
       subst g0
       have H1 : (some false) = some r := by rw [if_pos rfl] at H; exact H
       clear H
       have H := H1
       clear H1
       exact absurd ((Option.some.inj H).trans HRT.out) (by decide)
      ·
       replace g0 := Bool.eq_false_iff.mpr g0
       subst g0
       have H1 : ((checker_Optimal.f k a8 a1 a1 a5).bind fun b1 => (if b1 = true then ((checker_Optimal.f k a8 a1 (([(⟨#[50]⟩ : ByteArray)] : List ByteArray)) a5).bind fun b0 => (if b0 = true then (some false) else ((checker_Map.f ([] : List (S115)) ([] : List (S120)) ([] : List ByteArray)).bind fun a9 => (some a9)))) else (some false))) = some r := by rw [if_neg (show ¬ (false = true) by decide)] at H; exact H
       clear H
       have H := H1
       clear H1
       obtain ⟨b1, A13, H⟩ := bS H
       by_cases g1 : b1 = true
       ·
        subst g1
        have H1 : ((checker_Optimal.f k a8 a1 (([(⟨#[50]⟩ : ByteArray)] : List ByteArray)) a5).bind fun b0 => (if b0 = true then (some false) else ((checker_Map.f ([] : List (S115)) ([] : List (S120)) ([] : List ByteArray)).bind fun a9 => (some a9)))) = some r := by rw [if_pos rfl] at H; exact H
        clear H
        have H := H1
        clear H1
        obtain ⟨f4, hy607⟩ : ∃ y_ : List ByteArray, y_ = (([(⟨#[50]⟩ : ByteArray)] : List ByteArray)) := ⟨_, rfl⟩
        replace H : ((checker_Optimal.f k a8 a1 f4 a5).bind fun b0 => (if b0 = true then (some false) else ((checker_Map.f ([] : List (S115)) ([] : List (S120)) ([] : List ByteArray)).bind fun a9 => (some a9)))) = some r := by first | (rw [hy607]; exact H) | (rw [hy607]; exact (Option.bind_some _ _).symm.trans H) | exact (Option.bind_some _ _).symm.trans H
        have Ny607 := mk0 hy607
        clear hy607
        obtain ⟨b0, A15, H⟩ := bS H
        by_cases g2 : b0 = true
        ·
         subst g2
         have H1 : (some false) = some r := by rw [if_pos rfl] at H; exact H
         clear H
         have H := H1
         clear H1
         exact absurd ((Option.some.inj H).trans HRT.out) (by decide)
        ·
         replace g2 := Bool.eq_false_iff.mpr g2
         subst g2
         have H1 : ((checker_Map.f ([] : List (S115)) ([] : List (S120)) ([] : List ByteArray)).bind fun a9 => (some a9)) = some r := by rw [if_neg (show ¬ (false = true) by decide)] at H; exact H
         clear H
         have H := H1
         clear H1
         obtain ⟨a9, A17, H⟩ := bS H
         obtain rfl := Option.some.inj H
         go_enter Tryz.func4, Tryz.ntmps4
         go_wp2_with (first | (refine gd 8 ?_; (try (refine gate_guard (by rfl) ?_; dsimp only)); refine Kd.R_lit k33 _ 33 ?hg (N := 8) ?hd (xs := ([(⟨1, (⟨#[66]⟩ : ByteArray), (⟨#[65]⟩ : ByteArray)⟩ : S33), (⟨1, (⟨#[67]⟩ : ByteArray), (⟨#[66]⟩ : ByteArray)⟩ : S33), (⟨1, (⟨#[67]⟩ : ByteArray), (⟨#[65]⟩ : ByteArray)⟩ : S33)] : List (S33))) (inner := [.int .i64 1, .string (⟨#[66]⟩ : ByteArray), .string (⟨#[65]⟩ : ByteArray), .int .i64 1, .string (⟨#[67]⟩ : ByteArray), .string (⟨#[66]⟩ : ByteArray), .int .i64 1, .string (⟨#[67]⟩ : ByteArray), .string (⟨#[65]⟩ : ByteArray)]) (ok := fun _ => True) (okp := fun _ => True) ?hr ?hp (fun _ hk => hk) trivial (Below.refl _ _) (Nat.le_refl _) (by simp) ?_; (case hd => rfl); (case hg => rfl); (case hr => exact aH); (case hp => exact (Reps.c3 (show Kd.M k33 _ _ _ (⟨1, (⟨#[66]⟩ : ByteArray), (⟨#[65]⟩ : ByteArray)⟩ : S33) [.int .i64 1, .string (⟨#[66]⟩ : ByteArray), .string (⟨#[65]⟩ : ByteArray)] from (k33_mkM _ _ _ (⟨1, (⟨#[66]⟩ : ByteArray), (⟨#[65]⟩ : ByteArray)⟩ : S33) )) (Reps.c3 (show Kd.M k33 _ _ _ (⟨1, (⟨#[67]⟩ : ByteArray), (⟨#[66]⟩ : ByteArray)⟩ : S33) [.int .i64 1, .string (⟨#[67]⟩ : ByteArray), .string (⟨#[66]⟩ : ByteArray)] from (k33_mkM _ _ _ (⟨1, (⟨#[67]⟩ : ByteArray), (⟨#[66]⟩ : ByteArray)⟩ : S33) )) (Reps.c3 (show Kd.M k33 _ _ _ (⟨1, (⟨#[67]⟩ : ByteArray), (⟨#[65]⟩ : ByteArray)⟩ : S33) [.int .i64 1, .string (⟨#[67]⟩ : ByteArray), .string (⟨#[65]⟩ : ByteArray)] from (k33_mkM _ _ _ (⟨1, (⟨#[67]⟩ : ByteArray), (⟨#[65]⟩ : ByteArray)⟩ : S33) )) (Reps.none _ _))))); intro d4 m1 e7 hb hg_ hnew_; clear hg_ hnew_; rw [← Ny569.out] at e7; have a0 := mR e7;replace HB := uW hb; clear hb e7) | (refine gd 9 ?_; (try (refine gate_guard (by rfl) ?_; dsimp only)); refine Kd.R_lit Kd.string _ 34 ?hg (N := 9) ?hd (xs := ([(⟨#[45, 49]⟩ : ByteArray)] : List ByteArray)) (inner := [.string (⟨#[45, 49]⟩ : ByteArray)]) (ok := fun _ => True) (okp := fun _ => True) ?hr ?hp (fun _ hk => hk) trivial (Below.refl _ _) (Nat.le_refl _) (by simp) ?_; (case hd => rfl); (case hg => rfl); (case hr => exact aH); (case hp => exact (Reps.one (show Kd.M Kd.string _ _ _ (⟨#[45, 49]⟩ : ByteArray) [.string (⟨#[45, 49]⟩ : ByteArray)] from rfl) (Reps.none _ _))); intro j3 m2 e8 hb hg_ hnew_; clear hg_ hnew_; rw [← Ny572.out] at e8; replace a0 := uR a0 hb;have c9 := mR e8;replace HB := uW hb; clear hb e8; obtain ⟨f5, f6, g9⟩ := Kd.R_slice c9.out; subst g9) | (refine gd 11 ?_; (try (refine gate_guard (by rfl) ?_; dsimp only)); refine Kd.R_lit Kd.string _ 34 ?hg (N := 11) ?hd (xs := ([(⟨#[49]⟩ : ByteArray)] : List ByteArray)) (inner := [.string (⟨#[49]⟩ : ByteArray)]) (ok := fun _ => True) (okp := fun _ => True) ?hr ?hp (fun _ hk => hk) trivial (Below.refl _ _) (Nat.le_refl _) (by simp) ?_; (case hd => rfl); (case hg => rfl); (case hr => exact aH); (case hp => exact (Reps.one (show Kd.M Kd.string _ _ _ (⟨#[49]⟩ : ByteArray) [.string (⟨#[49]⟩ : ByteArray)] from rfl) (Reps.none _ _))); intro j4 j5 e1 hb hg_ hnew_; clear hg_ hnew_; rw [← Ny575.out] at e1; replace a0 := uR a0 hb;have d5 := mk0 (Kd.R_lower (Kd.R_new' e1 (Kd.R_lt (pR c9.out))) (below_size (aB)));replace c9 := dR c9 (Kd.R_base e1) hb;replace HB := uW hb; clear hb e1; obtain ⟨f7, f8, i1⟩ := Kd.R_slice d5.out; subst i1) | (refine gd 13 ?_; (try (refine gate_guard (by rfl) ?_; dsimp only)); refine Kd.N_lit k37 _ 37 ?hg (N' := 13) ?hd (xs := ([(⟨d1, (⟨#[45, 49]⟩ : ByteArray)⟩ : S37), (⟨d3, (⟨#[51]⟩ : ByteArray)⟩ : S37)] : List (S37))) (inner := [.slice f5 d1.length f6, .string (⟨#[45, 49]⟩ : ByteArray), .slice f7 d3.length f8, .string (⟨#[51]⟩ : ByteArray)]) (ok := (fun k_ => some k_ ≠ (d4 : Value).ownBlock)) (okp := (fun k_ => some k_ ≠ (d4 : Value).ownBlock)) ?hr ?hp (fun _ hk => hk) ((show ∀ k_, j5.heap.size ≤ k_ → (fun k_ => some k_ ≠ (d4 : Value).ownBlock) k_ from fun k_ hk => Kd.fresh' (Kd.R_lt (pR a0.out)) k_ hk) _ (Nat.le_refl _)) (Below.refl _ _) (Nat.le_refl _) (by simp) ?_; (case hd => rfl); (case hg => rfl); (case hr => exact aH); (case hp => exact (Reps.c2 (show Kd.FK k37 _ _ (⟨d1, (⟨#[45, 49]⟩ : ByteArray)⟩ : S37) [.slice f5 d1.length f6, .string (⟨#[45, 49]⟩ : ByteArray)] from (k37_mkF _ _ (⟨d1, (⟨#[45, 49]⟩ : ByteArray)⟩ : S37) (Kd.R_reads' (Kd.R_mono (ok' := (fun k_ => some k_ ≠ (d4 : Value).ownBlock)) (Kd.R_apart' (c9.out) (Kd.R_typed a0.out) (by decide)) (fun k_ hk => hk.2))).2.1 (Kd.R_F (Kd.R_mono (ok' := (fun k_ => some k_ ≠ (d4 : Value).ownBlock)) (Kd.R_apart' (c9.out) (Kd.R_typed a0.out) (by decide)) (fun k_ hk => hk.2))))) (Reps.c2 (show Kd.FK k37 _ _ (⟨d3, (⟨#[51]⟩ : ByteArray)⟩ : S37) [.slice f7 d3.length f8, .string (⟨#[51]⟩ : ByteArray)] from (k37_mkF _ _ (⟨d3, (⟨#[51]⟩ : ByteArray)⟩ : S37) (Kd.R_reads' (Kd.R_mono (ok' := (fun k_ => some k_ ≠ (d4 : Value).ownBlock)) (Kd.R_apart' (d5.out) (Kd.R_typed a0.out) (by decide)) (fun k_ hk => hk.2))).2.1 (Kd.R_F (Kd.R_mono (ok' := (fun k_ => some k_ ≠ (d4 : Value).ownBlock)) (Kd.R_apart' (d5.out) (Kd.R_typed a0.out) (by decide)) (fun k_ hk => hk.2))))) (Reps.none _ _)))); intro j6 m3 e9 hb hg_ hnew_; clear hg_ hnew_; rw [← Ny578.out] at e9; replace a0 := uR a0 hb;have a4 := mN e9;replace HB := uW hb;clear c9 d5; clear hb e9) | (refine gd 14 ?_; (try (refine gate_guard (by rfl) ?_; dsimp only)); refine Kd.R_lit Kd.string _ 34 ?hg (N := 14) ?hd (xs := ([(⟨#[49]⟩ : ByteArray)] : List ByteArray)) (inner := [.string (⟨#[49]⟩ : ByteArray)]) (ok := fun _ => True) (okp := fun _ => True) ?hr ?hp (fun _ hk => hk) trivial (Below.refl _ _) (Nat.le_refl _) (by simp) ?_; (case hd => rfl); (case hg => rfl); (case hr => exact aH); (case hp => exact (Reps.one (show Kd.M Kd.string _ _ _ (⟨#[49]⟩ : ByteArray) [.string (⟨#[49]⟩ : ByteArray)] from rfl) (Reps.none _ _))); intro j7 m4 e2 hb hg_ hnew_; clear hg_ hnew_; rw [← Ny581.out] at e2; replace a0 := uR a0 hb;replace a4 := dN a4 (Kd.R_base e2) hb;have a3 := mR e2;replace HB := uW hb; clear hb e2) | (refine gd 15 ?_; (try (refine gate_guard (by rfl) ?_; dsimp only)); refine Kd.R_lit Kd.string _ 34 ?hg (N := 15) ?hd (xs := ([(⟨#[49]⟩ : ByteArray), (⟨#[48]⟩ : ByteArray)] : List ByteArray)) (inner := [.string (⟨#[49]⟩ : ByteArray), .string (⟨#[48]⟩ : ByteArray)]) (ok := fun _ => True) (okp := fun _ => True) ?hr ?hp (fun _ hk => hk) trivial (Below.refl _ _) (Nat.le_refl _) (by simp) ?_; (case hd => rfl); (case hg => rfl); (case hr => exact aH); (case hp => exact (Reps.one (show Kd.M Kd.string _ _ _ (⟨#[49]⟩ : ByteArray) [.string (⟨#[49]⟩ : ByteArray)] from rfl) (Reps.one (show Kd.M Kd.string _ _ _ (⟨#[48]⟩ : ByteArray) [.string (⟨#[48]⟩ : ByteArray)] from rfl) (Reps.none _ _)))); intro j8 m5 d7 hb hg_ hnew_; clear hg_ hnew_; rw [← Ny584.out] at d7; replace a0 := uR a0 hb;replace a4 := dN a4 (Kd.R_base d7) hb;have a6 := mk0 (Kd.R_lower (Kd.R_new' d7 (Kd.R_lt (pR a3.out))) (below_size (aB)));replace a3 := dR a3 (Kd.R_base d7) hb;replace HB := uW hb; clear hb d7; obtain ⟨e3, e4, i2⟩ := Kd.R_slice a6.out; subst i2) | (refine gd 4 ?_; (try (refine gate_guard (by rfl) ?_; dsimp only)); refine box_event ?hg (N := 4) ?hd (cs := #[.slice none 0 0]) (t := 40) ?hr ?_; (case hd => rfl); (case hg => rfl); (case hr => exact aH); intro d2 hg j9 hbox hb; replace a0 := uR a0 hb;replace a4 := eN a4 hg hb;replace a3 := uR a3 hb;replace a6 := uR a6 hb;have a7 := mk0 (hbox);have j1 := uG hg;have j2 := uG hg;replace HB := uW hb; clear hb hbox hg; have g3 : j9.cell? ⟨d2, 0, none⟩ = some (.slice none 0 0) := (blk_cell a7.out 0).trans rfl; have g4 := blk_frozen a7.out 0) | (refine gc 9 ?_; refine gl 17 Tryz.func9 #[.string (⟨#[51, 47, 54]⟩ : ByteArray)] ?_; (with_reducible refine (checker_Number.calls k (⟨#[51, 47, 54]⟩ : ByteArray) false _ A1.out).mono ?_); rintro e m6 ⟨rfl, hb⟩; refine ⟨_, rfl, ?_⟩; replace a0 := mk0 (Kd.R_below (by (with_reducible repeat (first | apply Kd.R_alloc | apply Kd.R_drewN | apply Kd.R_drew)); exact (Kd.R_mono (Kd.R_far (p := ⟨d2, 0, none⟩) (Kd.R_types a0.out a7.out (by decide)) (fun _ hk => hk.2) (.slice e3 a5.length e4)) (fun _ h_ => h_.1))) hb);replace a4 := mk0 (Kd.N_below (tN a4.out) hb);replace a3 := mk0 (Kd.R_below (by (with_reducible repeat (first | apply Kd.R_alloc | apply Kd.R_drewN | apply Kd.R_drew)); exact (Kd.R_mono (Kd.R_far (p := ⟨d2, 0, none⟩) (Kd.R_types a3.out a7.out (by decide)) (fun _ hk => hk.2) (.slice e3 a5.length e4)) (fun _ h_ => h_.1))) hb);replace a6 := mk0 (Kd.R_below (by (with_reducible repeat (first | apply Kd.R_alloc | apply Kd.R_drewN | apply Kd.R_drew)); exact (Kd.R_mono (Kd.R_far (p := ⟨d2, 0, none⟩) (Kd.R_types a6.out a7.out (by decide)) (fun _ hk => hk.2) (.slice e3 a5.length e4)) (fun _ h_ => h_.1))) hb);replace a7 := mk0 (blk_below (g := d2) (o := .cells #[.slice e3 a5.length e4] 40 (0, 0)) sB hb);replace HB := uW hb; (try clear hb); (try clear hb2); (try clear hk); (try clear hi)) | (go_at_call 9; (with_reducible refine (checker_Number.calls k (⟨#[45, 51, 47, 50]⟩ : ByteArray) true _ A3.out).mono ?_); rintro e m7 ⟨rfl, hb⟩; replace a0 := uR a0 hb;replace a4 := uN a4 hb;replace a3 := uR a3 hb;replace a6 := uR a6 hb;replace a7 := uB a7 hb;replace HB := uW hb; (try clear hb); (try clear hb2); (try clear hk); (try clear hi)) | (refine gd 24 ?_; (try (refine gate_guard (by rfl) ?_; dsimp only)); refine Kd.R_lit (Kd.int .i64) _ 3 ?hg (N := 24) ?hd (xs := ([0, 1] : List Int)) (inner := [.int .i64 0, .int .i64 1]) (ok := fun _ => True) (okp := fun _ => True) ?hr ?hp (fun _ hk => hk) trivial (Below.refl _ _) (Nat.le_refl _) (by simp) ?_; (case hd => rfl); (case hg => rfl); (case hr => exact aH); (case hp => exact (Reps.one (show Kd.M (Kd.int .i64) _ _ _ 0 [.int .i64 0] from rfl) (Reps.one (show Kd.M (Kd.int .i64) _ _ _ 1 [.int .i64 1] from rfl) (Reps.none _ _)))); intro k0 m8 e5 hb hg_ hnew_; clear hg_ hnew_; rw [← Ny590.out] at e5; replace a0 := uR a0 hb;replace a4 := dN a4 (Kd.R_base e5) hb;replace a3 := uR a3 hb;replace a6 := uR a6 hb;have b3 := mR e5;replace a7 := uB a7 hb;replace HB := uW hb; clear hb e5; obtain ⟨k1, k2, i3⟩ := Kd.R_slice a0.out; subst i3; obtain ⟨k3, k4, i4⟩ := Kd.R_slice b3.out; subst i4) | (go_at_call 10; (with_reducible refine (checker_Implied.calls k _ _ a2 2 _ _ f0 true _ ?side1 ?side2 ?side3 ?side4 A5.out).mono ?_); (case side1 => exact pC ((Kd.R_reads' a0.out).2.2)); (case side2 => exact (Kd.R_reads' a0.out).2.1); (case side3 => exact pC ((Kd.R_reads' b3.out).2.2)); (case side4 => exact (Kd.R_reads' b3.out).2.1); rintro e w' ⟨rfl, ⟨nd, rfl⟩⟩) | (refine gd 29 ?_; (try (refine gate_guard (by rfl) ?_; dsimp only)); refine Kd.R_lit (Kd.int .i64) _ 3 ?hg (N := 29) ?hd (xs := ([1, 0] : List Int)) (inner := [.int .i64 1, .int .i64 0]) (ok := fun _ => True) (okp := fun _ => True) ?hr ?hp (fun _ hk => hk) trivial (Below.refl _ _) (Nat.le_refl _) (by simp) ?_; (case hd => rfl); (case hg => rfl); (case hr => exact aH); (case hp => exact (Reps.one (show Kd.M (Kd.int .i64) _ _ _ 1 [.int .i64 1] from rfl) (Reps.one (show Kd.M (Kd.int .i64) _ _ _ 0 [.int .i64 0] from rfl) (Reps.none _ _)))); intro k5 m9 d8 hb hg_ hnew_; clear hg_ hnew_; rw [← Ny594.out] at d8; replace a0 := uR a0 hb;replace a4 := dN a4 (Kd.R_base d8) hb;replace a3 := uR a3 hb;replace a6 := uR a6 hb;have b5 := mk0 (Kd.R_lower (Kd.R_new' d8 (Kd.R_lt (pR b3.out))) (below_size (aB)));replace b3 := dR b3 (Kd.R_base d8) hb;replace a7 := uB a7 hb;replace HB := uW hb; clear hb d8; obtain ⟨k6, k7, i5⟩ := Kd.R_slice b5.out; subst i5) | (go_at_call 10; (with_reducible refine (checker_Implied.calls k _ _ a2 2 _ _ f1 false _ ?side1 ?side2 ?side3 ?side4 A7.out).mono ?_); (case side1 => exact pC ((Kd.R_reads' a0.out).2.2)); (case side2 => exact (Kd.R_reads' a0.out).2.1); (case side3 => exact pC ((Kd.R_reads' b5.out).2.2)); (case side4 => exact (Kd.R_reads' b5.out).2.1); rintro e w' ⟨rfl, ⟨nd, rfl⟩⟩) | (refine gd 35 ?_; (try (refine gate_guard (by rfl) ?_; dsimp only)); refine Kd.R_lit Kd.string _ 9 ?hg (N := 35) ?hd (xs := ([(⟨#[65]⟩ : ByteArray), (⟨#[66]⟩ : ByteArray), (⟨#[67]⟩ : ByteArray)] : List ByteArray)) (inner := [.string (⟨#[65]⟩ : ByteArray), .string (⟨#[66]⟩ : ByteArray), .string (⟨#[67]⟩ : ByteArray)]) (ok := fun _ => True) (okp := fun _ => True) ?hr ?hp (fun _ hk => hk) trivial (Below.refl _ _) (Nat.le_refl _) (by simp) ?_; (case hd => rfl); (case hg => rfl); (case hr => exact aH); (case hp => exact (Reps.one (show Kd.M Kd.string _ _ _ (⟨#[65]⟩ : ByteArray) [.string (⟨#[65]⟩ : ByteArray)] from rfl) (Reps.one (show Kd.M Kd.string _ _ _ (⟨#[66]⟩ : ByteArray) [.string (⟨#[66]⟩ : ByteArray)] from rfl) (Reps.one (show Kd.M Kd.string _ _ _ (⟨#[67]⟩ : ByteArray) [.string (⟨#[67]⟩ : ByteArray)] from rfl) (Reps.none _ _))))); intro k8 n0 e6 hb hg_ hnew_; clear hg_ hnew_; rw [← Ny598.out] at e6; replace a0 := uR a0 hb;replace a4 := dN a4 (Kd.R_base e6) hb;replace a3 := uR a3 hb;replace a6 := uR a6 hb;replace b3 := uR b3 hb;replace b5 := uR b5 hb;have b6 := mR e6;replace a7 := uB a7 hb;replace HB := uW hb; clear hb e6; obtain ⟨k9, l0, i6⟩ := Kd.R_slice b6.out; subst i6) | (go_at_call 7; (with_reducible refine (checker_Order.calls _ _ a2 _ _ f2 true _ ?side1 ?side2 ?side3 ?side4 A9.out).mono ?_); (case side1 => exact pC ((Kd.R_reads' a0.out).2.2)); (case side2 => exact (Kd.R_reads' a0.out).2.1); (case side3 => exact pC ((Kd.R_reads' b6.out).2.2)); (case side4 => exact (Kd.R_reads' b6.out).2.1); rintro e n1 ⟨rfl, hb⟩; replace a0 := uR a0 hb;replace a4 := uN a4 hb;replace a3 := uR a3 hb;replace a6 := uR a6 hb;replace b3 := uR b3 hb;replace b5 := uR b5 hb;replace b6 := uR b6 hb;replace a7 := uB a7 hb;replace HB := uW hb; (try clear hb); (try clear hb2); (try clear hk); (try clear hi)) | (refine gd 40 ?_; (try (refine gate_guard (by rfl) ?_; dsimp only)); refine Kd.R_lit Kd.string _ 9 ?hg (N := 40) ?hd (xs := ([(⟨#[66]⟩ : ByteArray), (⟨#[65]⟩ : ByteArray), (⟨#[67]⟩ : ByteArray)] : List ByteArray)) (inner := [.string (⟨#[66]⟩ : ByteArray), .string (⟨#[65]⟩ : ByteArray), .string (⟨#[67]⟩ : ByteArray)]) (ok := fun _ => True) (okp := fun _ => True) ?hr ?hp (fun _ hk => hk) trivial (Below.refl _ _) (Nat.le_refl _) (by simp) ?_; (case hd => rfl); (case hg => rfl); (case hr => exact aH); (case hp => exact (Reps.one (show Kd.M Kd.string _ _ _ (⟨#[66]⟩ : ByteArray) [.string (⟨#[66]⟩ : ByteArray)] from rfl) (Reps.one (show Kd.M Kd.string _ _ _ (⟨#[65]⟩ : ByteArray) [.string (⟨#[65]⟩ : ByteArray)] from rfl) (Reps.one (show Kd.M Kd.string _ _ _ (⟨#[67]⟩ : ByteArray) [.string (⟨#[67]⟩ : ByteArray)] from rfl) (Reps.none _ _))))); intro l1 n2 d9 hb hg_ hnew_; clear hg_ hnew_; rw [← Ny602.out] at d9; replace a0 := uR a0 hb;replace a4 := dN a4 (Kd.R_base d9) hb;replace a3 := uR a3 hb;replace a6 := uR a6 hb;replace b3 := uR b3 hb;replace b5 := uR b5 hb;have b9 := mk0 (Kd.R_lower (Kd.R_new' d9 (Kd.R_lt (pR b6.out))) (below_size (aB)));replace b6 := dR b6 (Kd.R_base d9) hb;replace a7 := uB a7 hb;replace HB := uW hb; clear hb d9; obtain ⟨l2, l3, i7⟩ := Kd.R_slice b9.out; subst i7) | (go_at_call 7; (with_reducible refine (checker_Order.calls _ _ a2 _ _ f3 false _ ?side1 ?side2 ?side3 ?side4 A11.out).mono ?_); (case side1 => exact pC ((Kd.R_reads' a0.out).2.2)); (case side2 => exact (Kd.R_reads' a0.out).2.1); (case side3 => exact pC ((Kd.R_reads' b9.out).2.2)); (case side4 => exact (Kd.R_reads' b9.out).2.1); rintro e n3 ⟨rfl, hb⟩; replace a0 := uR a0 hb;replace a4 := uN a4 hb;replace a3 := uR a3 hb;replace a6 := uR a6 hb;replace b3 := uR b3 hb;replace b5 := uR b5 hb;replace b6 := uR b6 hb;replace b9 := uR b9 hb;replace a7 := uB a7 hb;replace HB := uW hb; (try clear hb); (try clear hb2); (try clear hk); (try clear hi); have g5 := cZ a7 0; have g6 := blk_frozen a7.out 0; obtain ⟨l4, l5, i8⟩ := Kd.N_slice a4.out; subst i8; obtain ⟨l6, l7, i9⟩ := Kd.R_slice a3.out; subst i9) | (go_at_call 11; (with_reducible refine (checker_Optimal.calls k _ _ a8 _ _ a1 _ _ a1 _ _ a5 true _ ?side1 ?side2 ?side3 ?side4 ?side5 ?side6 ?side7 ?side8 ?side9 A13.out).mono ?_); (case side1 => exact GW.below HG.out (aB)); (case side2 => exact pC ((Kd.N_reads' a4.out).2.2)); (case side3 => exact (Kd.N_reads' a4.out).2.1); (case side4 => exact pC ((Kd.R_reads' a3.out).2.2)); (case side5 => exact (Kd.R_reads' a3.out).2.1); (case side6 => exact pC ((Kd.R_reads' a3.out).2.2)); (case side7 => exact (Kd.R_reads' a3.out).2.1); (case side8 => exact pC ((Kd.R_reads' a6.out).2.2)); (case side9 => exact (Kd.R_reads' a6.out).2.1); rintro e n4 ⟨rfl, hb⟩; replace a0 := uR a0 hb;replace a4 := uN a4 hb;replace a3 := uR a3 hb;replace a6 := uR a6 hb;replace b3 := uR b3 hb;replace b5 := uR b5 hb;replace b6 := uR b6 hb;replace b9 := uR b9 hb;replace a7 := uB a7 hb;replace HB := uW hb; (try clear hb); (try clear hb2); (try clear hk); (try clear hi)) | (refine gd 54 ?_; (try (refine gate_guard (by rfl) ?_; dsimp only)); refine Kd.R_lit Kd.string _ 34 ?hg (N := 54) ?hd (xs := ([(⟨#[50]⟩ : ByteArray)] : List ByteArray)) (inner := [.string (⟨#[50]⟩ : ByteArray)]) (ok := fun _ => True) (okp := fun _ => True) ?hr ?hp (fun _ hk => hk) trivial (Below.refl _ _) (Nat.le_refl _) (by simp) ?_; (case hd => rfl); (case hg => rfl); (case hr => exact aH); (case hp => exact (Reps.one (show Kd.M Kd.string _ _ _ (⟨#[50]⟩ : ByteArray) [.string (⟨#[50]⟩ : ByteArray)] from rfl) (Reps.none _ _))); intro l8 n5 d6 hb hg_ hnew_; clear hg_ hnew_; rw [← Ny607.out] at d6; replace a0 := uR a0 hb;replace a4 := dN a4 (Kd.R_base d6) hb;replace b3 := uR b3 hb;replace b5 := uR b5 hb;replace b6 := uR b6 hb;replace b9 := uR b9 hb;have d0 := mk0 (Kd.R_lower (Kd.R_new' (Kd.R_new' d6 (Kd.R_lt (pR a3.out))) (Kd.R_lt (pR a6.out))) (below_size (aB)));replace a3 := dR a3 (Kd.R_base d6) hb;replace a6 := dR a6 (Kd.R_base d6) hb;replace a7 := uB a7 hb;replace HB := uW hb; clear hb d6; have g7 := cZ a7 0; have g8 := blk_frozen a7.out 0; obtain ⟨l9, m0, j0⟩ := Kd.R_slice d0.out; subst j0) | (go_at_call 11; (with_reducible refine (checker_Optimal.calls k _ _ a8 _ _ a1 _ _ f4 _ _ a5 false _ ?side1 ?side2 ?side3 ?side4 ?side5 ?side6 ?side7 ?side8 ?side9 A15.out).mono ?_); (case side1 => exact GW.below HG.out (aB)); (case side2 => exact pC ((Kd.N_reads' a4.out).2.2)); (case side3 => exact (Kd.N_reads' a4.out).2.1); (case side4 => exact pC ((Kd.R_reads' a3.out).2.2)); (case side5 => exact (Kd.R_reads' a3.out).2.1); (case side6 => exact pC ((Kd.R_reads' d0.out).2.2)); (case side7 => exact (Kd.R_reads' d0.out).2.1); (case side8 => exact pC ((Kd.R_reads' a6.out).2.2)); (case side9 => exact (Kd.R_reads' a6.out).2.1); rintro e n6 ⟨rfl, hb⟩; replace a0 := uR a0 hb;replace a4 := uN a4 hb;replace a3 := uR a3 hb;replace a6 := uR a6 hb;replace b3 := uR b3 hb;replace b5 := uR b5 hb;replace b6 := uR b6 hb;replace b9 := uR b9 hb;replace d0 := uR d0 hb;replace a7 := uB a7 hb;replace HB := uW hb; (try clear hb); (try clear hb2); (try clear hk); (try clear hi)) | (go_at_call 12; (refine (checker_Map.calls _ _ ([] : List (S115)) _ _ ([] : List (S120)) _ _ ([] : List ByteArray) a9 _ ?side1 ?side2 ?side3 ?side4 ?side5 ?side6 A17.out).mono ?_); (case side1 => exact Kd.C_nil _ _); (case side2 => exact Nat.le_refl _); (case side3 => exact Kd.C_nil _ _); (case side4 => exact Nat.le_refl _); (case side5 => exact Kd.C_nil _ _); (case side6 => exact Nat.le_refl _); rintro e n7 ⟨rfl, hb⟩; replace a0 := uR a0 hb;replace a4 := uN a4 hb;replace a3 := uR a3 hb;replace a6 := uR a6 hb;replace b3 := uR b3 hb;replace b5 := uR b5 hb;replace b6 := uR b6 hb;replace b9 := uR b9 hb;replace d0 := uR d0 hb;replace a7 := uB a7 hb;replace HB := uW hb; (try clear hb); (try clear hb2); (try clear hk); (try clear hi)))
         go_ret
         exact ⟨by first | rfl | (simp [*] <;> rfl), aB⟩
       ·
        replace g1 := Bool.eq_false_iff.mpr g1
        subst g1
        have H1 : (some false) = some r := by rw [if_neg (show ¬ (false = true) by decide)] at H; exact H
        clear H
        have H := H1
        clear H1
        exact absurd ((Option.some.inj H).trans HRT.out) (by decide)
     ·
      replace f9 := Bool.eq_false_iff.mpr f9
      subst f9
      have H1 : (some false) = some r := by rw [if_neg (show ¬ (false = true) by decide)] at H; exact H
      clear H
      have H := H1
      clear H1
      exact absurd ((Option.some.inj H).trans HRT.out) (by decide)
   ·
    replace c6 := Bool.eq_false_iff.mpr c6
    subst c6
    have H1 : (some false) = some r := by rw [if_neg (show ¬ (false = true) by decide)] at H; exact H
    clear H
    have H := H1
    clear H1
    exact absurd ((Option.some.inj H).trans HRT.out) (by decide)
  ·
   replace c4 := Bool.eq_false_iff.mpr c4
   subst c4
   have H1 : (some false) = some r := by rw [if_neg (show ¬ (false = true) by decide)] at H; exact H
   clear H
   have H := H1
   clear H1
   exact absurd ((Option.some.inj H).trans HRT.out) (by decide)
def klippelaw55_knownT.f : Option (Bool) := some true
set_option maxRecDepth 1000000 in
theorem klippelaw55_known.yes : klippelaw55_known.f 400 = some true := by kernel_rfl
theorem klippelaw55_knownT.calls (r : Bool) (w : World) (hG : GW w) (h : klippelaw55_knownT.f = some r) :
  Calls Tryz.prog 4 #[] w fun e w' => e = .returned (.bool r) ∧ Below w.heap.size w w' := by
 obtain rfl := Option.some.inj h
 exact klippelaw55_known.calls 400 true w rfl hG klippelaw55_known.yes
def klippelaw21_Fits.f (l0 : List (S50)) : Option (Bool) := some (decide ((l0.length : Int) ≤ 8))
set_option maxHeartbeats 8000000 in
set_option maxRecDepth 100000 in
theorem klippelaw21_Fits.calls (A0 : Option Addr) (c0 : Nat) (l0 : List (S50)) (r : Bool) (w : World) (hr0 : Kd.C k50 w A0 l0.length l0) (hc0 : l0.length ≤ c0) (h : klippelaw21_Fits.f l0 = some r) :
  Calls Tryz.prog 5 #[.slice A0 l0.length c0] w fun e w' => e = .returned (.bool r) ∧ Drawn0 w w' := by
 have HR0 := mk0 hr0
 have a0 := mk0 hc0
 clear hr0 hc0
 have H : (some (decide ((l0.length : Int) ≤ 8))) = some r := h
 clear h
 obtain rfl := Option.some.inj H
 go_enter Tryz.func5, Tryz.ntmps5
 go_wp2
 go_ret
 exact ⟨by first | rfl | simp [*], by repeat (first | exact Drawn0.refl _ | apply Drawn0.step)⟩
def klippelaw21_Name.f (a0 : Int) : Option (ByteArray) := some (strOfNums (([(wrap64 (65 + a0)) % 256] : List Int)))
set_option maxHeartbeats 8000000 in
set_option maxRecDepth 100000 in
theorem klippelaw21_Name.calls (a0 : Int) (r : ByteArray) (w : World) (h : klippelaw21_Name.f a0 = some r) :
  Calls Tryz.prog 13 #[.int .i64 a0] w fun e w' => e = .returned (.string r) ∧ Below w.heap.size w w' := by
 have HB := mk0 (Below.refl w.heap.size w)
 have H : (some (strOfNums (([(wrap64 (65 + a0)) % 256] : List Int)))) = some r := h
 clear h
 obtain ⟨a2, hy612⟩ : ∃ y_ : List Int, y_ = (([(wrap64 (65 + a0)) % 256] : List Int)) := ⟨_, rfl⟩
 replace H : (some (strOfNums a2)) = some r := by first | (rw [hy612]; exact H) | (rw [hy612]; exact (Option.bind_some _ _).symm.trans H) | exact (Option.bind_some _ _).symm.trans H
 have Ny612 := mk0 hy612
 clear hy612
 obtain rfl := Option.some.inj H
 go_enter Tryz.func13, Tryz.ntmps13
 go_wp2_with (first | (refine gd 6 ?_; refine Kd.R_lit (Kd.int .u8) _ 5 ?hg (N := 6) ?hd (xs := ([(wrap64 (65 + a0)) % 256] : List Int)) (inner := [.int .u8 ((wrap64 (65 + a0)) % 256)]) (ok := fun _ => True) (okp := fun _ => True) ?hr ?hp (fun _ hk => hk) trivial (Below.refl _ _) (Nat.le_refl _) (by simp) ?_; (case hd => rfl); (case hg => rfl); (case hr => exact aH); (case hp => exact (Reps.one (show Kd.M (Kd.int .u8) _ _ _ ((wrap64 (65 + a0)) % 256) [.int .u8 ((wrap64 (65 + a0)) % 256)] from rfl) (Reps.none _ _))); intro a4 w2 a3 hb hg_ hnew_; clear hg_ hnew_; rw [← Ny612.out] at a3; have a1 := mR a3;replace HB := uW hb; clear hb a3; have hcv4 := own_string (P := Tryz.prog) Tryz.underlying99 Tryz.underlying5 Tryz.underlying9 (Kd.own_of_R a1.out)))
 go_ret
 exact ⟨by first | rfl | (simp [*] <;> rfl), aB⟩
mutual
def klippelaw21_Make.l0 : Nat → List (S50) → List (S33) → Int → Option ((List (S33)))
 | 0, _, _, _ => none
 | k + 1, x0, x3, x4 => if x4 < (x0.length : Int) then (klippelaw21_Make.j1 k x0 x3 x4 (decide (x4 < 8))) else (klippelaw21_Make.j1 k x0 x3 x4 false)
def klippelaw21_Make.j1 : Nat → List (S50) → List (S33) → Int → Bool → Option ((List (S33)))
 | 0, _, _, _, _ => none
 | k + 1, x0, x3, x4, x14 => if x14 = true then (if 0 ≤ x4 then (if x4 < (x0.length : Int) then (if (wrap64 (Int.tmod ((rd_T50 x0 x4).f1) 6)) = (wrap64 (Int.tmod ((rd_T50 x0 x4).f2) 6)) then ((klippelaw21_Name.f (wrap64 (Int.tmod ((rd_T50 x0 x4).f1) 6))).bind fun b8 => ((klippelaw21_Name.f (Int.tmod (wrap64 ((wrap64 (Int.tmod ((rd_T50 x0 x4).f1) 6)) + 1)) 6)).bind fun b9 => (if x3.length < 3518437208883 then (klippelaw21_Make.l0 k x0 (x3 ++ [(⟨wrap64 (1 + (wrap64 (Int.tmod ((rd_T50 x0 x4).f0) 4))), b8, b9⟩ : S33)]) (wrap64 (x4 + 1))) else (none)))) else ((klippelaw21_Name.f (wrap64 (Int.tmod ((rd_T50 x0 x4).f1) 6))).bind fun c8 => ((klippelaw21_Name.f (wrap64 (Int.tmod ((rd_T50 x0 x4).f2) 6))).bind fun c9 => (if x3.length < 3518437208883 then (klippelaw21_Make.l0 k x0 (x3 ++ [(⟨wrap64 (1 + (wrap64 (Int.tmod ((rd_T50 x0 x4).f0) 4))), c8, c9⟩ : S33)]) (wrap64 (x4 + 1))) else (none))))) else (none)) else (none)) else (some x3)
end
def klippelaw21_Make.f (k : Nat) (l0 : List (S50)) : Option ((List (S33))) := klippelaw21_Make.l0 k l0 ([] : List (S33)) 0
theorem klippelaw21_Make.mono_l : ∀ k, (∀ y0 y1 y2, LeO (klippelaw21_Make.l0 k y0 y1 y2) (klippelaw21_Make.l0 (k + 1) y0 y1 y2)) ∧ (∀ y0 y1 y2 y3, LeO (klippelaw21_Make.j1 k y0 y1 y2 y3) (klippelaw21_Make.j1 (k + 1) y0 y1 y2 y3))
 | 0 => ⟨fun _ _ _ r h => by simp [klippelaw21_Make.l0] at h, fun _ _ _ _ r h => by simp [klippelaw21_Make.j1] at h⟩
 | k + 1 => by
  obtain ⟨ih0, ih1⟩ := klippelaw21_Make.mono_l k
  refine ⟨?_, ?_⟩
  ·
   intro y0 y1 y2
   unfold klippelaw21_Make.l0
   repeat' first | (with_reducible first | exact ih0 .. | exact ih1 .. | exact LeO.refl _ | exact LeO.none _ | refine LeO.ite ?_ ?_ | refine LeO.bind ?_ (fun _ => ?_))
  ·
   intro y0 y1 y2 y3
   unfold klippelaw21_Make.j1
   repeat' first | (with_reducible first | exact ih0 .. | exact ih1 .. | exact LeO.refl _ | exact LeO.none _ | refine LeO.ite ?_ ?_ | refine LeO.bind ?_ (fun _ => ?_))
theorem klippelaw21_Make.mono : ∀ a0 k, LeO (klippelaw21_Make.f k a0) (klippelaw21_Make.f (k + 1) a0) := by
 intro a0 k
 obtain ⟨ih0, ih1⟩ := klippelaw21_Make.mono_l k
 unfold klippelaw21_Make.f
 repeat' first | (with_reducible first | exact ih0 .. | exact ih1 .. | exact LeO.refl _ | exact LeO.none _ | refine LeO.ite ?_ ?_ | refine LeO.bind ?_ (fun _ => ?_))
def klippelaw21_Make.T5 : Bool × List (List Nat × List Nat) := (true, [([], []), ([], []), ([0, 1], [0, 1]), ([2], [2]), ([3], [3]), ([4], [4]), ([5], [5]), ([], []), ([], []), ([7, 8], [7, 8]), ([9], [9]), ([10], [10]), ([11], [11]), ([12], [12]), ([6, 0, 1, 2, 3, 4, 5, 6], [6]), ([13, 14, 0, 1, 2, 3, 4, 5, 6, 7, 8, 9, 10, 11, 12, 13, 14], [13])])
def klippelaw21_Make.B5 : List Nat := [0, 0, 3, 7, 15, 31, 63, 0, 0, 384, 896, 1920, 3968, 8064, 127, 32767]
theorem klippelaw21_Make.tab5 : rtab .any (opsOf Tryz.f6 5) = klippelaw21_Make.T5 := by kernel_rfl
theorem klippelaw21_Make.bits5 : waitsOk klippelaw21_Make.T5.2 klippelaw21_Make.B5 = true := by kernel_rfl
def klippelaw21_Make.T8 : Bool × List (List Nat × List Nat) := (true, [([], []), ([], []), ([], []), ([1, 2], [1, 2]), ([3], [3]), ([4], [4]), ([5], [5]), ([6], [6]), ([7], [7]), ([], []), ([9], [9]), ([], []), ([11, 10], [11]), ([8, 10, 12], [8, 10, 12]), ([13], [13]), ([0, 14, 12], [0, 14]), ([15, 15, 0, 1, 2, 3, 4, 5, 6, 7, 8, 9, 10, 11, 12, 13, 14, 15], [0, 15])])
def klippelaw21_Make.B8 : List Nat := [0, 0, 0, 6, 14, 30, 62, 126, 254, 0, 512, 0, 3584, 8190, 16382, 32767, 65535]
theorem klippelaw21_Make.tab8 : rtab .any (opsOf Tryz.f6 8) = klippelaw21_Make.T8 := by kernel_rfl
theorem klippelaw21_Make.bits8 : waitsOk klippelaw21_Make.T8.2 klippelaw21_Make.B8 = true := by kernel_rfl
set_option maxHeartbeats 8000000 in
set_option maxRecDepth 100000 in
theorem klippelaw21_Make.calls (k : Nat) (A0 : Option Addr) (c0 : Nat) (l0 : List (S50)) (r : List (S33)) (w : World) (hr0 : Kd.C k50 w A0 l0.length l0) (hc0 : l0.length ≤ c0) (h : klippelaw21_Make.f k l0 = some r) :
  Calls Tryz.prog 6 #[.slice A0 l0.length c0] w fun e w' => ∃ v0_ : Value, e = .returned (v0_) ∧ Kd.R k33 33 w' w.heap.size (fun _ => True) v0_ r ∧ Below w.heap.size w w' := by
 have hu33 := Tryz.underlying33
 have HR0 := mk0 hr0
 have g7 := mk0 hc0
 clear hr0 hc0
 have HB := mk0 (Below.refl w.heap.size w)
 have H : (klippelaw21_Make.l0 k l0 ([] : List (S33)) 0) = some r := h
 clear h
 have H' := mk0 H
 clear H
 go_enter Tryz.func6, Tryz.ntmps6
 go_wp2
 go_loopg [3, 4] k (fun kq v3 v4 w' => ∃ (b1 : List (S33)) (a1 : Int), v4 = .int .i64 a1 ∧ Aside0 (klippelaw21_Make.l0 kq l0 b1 a1 = some r) ∧ Aside0 (kq ≤ k) ∧ Aside0 (Kd.R k33 33 w' w.heap.size (fun _ => True) v3 b1) ∧ Aside0 (Below w.heap.size w w'))
 case atStart => exact ⟨(([] : List (S33))), (0), (by first | rfl | simp [*]), H', ⟨Nat.le_refl _⟩, ⟨by first | exact Kd.R_nil _ _ _ _ _ | exact Kd.N_nil _ _ _ _ _ | exact Kd.V_nil _ _ _ _ _ | exact Kd.Q_nil _ _ _ _ _ | exact Kd.S_nil _ _ _ _ _⟩, ⟨aB⟩⟩
 case round =>
  clear H'
  obtain ⟨b1, a1, rfl, HA, HK1, b0, HB⟩ := hrel
  cases gk with
  | zero => exact absurd HA.out (by simp [klippelaw21_Make.l0])
  | succ k1 =>
   have H := HA.out
   clear HA
   simp only [klippelaw21_Make.l0] at H
   have f7 := mk0 H
   clear H
   go_upto_region 3 with (fail)
   go_cut [14] (fun g0 wc => ∃ (kq : Nat) (d4 : Bool), g0 = .bool d4 ∧ Aside0 (klippelaw21_Make.j1 kq l0 b1 a1 d4 = some r) ∧ Aside0 (kq ≤ k1) ∧ Aside0 (Kd.R k33 33 wc w.heap.size (fun _ => True) u3 b1) ∧ Aside0 (Below w.heap.size w wc))
   case first =>
    have H := f7.out
    clear f7
    by_cases c3 : a1 < (l0.length : Int)
    ·
     rw [if_pos c3] at H
     have d5 : decide (a1 < (l0.length : Int)) = true := decide_eq_true c3
     clear c3
     (first | rw [d5] | rw [e2] | (simp only [i64_w, i32_w]; rw [d5]) | skip)
     have H' := mk0 H
     clear H
     go_wp2
     go_meet
     case rel => exact ⟨_, (decide (a1 < 8)), (by first | rfl | simp [*]), H', ⟨by have := HK1.out; omega⟩, ⟨pR b0.out⟩, ⟨aB⟩⟩
    ·
     rw [if_neg c3] at H
     have d5 : decide (a1 < (l0.length : Int)) = false := decide_eq_false c3
     clear c3
     (first | rw [d5] | rw [e2] | (simp only [i64_w, i32_w]; rw [d5]) | skip)
     have H' := mk0 H
     clear H
     go_wp2
     go_meet
     case rel => exact ⟨_, (false), (by first | rfl | simp [*]), H', ⟨by have := HK1.out; omega⟩, ⟨pR b0.out⟩, ⟨aB⟩⟩
   case rest =>
    clear f7
    try clear p2
    try clear c3
    try clear d5
    try clear e2
    obtain ⟨kq, d4, rfl, HA, HJ1, b0, HB⟩ := hcut
    cases kq with
    | zero => exact absurd HA.out (by simp [klippelaw21_Make.j1])
    | succ kj1 =>
     have H := HA.out
     clear HA
     simp only [klippelaw21_Make.j1] at H
     by_cases c4 : d4 = true
     ·
      subst c4
      have H1 : (if 0 ≤ a1 then (if a1 < (l0.length : Int) then (if (wrap64 (Int.tmod ((rd_T50 l0 a1).f1) 6)) = (wrap64 (Int.tmod ((rd_T50 l0 a1).f2) 6)) then ((klippelaw21_Name.f (wrap64 (Int.tmod ((rd_T50 l0 a1).f1) 6))).bind fun b8 => ((klippelaw21_Name.f (Int.tmod (wrap64 ((wrap64 (Int.tmod ((rd_T50 l0 a1).f1) 6)) + 1)) 6)).bind fun b9 => (if b1.length < 3518437208883 then (klippelaw21_Make.l0 kj1 l0 (b1 ++ [(⟨wrap64 (1 + (wrap64 (Int.tmod ((rd_T50 l0 a1).f0) 4))), b8, b9⟩ : S33)]) (wrap64 (a1 + 1))) else (none)))) else ((klippelaw21_Name.f (wrap64 (Int.tmod ((rd_T50 l0 a1).f1) 6))).bind fun c8 => ((klippelaw21_Name.f (wrap64 (Int.tmod ((rd_T50 l0 a1).f2) 6))).bind fun c9 => (if b1.length < 3518437208883 then (klippelaw21_Make.l0 kj1 l0 (b1 ++ [(⟨wrap64 (1 + (wrap64 (Int.tmod ((rd_T50 l0 a1).f0) 4))), c8, c9⟩ : S33)]) (wrap64 (a1 + 1))) else (none))))) else (none)) else (none)) = some r := by rw [if_pos rfl] at H; exact H
      clear H
      have H := H1
      clear H1
      by_cases c5 : 0 ≤ a1
      ·
       rw [if_pos c5] at H
       have g1 : decide (0 ≤ a1) = true := decide_eq_true c5
       clear c5
       by_cases c6 : a1 < (l0.length : Int)
       ·
        rw [if_pos c6] at H
        have g2 : decide (a1 < (l0.length : Int)) = true := decide_eq_true c6
        clear c6
        by_cases c7 : (wrap64 (Int.tmod ((rd_T50 l0 a1).f1) 6)) = (wrap64 (Int.tmod ((rd_T50 l0 a1).f2) 6))
        ·
         rw [if_pos c7] at H
         have f8 : ((wrap64 (Int.tmod ((rd_T50 l0 a1).f1) 6)) == (wrap64 (Int.tmod ((rd_T50 l0 a1).f2) 6))) = true := beq_iff_eq.mpr c7
         have f9 : ((wrap64 (Int.tmod ((rd_T50 l0 a1).f1) 6)) != (wrap64 (Int.tmod ((rd_T50 l0 a1).f2) 6))) = false := bne_eq_false_iff_eq.mpr c7
         clear c7
         obtain ⟨b8, A8, H⟩ := bS H
         obtain ⟨b9, A9, H⟩ := bS H
         by_cases f4 : b1.length < 3518437208883
         ·
          rw [if_pos f4] at H
          have e3 := mk0 f4
          clear f4
          obtain ⟨e4, hy620⟩ : ∃ y_ : List (S33), y_ = (b1 ++ [(⟨wrap64 (1 + (wrap64 (Int.tmod ((rd_T50 l0 a1).f0) 4))), b8, b9⟩ : S33)]) := ⟨_, rfl⟩
          replace H : (klippelaw21_Make.l0 kj1 l0 e4 (wrap64 (a1 + 1))) = some r := by first | (rw [hy620]; exact H) | (rw [hy620]; exact (Option.bind_some _ _).symm.trans H) | exact (Option.bind_some _ _).symm.trans H
          have Ny620 := mk0 hy620
          clear hy620
          have H' := mk0 H
          clear H
          try go_wp2
          replace b0 := mk0 (Kd.R_drew b0.out)
          replace HB := mk0 (below_drew1 HB.out)
          have d0 : 0 ≤ (a1 : Int) := aD
          have d1 : a1 < (l0.length : Int) := aD
          obtain ⟨a2, e615, a4, a5, a6⟩ := at_T50 HR0.out a1 d0 d1
          have hw615_2 := a6
          have hw615_1 := a5
          have hw615_0 := a4
          cases e615
          replace a4 := (HB.out.cell (World.block_lt_of_cell? w _ a4)).trans a4
          replace a5 := (HB.out.cell (World.block_lt_of_cell? w _ a5)).trans a5
          replace a6 := (HB.out.cell (World.block_lt_of_cell? w _ a6)).trans a6
          replace d0 := eq_true d0
          replace d1 := eq_true d1
          have d2 : 0 ≤ (a1 : Int) := aD
          have d3 : a1 < (l0.length : Int) := aD
          obtain ⟨d6, e616, a7, a8, a9⟩ := at_T50 HR0.out a1 d2 d3
          have hw616_2 := a9
          have hw616_1 := a8
          have hw616_0 := a7
          obtain rfl : a2 = d6 := (by injection e616)
          replace a7 := (HB.out.cell (World.block_lt_of_cell? w _ a7)).trans a7
          replace a8 := (HB.out.cell (World.block_lt_of_cell? w _ a8)).trans a8
          replace a9 := (HB.out.cell (World.block_lt_of_cell? w _ a9)).trans a9
          replace d2 := eq_true d2
          replace d3 := eq_true d3
          refine start_ (n := 16) (S := fun w' => w'.cell? (a2.add ((a1).toNat * 3)) = some (.int .u8 ((rd_T50 l0 a1).f0)) ∧ w'.cell? ⟨(a2.add ((a1).toNat * 3)).block, (a2.add ((a1).toNat * 3)).off + 1, none⟩ = some (.int .u8 ((rd_T50 l0 a1).f1)) ∧ w'.cell? ⟨(a2.add ((a1).toNat * 3)).block, (a2.add ((a1).toNat * 3)).off + 2, none⟩ = some (.int .u8 ((rd_T50 l0 a1).f2)) ∧ w'.cell? (a2.add ((a1).toNat * 3)) = some (.int .u8 ((rd_T50 l0 a1).f0)) ∧ w'.cell? ⟨(a2.add ((a1).toNat * 3)).block, (a2.add ((a1).toNat * 3)).off + 1, none⟩ = some (.int .u8 ((rd_T50 l0 a1).f1)) ∧ w'.cell? ⟨(a2.add ((a1).toNat * 3)).block, (a2.add ((a1).toNat * 3)).off + 2, none⟩ = some (.int .u8 ((rd_T50 l0 a1).f2))) (ds := []) #[false, false, false, false, false, false, false, false, false, false, false, false, false, false, false, false] (by kernel_rfl) rfl rfl ⟨((HB.out.cell (World.block_lt_of_cell? w _ hw615_0)).trans hw615_0), ((HB.out.cell (World.block_lt_of_cell? w _ hw615_1)).trans hw615_1), ((HB.out.cell (World.block_lt_of_cell? w _ hw615_2)).trans hw615_2), ((HB.out.cell (World.block_lt_of_cell? w _ hw616_0)).trans hw616_0), ((HB.out.cell (World.block_lt_of_cell? w _ hw616_1)).trans hw616_1), ((HB.out.cell (World.block_lt_of_cell? w _ hw616_2)).trans hw616_2)⟩ (fun a3 => ?_); refine with_tabW klippelaw21_Make.tab5 klippelaw21_Make.bits5 (fun HT_ HW_ => ?_)
          generalize wc.drew = g3 at b0 HB a4 a5 a6 a7 a8 a9 a3 ⊢
          refine pu 0 17 HT_ ?_
          refine pu 1 18 HT_ ?_
          refine pu 2 19 HT_ ?_
          refine pu 3 20 HT_ ?_
          refine pu 7 24 HT_ ?_
          refine pu 8 25 HT_ ?_
          refine pu 9 26 HT_ ?_
          refine pu 10 27 HT_ ?_
          refine tk 4 21 HT_ HW_ a3 ?_
          refine pu 5 22 HT_ ?_
          refine pu 6 23 HT_ ?_
          refine pu 14 5 HT_ ?_
          refine tk 11 28 HT_ HW_ a3 ?_
          refine pu 12 29 HT_ ?_
          refine pu 13 30 HT_ ?_
          refine pu 15 6 HT_ ?_
          refine done_ (done_of HT_.out (by kernel_rfl)) ?_
          try go_wp2
          replace b0 := mk0 (Kd.R_drew b0.out)
          replace HB := mk0 (below_drew1 HB.out)
          have d7 : 0 ≤ (a1 : Int) := aD
          have d8 : a1 < (l0.length : Int) := aD
          obtain ⟨e5, e617, b2, b3, b4⟩ := at_T50 HR0.out a1 d7 d8
          have hw617_2 := b4
          have hw617_1 := b3
          have hw617_0 := b2
          obtain rfl : a2 = e5 := (by injection e617)
          replace b2 := (HB.out.cell (World.block_lt_of_cell? w _ b2)).trans b2
          replace b3 := (HB.out.cell (World.block_lt_of_cell? w _ b3)).trans b3
          replace b4 := (HB.out.cell (World.block_lt_of_cell? w _ b4)).trans b4
          replace d7 := eq_true d7
          replace d8 := eq_true d8
          refine start_ (n := 17) (S := fun w' => w'.cell? (a2.add ((a1).toNat * 3)) = some (.int .u8 ((rd_T50 l0 a1).f0)) ∧ w'.cell? ⟨(a2.add ((a1).toNat * 3)).block, (a2.add ((a1).toNat * 3)).off + 1, none⟩ = some (.int .u8 ((rd_T50 l0 a1).f1)) ∧ w'.cell? ⟨(a2.add ((a1).toNat * 3)).block, (a2.add ((a1).toNat * 3)).off + 2, none⟩ = some (.int .u8 ((rd_T50 l0 a1).f2))) (ds := []) #[false, false, false, false, false, false, false, false, false, false, false, false, false, false, false, false, false] (by kernel_rfl) rfl rfl ⟨((HB.out.cell (World.block_lt_of_cell? w _ hw617_0)).trans hw617_0), ((HB.out.cell (World.block_lt_of_cell? w _ hw617_1)).trans hw617_1), ((HB.out.cell (World.block_lt_of_cell? w _ hw617_2)).trans hw617_2)⟩ (fun a3 => ?_); refine with_tabW klippelaw21_Make.tab8 klippelaw21_Make.bits8 (fun HT_ HW_ => ?_)
          generalize g3.drew = g8 at b0 HB b2 b3 b4 a3 ⊢
          refine pu 0 37 HT_ ?_
          refine pu 1 38 HT_ ?_
          refine pu 2 39 HT_ ?_
          refine pu 3 40 HT_ ?_
          refine pu 4 41 HT_ ?_
          refine pu 9 46 HT_ ?_
          refine pu 11 48 HT_ ?_
          refine tk 5 42 HT_ HW_ a3 ?_
          refine pu 6 43 HT_ ?_
          refine pu 7 44 HT_ ?_
          refine pu 8 45 HT_ ?_
          refine oN 10 47 HT_ (fun K hK => ?_)
          refine gz Tryz.func13 #[.int .i64 (wrap64 (Int.tmod ((rd_T50 l0 a1).f1) 6))] ?_
          with_reducible refine (klippelaw21_Name.calls (wrap64 (Int.tmod ((rd_T50 l0 a1).f1) 6)) b8 _ A8.out).mono ?_
          rintro e g9 ⟨rfl, hb⟩
          refine ⟨_, rfl, ?_⟩
          replace b0 := uR b0 hb
          replace HB := uW hb
          (try clear hb)
          (try clear hb2)
          (try clear hk)
          (try clear hi)
          refine hK.out _ _ ⟨((HB.out.cell (World.block_lt_of_cell? w _ hw617_0)).trans hw617_0), ((HB.out.cell (World.block_lt_of_cell? w _ hw617_1)).trans hw617_1), ((HB.out.cell (World.block_lt_of_cell? w _ hw617_2)).trans hw617_2)⟩ (fun a3 => ?_)
          clear hK K
          refine norm_ (a' := ?_) ?_ ?_
          rotate_left
          ·
           show Act.put _ (some 47) _ = _
           exact aP
          refine oN 12 49 HT_ (fun K hK => ?_)
          refine gz Tryz.func13 #[.int .i64 (Int.tmod (wrap64 ((wrap64 (Int.tmod ((rd_T50 l0 a1).f1) 6)) + 1)) 6)] ?_
          with_reducible refine (klippelaw21_Name.calls (Int.tmod (wrap64 ((wrap64 (Int.tmod ((rd_T50 l0 a1).f1) 6)) + 1)) 6) b9 _ A9.out).mono ?_
          rintro e i1 ⟨rfl, hb⟩
          refine ⟨_, rfl, ?_⟩
          replace b0 := uR b0 hb
          replace HB := uW hb
          (try clear hb)
          (try clear hb2)
          (try clear hk)
          (try clear hi)
          refine hK.out _ _ ⟨((HB.out.cell (World.block_lt_of_cell? w _ hw617_0)).trans hw617_0), ((HB.out.cell (World.block_lt_of_cell? w _ hw617_1)).trans hw617_1), ((HB.out.cell (World.block_lt_of_cell? w _ hw617_2)).trans hw617_2)⟩ (fun a3 => ?_)
          clear hK K
          refine norm_ (a' := ?_) ?_ ?_
          rotate_left
          ·
           show Act.put _ (some 49) _ = _
           exact aP
          refine pu 13 50 HT_ ?_
          refine oN 14 51 HT_ (fun K hK => ?_)
          refine value_ (w1 := ?_) (v := ?_) (by rfl) rfl ?_ ?_
          rotate_left 2
          ·
           go_simp
           constructor
           ·
            rfl
           ·
            rfl
          refine hK.out _ _ ⟨(World.cell?_alloc_lt _ _ _ (World.block_lt_of_cell? _ _ (((HB.out.cell (World.block_lt_of_cell? w _ hw617_0)).trans hw617_0)))).trans (((HB.out.cell (World.block_lt_of_cell? w _ hw617_0)).trans hw617_0)), (World.cell?_alloc_lt _ _ _ (World.block_lt_of_cell? _ _ (((HB.out.cell (World.block_lt_of_cell? w _ hw617_1)).trans hw617_1)))).trans (((HB.out.cell (World.block_lt_of_cell? w _ hw617_1)).trans hw617_1)), (World.cell?_alloc_lt _ _ _ (World.block_lt_of_cell? _ _ (((HB.out.cell (World.block_lt_of_cell? w _ hw617_2)).trans hw617_2)))).trans (((HB.out.cell (World.block_lt_of_cell? w _ hw617_2)).trans hw617_2))⟩ (fun a3 => ?_)
          clear hK K
          refine norm_ (a' := ?_) ?_ ?_
          rotate_left
          ·
           show Act.put _ (some 51) _ = _
           exact aP
          refine oN 15 52 HT_ (fun K hK => ?_)
          refine Kd.R_append_step k33 (w0 := w) w.heap.size (by rfl) (.tmp 37) (.tmp 51) 26 33 (.agg #[(.int .i64 0), (.string ⟨#[]⟩), (.string ⟨#[]⟩)]) 40 rfl Tryz.underlying26 info33 rfl (by decide) (by omega) u3 b1 (⟨wrap64 (1 + (wrap64 (Int.tmod ((rd_T50 l0 a1).f0) 4))), b8, b9⟩ : S33) [.int .i64 (wrap64 (1 + (wrap64 (Int.tmod ((rd_T50 l0 a1).f0) 4)))), .string b8, .string b9] (fun _ => True) (fun _ => False) rfl rfl ?aP (fun _ hk => hk.elim) ?aF ?aO ?aB ?aS ?aL ?_
          (case aP => exact k33_mkM _ _ _ (⟨wrap64 (1 + (wrap64 (Int.tmod ((rd_T50 l0 a1).f0) 4))), b8, b9⟩ : S33))
          (case aB => exact (aB))
          (case aF => exact (fun _ _ => trivial))
          (case aO => exact (pR b0.out))
          (case aS => exact (below_size (aB)))
          (case aL => have := e3.out; omega)
          intro g4 i2 ho hb hg hat
          rw [← Ny620.out] at ho
          replace HB := mk0 (hb)
          have e6 := mk0 (ho)
          clear b0
          clear ho hb hg hat
          refine hK.out _ _ ⟨((HB.out.cell (World.block_lt_of_cell? w _ hw617_0)).trans hw617_0), ((HB.out.cell (World.block_lt_of_cell? w _ hw617_1)).trans hw617_1), ((HB.out.cell (World.block_lt_of_cell? w _ hw617_2)).trans hw617_2)⟩ (fun a3 => ?_)
          clear hK K
          refine norm_ (a' := ?_) ?_ ?_
          rotate_left
          ·
           show Act.put _ (some 52) _ = _
           exact aP
          refine pu 16 3 HT_ ?_
          refine done_ (done_of HT_.out (by kernel_rfl)) ?_
          try go_wp2
          go_roundg kj1
          case measure => have := HK1.out; have := HJ1.out; omega
          case rel => exact ⟨(e4), (wrap64 (a1 + 1)), (by first | rfl | simp [*]), H', ⟨by have := HK1.out; have := HJ1.out; omega⟩, ⟨pR e6.out⟩, ⟨aB⟩⟩
         ·
          rw [if_neg f4] at H
          exact absurd H (by simp)
        ·
         rw [if_neg c7] at H
         have f8 : ((wrap64 (Int.tmod ((rd_T50 l0 a1).f1) 6)) == (wrap64 (Int.tmod ((rd_T50 l0 a1).f2) 6))) = false := beq_eq_false_iff_ne.mpr c7
         have f9 : ((wrap64 (Int.tmod ((rd_T50 l0 a1).f1) 6)) != (wrap64 (Int.tmod ((rd_T50 l0 a1).f2) 6))) = true := bne_iff_ne.mpr c7
         obtain ⟨c8, A16, H⟩ := bS H
         obtain ⟨c9, A17, H⟩ := bS H
         by_cases f5 : b1.length < 3518437208883
         ·
          rw [if_pos f5] at H
          have e7 := mk0 f5
          clear f5
          obtain ⟨e8, hy626⟩ : ∃ y_ : List (S33), y_ = (b1 ++ [(⟨wrap64 (1 + (wrap64 (Int.tmod ((rd_T50 l0 a1).f0) 4))), c8, c9⟩ : S33)]) := ⟨_, rfl⟩
          replace H : (klippelaw21_Make.l0 kj1 l0 e8 (wrap64 (a1 + 1))) = some r := by first | (rw [hy626]; exact H) | (rw [hy626]; exact (Option.bind_some _ _).symm.trans H) | exact (Option.bind_some _ _).symm.trans H
          have Ny626 := mk0 hy626
          clear hy626
          have H' := mk0 H
          clear H
          try go_wp2
          replace b0 := mk0 (Kd.R_drew b0.out)
          replace HB := mk0 (below_drew1 HB.out)
          have d0 : 0 ≤ (a1 : Int) := aD
          have d1 : a1 < (l0.length : Int) := aD
          obtain ⟨a2, e615, a4, a5, a6⟩ := at_T50 HR0.out a1 d0 d1
          have hw615_2 := a6
          have hw615_1 := a5
          have hw615_0 := a4
          cases e615
          replace a4 := (HB.out.cell (World.block_lt_of_cell? w _ a4)).trans a4
          replace a5 := (HB.out.cell (World.block_lt_of_cell? w _ a5)).trans a5
          replace a6 := (HB.out.cell (World.block_lt_of_cell? w _ a6)).trans a6
          replace d0 := eq_true d0
          replace d1 := eq_true d1
          have d2 : 0 ≤ (a1 : Int) := aD
          have d3 : a1 < (l0.length : Int) := aD
          obtain ⟨d6, e616, a7, a8, a9⟩ := at_T50 HR0.out a1 d2 d3
          have hw616_2 := a9
          have hw616_1 := a8
          have hw616_0 := a7
          obtain rfl : a2 = d6 := (by injection e616)
          replace a7 := (HB.out.cell (World.block_lt_of_cell? w _ a7)).trans a7
          replace a8 := (HB.out.cell (World.block_lt_of_cell? w _ a8)).trans a8
          replace a9 := (HB.out.cell (World.block_lt_of_cell? w _ a9)).trans a9
          replace d2 := eq_true d2
          replace d3 := eq_true d3
          refine start_ (n := 16) (S := fun w' => w'.cell? (a2.add ((a1).toNat * 3)) = some (.int .u8 ((rd_T50 l0 a1).f0)) ∧ w'.cell? ⟨(a2.add ((a1).toNat * 3)).block, (a2.add ((a1).toNat * 3)).off + 1, none⟩ = some (.int .u8 ((rd_T50 l0 a1).f1)) ∧ w'.cell? ⟨(a2.add ((a1).toNat * 3)).block, (a2.add ((a1).toNat * 3)).off + 2, none⟩ = some (.int .u8 ((rd_T50 l0 a1).f2)) ∧ w'.cell? (a2.add ((a1).toNat * 3)) = some (.int .u8 ((rd_T50 l0 a1).f0)) ∧ w'.cell? ⟨(a2.add ((a1).toNat * 3)).block, (a2.add ((a1).toNat * 3)).off + 1, none⟩ = some (.int .u8 ((rd_T50 l0 a1).f1)) ∧ w'.cell? ⟨(a2.add ((a1).toNat * 3)).block, (a2.add ((a1).toNat * 3)).off + 2, none⟩ = some (.int .u8 ((rd_T50 l0 a1).f2))) (ds := []) #[false, false, false, false, false, false, false, false, false, false, false, false, false, false, false, false] (by kernel_rfl) rfl rfl ⟨((HB.out.cell (World.block_lt_of_cell? w _ hw615_0)).trans hw615_0), ((HB.out.cell (World.block_lt_of_cell? w _ hw615_1)).trans hw615_1), ((HB.out.cell (World.block_lt_of_cell? w _ hw615_2)).trans hw615_2), ((HB.out.cell (World.block_lt_of_cell? w _ hw616_0)).trans hw616_0), ((HB.out.cell (World.block_lt_of_cell? w _ hw616_1)).trans hw616_1), ((HB.out.cell (World.block_lt_of_cell? w _ hw616_2)).trans hw616_2)⟩ (fun a3 => ?_); refine with_tabW klippelaw21_Make.tab5 klippelaw21_Make.bits5 (fun HT_ HW_ => ?_)
          generalize wc.drew = g5 at b0 HB a4 a5 a6 a7 a8 a9 a3 ⊢
          refine pu 0 17 HT_ ?_
          refine pu 1 18 HT_ ?_
          refine pu 2 19 HT_ ?_
          refine pu 3 20 HT_ ?_
          refine pu 7 24 HT_ ?_
          refine pu 8 25 HT_ ?_
          refine pu 9 26 HT_ ?_
          refine pu 10 27 HT_ ?_
          refine tk 4 21 HT_ HW_ a3 ?_
          refine pu 5 22 HT_ ?_
          refine pu 6 23 HT_ ?_
          refine pu 14 5 HT_ ?_
          refine tk 11 28 HT_ HW_ a3 ?_
          refine pu 12 29 HT_ ?_
          refine pu 13 30 HT_ ?_
          refine pu 15 6 HT_ ?_
          refine done_ (done_of HT_.out (by kernel_rfl)) ?_
          try go_wp2
          replace b0 := mk0 (Kd.R_drew b0.out)
          replace HB := mk0 (below_drew1 HB.out)
          have d9 : 0 ≤ (a1 : Int) := aD
          have e1 : a1 < (l0.length : Int) := aD
          obtain ⟨e9, e623, b5, b6, b7⟩ := at_T50 HR0.out a1 d9 e1
          have hw623_2 := b7
          have hw623_1 := b6
          have hw623_0 := b5
          obtain rfl : a2 = e9 := (by injection e623)
          replace b5 := (HB.out.cell (World.block_lt_of_cell? w _ b5)).trans b5
          replace b6 := (HB.out.cell (World.block_lt_of_cell? w _ b6)).trans b6
          replace b7 := (HB.out.cell (World.block_lt_of_cell? w _ b7)).trans b7
          replace d9 := eq_true d9
          replace e1 := eq_true e1
          refine start_ (n := 17) (S := fun w' => w'.cell? (a2.add ((a1).toNat * 3)) = some (.int .u8 ((rd_T50 l0 a1).f0)) ∧ w'.cell? ⟨(a2.add ((a1).toNat * 3)).block, (a2.add ((a1).toNat * 3)).off + 1, none⟩ = some (.int .u8 ((rd_T50 l0 a1).f1)) ∧ w'.cell? ⟨(a2.add ((a1).toNat * 3)).block, (a2.add ((a1).toNat * 3)).off + 2, none⟩ = some (.int .u8 ((rd_T50 l0 a1).f2))) (ds := []) #[false, false, false, false, false, false, false, false, false, false, false, false, false, false, false, false, false] (by kernel_rfl) rfl rfl ⟨((HB.out.cell (World.block_lt_of_cell? w _ hw623_0)).trans hw623_0), ((HB.out.cell (World.block_lt_of_cell? w _ hw623_1)).trans hw623_1), ((HB.out.cell (World.block_lt_of_cell? w _ hw623_2)).trans hw623_2)⟩ (fun a3 => ?_); refine with_tabW klippelaw21_Make.tab8 klippelaw21_Make.bits8 (fun HT_ HW_ => ?_)
          generalize g5.drew = i3 at b0 HB b5 b6 b7 a3 ⊢
          refine pu 0 37 HT_ ?_
          refine pu 1 38 HT_ ?_
          refine pu 2 39 HT_ ?_
          refine pu 3 40 HT_ ?_
          refine pu 4 41 HT_ ?_
          refine pu 9 46 HT_ ?_
          refine pu 11 48 HT_ ?_
          refine tk 5 42 HT_ HW_ a3 ?_
          refine pu 6 43 HT_ ?_
          refine pu 7 44 HT_ ?_
          refine pu 8 45 HT_ ?_
          refine oN 10 47 HT_ (fun K hK => ?_)
          refine gz Tryz.func13 #[.int .i64 (wrap64 (Int.tmod ((rd_T50 l0 a1).f1) 6))] ?_
          with_reducible refine (klippelaw21_Name.calls (wrap64 (Int.tmod ((rd_T50 l0 a1).f1) 6)) c8 _ A16.out).mono ?_
          rintro e i4 ⟨rfl, hb⟩
          refine ⟨_, rfl, ?_⟩
          replace b0 := uR b0 hb
          replace HB := uW hb
          (try clear hb)
          (try clear hb2)
          (try clear hk)
          (try clear hi)
          refine hK.out _ _ ⟨((HB.out.cell (World.block_lt_of_cell? w _ hw623_0)).trans hw623_0), ((HB.out.cell (World.block_lt_of_cell? w _ hw623_1)).trans hw623_1), ((HB.out.cell (World.block_lt_of_cell? w _ hw623_2)).trans hw623_2)⟩ (fun a3 => ?_)
          clear hK K
          refine norm_ (a' := ?_) ?_ ?_
          rotate_left
          ·
           show Act.put _ (some 47) _ = _
           exact aP
          refine oN 12 49 HT_ (fun K hK => ?_)
          refine gz Tryz.func13 #[.int .i64 (wrap64 (Int.tmod ((rd_T50 l0 a1).f2) 6))] ?_
          with_reducible refine (klippelaw21_Name.calls (wrap64 (Int.tmod ((rd_T50 l0 a1).f2) 6)) c9 _ A17.out).mono ?_
          rintro e i5 ⟨rfl, hb⟩
          refine ⟨_, rfl, ?_⟩
          replace b0 := uR b0 hb
          replace HB := uW hb
          (try clear hb)
          (try clear hb2)
          (try clear hk)
          (try clear hi)
          refine hK.out _ _ ⟨((HB.out.cell (World.block_lt_of_cell? w _ hw623_0)).trans hw623_0), ((HB.out.cell (World.block_lt_of_cell? w _ hw623_1)).trans hw623_1), ((HB.out.cell (World.block_lt_of_cell? w _ hw623_2)).trans hw623_2)⟩ (fun a3 => ?_)
          clear hK K
          refine norm_ (a' := ?_) ?_ ?_
          rotate_left
          ·
           show Act.put _ (some 49) _ = _
           exact aP
          refine pu 13 50 HT_ ?_
          refine oN 14 51 HT_ (fun K hK => ?_)
          refine value_ (w1 := ?_) (v := ?_) (by rfl) rfl ?_ ?_
          rotate_left 2
          ·
           go_simp
           constructor
           ·
            rfl
           ·
            rfl
          refine hK.out _ _ ⟨(World.cell?_alloc_lt _ _ _ (World.block_lt_of_cell? _ _ (((HB.out.cell (World.block_lt_of_cell? w _ hw623_0)).trans hw623_0)))).trans (((HB.out.cell (World.block_lt_of_cell? w _ hw623_0)).trans hw623_0)), (World.cell?_alloc_lt _ _ _ (World.block_lt_of_cell? _ _ (((HB.out.cell (World.block_lt_of_cell? w _ hw623_1)).trans hw623_1)))).trans (((HB.out.cell (World.block_lt_of_cell? w _ hw623_1)).trans hw623_1)), (World.cell?_alloc_lt _ _ _ (World.block_lt_of_cell? _ _ (((HB.out.cell (World.block_lt_of_cell? w _ hw623_2)).trans hw623_2)))).trans (((HB.out.cell (World.block_lt_of_cell? w _ hw623_2)).trans hw623_2))⟩ (fun a3 => ?_)
          clear hK K
          refine norm_ (a' := ?_) ?_ ?_
          rotate_left
          ·
           show Act.put _ (some 51) _ = _
           exact aP
          refine oN 15 52 HT_ (fun K hK => ?_)
          refine Kd.R_append_step k33 (w0 := w) w.heap.size (by rfl) (.tmp 37) (.tmp 51) 26 33 (.agg #[(.int .i64 0), (.string ⟨#[]⟩), (.string ⟨#[]⟩)]) 40 rfl Tryz.underlying26 info33 rfl (by decide) (by omega) u3 b1 (⟨wrap64 (1 + (wrap64 (Int.tmod ((rd_T50 l0 a1).f0) 4))), c8, c9⟩ : S33) [.int .i64 (wrap64 (1 + (wrap64 (Int.tmod ((rd_T50 l0 a1).f0) 4)))), .string c8, .string c9] (fun _ => True) (fun _ => False) rfl rfl ?aP (fun _ hk => hk.elim) ?aF ?aO ?aB ?aS ?aL ?_
          (case aP => exact k33_mkM _ _ _ (⟨wrap64 (1 + (wrap64 (Int.tmod ((rd_T50 l0 a1).f0) 4))), c8, c9⟩ : S33))
          (case aB => exact (aB))
          (case aF => exact (fun _ _ => trivial))
          (case aO => exact (pR b0.out))
          (case aS => exact (below_size (aB)))
          (case aL => have := e7.out; omega)
          intro g6 i6 ho hb hg hat
          rw [← Ny626.out] at ho
          replace HB := mk0 (hb)
          have f3 := mk0 (ho)
          clear b0
          clear ho hb hg hat
          refine hK.out _ _ ⟨((HB.out.cell (World.block_lt_of_cell? w _ hw623_0)).trans hw623_0), ((HB.out.cell (World.block_lt_of_cell? w _ hw623_1)).trans hw623_1), ((HB.out.cell (World.block_lt_of_cell? w _ hw623_2)).trans hw623_2)⟩ (fun a3 => ?_)
          clear hK K
          refine norm_ (a' := ?_) ?_ ?_
          rotate_left
          ·
           show Act.put _ (some 52) _ = _
           exact aP
          refine pu 16 3 HT_ ?_
          refine done_ (done_of HT_.out (by kernel_rfl)) ?_
          try go_wp2
          go_roundg kj1
          case measure => have := HK1.out; have := HJ1.out; omega
          case rel => exact ⟨(e8), (wrap64 (a1 + 1)), (by first | rfl | simp [*]), H', ⟨by have := HK1.out; have := HJ1.out; omega⟩, ⟨pR f3.out⟩, ⟨aB⟩⟩
         ·
          rw [if_neg f5] at H
          exact absurd H (by simp)
       ·
        rw [if_neg c6] at H
        exact absurd H (by simp)
      ·
       rw [if_neg c5] at H
       exact absurd H (by simp)
     ·
      replace c4 := Bool.eq_false_iff.mpr c4
      subst c4
      have H1 : (some b1) = some r := by rw [if_neg (show ¬ (false = true) by decide)] at H; exact H
      clear H
      have H := H1
      clear H1
      obtain rfl := Option.some.inj H
      go_wp2
      go_ret
      exact ⟨_, by first | rfl | (simp [*] <;> rfl), pR b0.out, aB⟩
end Go.Proofs.YtbgmfgndldnmcaaGreatDoor.PCheckerNever
