/- Functions of the program as plain Lean functions, with proved contracts; printed by programs of this session. -/
import Derived.Test.YtfhlmmmhcpkjnaaGreatDoorPb
namespace Go.Proofs.YtfhlmmmhcpkjnaaGreatDoor.PCheckerNumbers
open Go.RowKit Go.Proofs.YtfhlmmmhcpkjnaaGreatDoorW.PrintWords Go.Proofs.YtfhlmmmhcpkjnaaGreatDoorW.PrintLast Go.Proofs.YtfhlmmmhcpkjnaaGreatDoorW.PrintMore Go.Proofs.YtfhlmmmhcpkjnaaGreatDoorW.Q
attribute [local go_sem] max2_int max_two
set_option linter.unusedVariables false
set_option linter.unusedSimpArgs false
def checker_fraction_neg.f (a0_0 : Bool) (a1 : List Int) (a3 : List Int) : Option (Bool × List Int × List Int) := if a0_0 = true then (some (false, a1, a3)) else (some (decide (0 < a1.length), a1, a3))
set_option maxHeartbeats 8000000 in
set_option maxRecDepth 100000 in
theorem checker_fraction_neg.calls (a0_0 : Bool) (a8 : Nat → Prop) (b0 : Option Addr) (b1 : Nat) (a1 : List Int) (a9 : Nat → Prop) (b2 : Option Addr) (b3 : Nat) (a3 : List Int) (r1 : Bool) (r2 : List Int) (r3 : List Int) (w : World) (b5 : Kd.V (Kd.int .u32) 94 w w.heap.size (fun k_ => a8 k_) (.slice b0 a1.length b1) a1) (b6 : Kd.V (Kd.int .u32) 94 w w.heap.size (fun k_ => a9 k_) (.slice b2 a3.length b3) a3) (h : checker_fraction_neg.f a0_0 a1 a3 = some (r1, r2, r3)) :
  Calls Tryz.prog 77 #[.agg #[.bool a0_0, .slice b0 a1.length b1, .slice b2 a3.length b3]] w fun e w' => ∃ v1_ v2_ : Value, e = .returned (.agg #[.bool r1, v1_, v2_]) ∧ Kd.V (Kd.int .u32) 94 w' w.heap.size (fun k_ => ((a8 k_ ∨ a9 k_) ∨ w.heap.size ≤ k_)) v1_ r2 ∧ Kd.V (Kd.int .u32) 94 w' w.heap.size (fun k_ => ((a8 k_ ∨ a9 k_) ∨ w.heap.size ≤ k_)) v2_ r3 ∧ Below w.heap.size w w' := by
 have hu47 := Tryz.underlying47
 have a4 := mk0 (show Kd.V (Kd.int .u32) 94 w w.heap.size (fun k_ => ((a8 k_ ∨ a9 k_) ∨ w.heap.size ≤ k_)) (.slice b0 a1.length b1) a1 from Kd.V_mono b5 (fun k_ hk => .inl (.inl hk)))
 have a5 := mk0 (show Kd.V (Kd.int .u32) 94 w w.heap.size (fun k_ => ((a8 k_ ∨ a9 k_) ∨ w.heap.size ≤ k_)) (.slice b2 a3.length b3) a3 from Kd.V_mono b6 (fun k_ hk => .inl (.inr hk)))
 have HB := mk0 (Below.refl w.heap.size w)
 have H : (if a0_0 = true then (some (false, a1, a3)) else (some (decide (0 < a1.length), a1, a3))) = some (r1, r2, r3) := h
 clear h
 by_cases c2 : a0_0 = true
 ·
  subst c2
  have H1 : (some (false, a1, a3)) = some (r1, r2, r3) := by rw [if_pos rfl] at H; exact H
  clear H
  have H := H1
  clear H1
  simp only [Option.some.injEq, Prod.mk.injEq] at H
  obtain ⟨rfl, rfl, rfl⟩ := H
  go_enter Tryz.func77, Tryz.ntmps77
  go_wp2_with (first | (refine gd 1 ?_; (try (refine gate_guard (by rfl) ?_; dsimp only)); refine box_event ?hg (N := 1) ?hd (cs := #[.bool true, .slice b0 a1.length b1, .slice b2 a3.length b3]) (t := 47) ?hr ?_; (case hd => rfl); (case hg => rfl); (case hr => exact aH); intro b7 hg w3 hbox hb; replace a4 := eV a4 hg hb;replace a5 := eV a5 hg hb;have a0 := mk0 (hbox);have b8 := uG hg;have b9 := uG hg;replace HB := uW hb; clear hb hbox hg) | (refine gd 2 ?_; (try (refine gate_guard (by rfl) ?_; dsimp only)); refine box_event ?hg (N := 2) ?hd (cs := #[.bool false, .slice none 0 0, .slice none 0 0]) (t := 47) ?hr ?_; (case hd => rfl); (case hg => rfl); (case hr => exact aH); intro b4 hg w4 hbox hb; replace a4 := eV a4 hg hb;replace a5 := eV a5 hg hb;have a2 := mk0 (hbox);have c4 := uG hg;have c5 := uG hg;replace HB := uW hb;have a6 := uL a0 hg;have a7 := uM a0 hg;replace a0 := uB a0 hb; clear hb hbox hg; have f3 := a6.out; have f4 := a7.out; have d8 := cZ a0 0; have d9 := cZ a0 1; have e1 := cZ a0 2; have e2 := blk_frozen a0.out 0; have e3 := blk_frozen a0.out 1; have e4 := blk_frozen a0.out 2; have e5 := cZ a2 0; have e6 := cZ a2 1; have e7 := cZ a2 2; have e8 := blk_frozen a2.out 0; have e9 := blk_frozen a2.out 1; have f0 := blk_frozen a2.out 2))
  refine bodyPost_ret (results_cell_row rfl _ _ b4 47 #[.bool false, .slice b0 a1.length b1, .slice b2 a3.length b3] (0, 0) _ rfl sB Tryz.underlying47 rfl (by kernel_rfl)) rfl ?_
  exact ⟨_, _, by first | rfl | (simp [*] <;> rfl), sV a4.out, sV a5.out, aB⟩
 ·
  replace c2 := Bool.eq_false_iff.mpr c2
  subst c2
  have H1 : (some (decide (0 < a1.length), a1, a3)) = some (r1, r2, r3) := by rw [if_neg (show ¬ (false = true) by decide)] at H; exact H
  clear H
  have H := H1
  clear H1
  simp only [Option.some.injEq, Prod.mk.injEq] at H
  obtain ⟨rfl, rfl, rfl⟩ := H
  go_enter Tryz.func77, Tryz.ntmps77
  go_wp2_with (first | (refine gd 1 ?_; (try (refine gate_guard (by rfl) ?_; dsimp only)); refine box_event ?hg (N := 1) ?hd (cs := #[.bool false, .slice b0 a1.length b1, .slice b2 a3.length b3]) (t := 47) ?hr ?_; (case hd => rfl); (case hg => rfl); (case hr => exact aH); intro b7 hg w8 hbox hb; replace a4 := eV a4 hg hb;replace a5 := eV a5 hg hb;have a0 := mk0 (hbox);have b8 := uG hg;have b9 := uG hg;replace HB := uW hb; clear hb hbox hg) | (refine gd 2 ?_; (try (refine gate_guard (by rfl) ?_; dsimp only)); refine box_event ?hg (N := 2) ?hd (cs := #[.bool false, .slice none 0 0, .slice none 0 0]) (t := 47) ?hr ?_; (case hd => rfl); (case hg => rfl); (case hr => exact aH); intro b4 hg w9 hbox hb; replace a4 := eV a4 hg hb;replace a5 := eV a5 hg hb;have a2 := mk0 (hbox);have c4 := uG hg;have c5 := uG hg;replace HB := uW hb;have a6 := uL a0 hg;have a7 := uM a0 hg;replace a0 := uB a0 hb; clear hb hbox hg; have f1 := a6.out; have f2 := a7.out; have c6 := cZ a0 0; have c7 := cZ a0 1; have c8 := cZ a0 2; have c9 := blk_frozen a0.out 0; have d0 := blk_frozen a0.out 1; have d1 := blk_frozen a0.out 2; have d2 := cZ a2 0; have d3 := cZ a2 1; have d4 := cZ a2 2; have d5 := blk_frozen a2.out 0; have d6 := blk_frozen a2.out 1; have d7 := blk_frozen a2.out 2))
  refine bodyPost_ret (results_cell_row rfl _ _ b4 47 #[.bool (decide (0 < a1.length)), .slice b0 a1.length b1, .slice b2 a3.length b3] (0, 0) _ rfl sB Tryz.underlying47 rfl (by kernel_rfl)) rfl ?_
  exact ⟨_, _, by first | rfl | (simp [*] <;> rfl), sV a4.out, sV a5.out, aB⟩
def checker_fraction_sub.f (k : Nat) (a0_0 : Bool) (c7 : List Int) (c8 : List Int) (a1_0 : Bool) (b9 : List Int) (c4 : List Int) : Option (Bool × List Int × List Int) := (checker_fraction_neg.f a1_0 b9 c4).bind fun c9 => ((checker_fraction_add.f k a0_0 c7 c8 c9.1 c9.2.1 c9.2.2).bind fun d0 => (some (d0.1, d0.2.1, d0.2.2)))
theorem checker_fraction_sub.mono : ∀ a0 a1 a2 a3 a4 a5 k, LeO (checker_fraction_sub.f k a0 a1 a2 a3 a4 a5) (checker_fraction_sub.f (k + 1) a0 a1 a2 a3 a4 a5) := by
 intro a0 a1 a2 a3 a4 a5 k
 unfold checker_fraction_sub.f
 repeat' first | (with_reducible first | exact checker_fraction_add.mono .. | exact LeO.refl _ | exact LeO.none _ | refine LeO.ite ?_ ?_ | refine LeO.bind ?_ (fun _ => ?_))
set_option maxHeartbeats 8000000 in
set_option maxRecDepth 100000 in
theorem checker_fraction_sub.calls (k : Nat) (a0_0 : Bool) (d7 : Option Addr) (d8 : Nat) (c7 : List Int) (d9 : Option Addr) (e1 : Nat) (c8 : List Int) (a1_0 : Bool) (b4 : Nat → Prop) (d3 : Option Addr) (d4 : Nat) (b9 : List Int) (b5 : Nat → Prop) (d5 : Option Addr) (d6 : Nat) (c4 : List Int) (r1 : Bool) (r2 : List Int) (r3 : List Int) (w : World) (e2 : Kd.C (Kd.int .u32) w d7 c7.length c7) (e3 : c7.length ≤ d8) (e4 : Kd.C (Kd.int .u32) w d9 c8.length c8) (e5 : c8.length ≤ e1) (f3 : Kd.V (Kd.int .u32) 94 w w.heap.size (fun k_ => b4 k_) (.slice d3 b9.length d4) b9) (f4 : Kd.V (Kd.int .u32) 94 w w.heap.size (fun k_ => b5 k_) (.slice d5 c4.length d6) c4) (h : checker_fraction_sub.f k a0_0 c7 c8 a1_0 b9 c4 = some (r1, r2, r3)) :
  Calls Tryz.prog 42 #[.agg #[.bool a0_0, .slice d7 c7.length d8, .slice d9 c8.length e1], .agg #[.bool a1_0, .slice d3 b9.length d4, .slice d5 c4.length d6]] w fun e w' => ∃ v1_ v2_ : Value, e = .returned (.agg #[.bool r1, v1_, v2_]) ∧ Kd.V (Kd.int .u32) 94 w' w.heap.size (fun k_ => ((b4 k_ ∨ b5 k_) ∨ w.heap.size ≤ k_)) v1_ r2 ∧ Kd.V (Kd.int .u32) 94 w' w.heap.size (fun k_ => ((b4 k_ ∨ b5 k_) ∨ w.heap.size ≤ k_)) v2_ r3 ∧ Below w.heap.size w w' := by
 have hu47 := Tryz.underlying47
 have f5 := mk0 e2
 have f6 := mk0 e3
 clear e2 e3
 have f7 := mk0 e4
 have f8 := mk0 e5
 clear e4 e5
 have b0 := mk0 (show Kd.V (Kd.int .u32) 94 w w.heap.size (fun k_ => ((b4 k_ ∨ b5 k_) ∨ w.heap.size ≤ k_)) (.slice d3 b9.length d4) b9 from Kd.V_mono f3 (fun k_ hk => .inl (.inl hk)))
 have b1 := mk0 (show Kd.V (Kd.int .u32) 94 w w.heap.size (fun k_ => ((b4 k_ ∨ b5 k_) ∨ w.heap.size ≤ k_)) (.slice d5 c4.length d6) c4 from Kd.V_mono f4 (fun k_ hk => .inl (.inr hk)))
 have HB := mk0 (Below.refl w.heap.size w)
 have H : ((checker_fraction_neg.f a1_0 b9 c4).bind fun c9 => ((checker_fraction_add.f k a0_0 c7 c8 c9.1 c9.2.1 c9.2.2).bind fun d0 => (some (d0.1, d0.2.1, d0.2.2)))) = some (r1, r2, r3) := h
 clear h
 obtain ⟨⟨e8, e9, f0⟩, A3, H⟩ := bS H
 (try dsimp only at H)
 obtain ⟨⟨f9, g0, g1⟩, A4, H⟩ := bS H
 (try dsimp only at H)
 simp only [Option.some.injEq, Prod.mk.injEq] at H
 obtain ⟨rfl, rfl, rfl⟩ := H
 go_enter Tryz.func42, Tryz.ntmps42
 try go_wp2_with (first | (refine gd 2 ?_; refine box_event ?hg (N := 2) ?hd (cs := #[.bool a0_0, .slice d7 c7.length d8, .slice d9 c8.length e1]) (t := 47) ?hr ?_; (case hd => rfl); (case hg => rfl); (case hr => exact aH); intro b7 hg w5 hbox hb; replace b0 := eV b0 hg hb;replace b1 := eV b1 hg hb;have a9 := mk0 (hbox);have i8 := uG hg;have i9 := uG hg;replace HB := uW hb; clear hb hbox hg) | (refine gd 3 ?_; refine box_event ?hg (N := 3) ?hd (cs := #[.bool a1_0, .slice d3 b9.length d4, .slice d5 c4.length d6]) (t := 47) ?hr ?_; (case hd => rfl); (case hg => rfl); (case hr => exact aH); intro b8 hg w6 hbox hb; replace b0 := eV b0 hg hb;replace b1 := eV b1 hg hb;have b6 := mk0 (hbox);have j0 := uG hg;have j1 := uG hg;replace HB := uW hb;have f1 := uL a9 hg;have f2 := uM a9 hg;replace a9 := uB a9 hb; clear hb hbox hg) | (refine gd 4 ?_; refine box_event ?hg (N := 4) ?hd (cs := #[.bool false, .slice none 0 0, .slice none 0 0]) (t := 47) ?hr ?_; (case hd => rfl); (case hg => rfl); (case hr => exact aH); intro a8 hg w7 hbox hb; replace b0 := eV b0 hg hb;replace b1 := eV b1 hg hb;have b2 := mk0 (hbox);have j2 := uG hg;have j3 := uG hg;replace HB := uW hb;have a6 := uL a9 hg;have c5 := uM a9 hg;replace a9 := uB a9 hb;have a7 := uL b6 hg;have c6 := uM b6 hg;replace b6 := uB b6 hb; clear hb hbox hg))
 replace b0 := mk0 (Kd.V_drew b0.out)
 replace b1 := mk0 (Kd.V_drew b1.out)
 replace a9 := mk0 (blk_drew a9.out)
 replace b6 := mk0 (blk_drew b6.out)
 replace b2 := mk0 (blk_drew b2.out)
 replace HB := mk0 (below_drew1 HB.out)
 refine start_ (n := 5) (S := fun w' => w'.cell? ⟨b7, 0, none⟩ = some (.bool a0_0) ∧ w'.cell? ⟨b7, 1, none⟩ = some (.slice d7 c7.length d8) ∧ w'.cell? ⟨b7, 2, none⟩ = some (.slice d9 c8.length e1) ∧ w'.cell? ⟨b8, 0, none⟩ = some (.bool a1_0) ∧ w'.cell? ⟨b8, 1, none⟩ = some (.slice d3 b9.length d4) ∧ w'.cell? ⟨b8, 2, none⟩ = some (.slice d5 c4.length d6)) (ds := []) #[false, false, false, false, false] (by kernel_rfl) rfl rfl cS (fun b3 => ?_)
 generalize w7.drew = w8 at b0 b1 a9 b6 b2 HB b3 ⊢
 refine take_ (i := 0) (N := some 5) (v := ?_) (a' := ?_) #[true, false, false, false, false] rfl rfl (by kernel_rfl) (fun _ _ _ h => h) (Or.inl ⟨by rfl, ?_⟩) b3 ?_ ?_
 rotate_left
 ·
  rintro w' ⟨s0, s1, s2, s3, s4, s5⟩
  go_simp
  with_reducible rfl
 rotate_left
 ·
  exact aP
 refine take_ (i := 1) (N := some 6) (v := ?_) (a' := ?_) #[true, true, false, false, false] rfl rfl (by kernel_rfl) (fun _ _ _ h => h) (Or.inl ⟨by rfl, ?_⟩) b3 ?_ ?_
 rotate_left
 ·
  rintro w' ⟨s0, s1, s2, s3, s4, s5⟩
  go_simp
  with_reducible rfl
 rotate_left
 ·
  exact aP
 refine one_ (i := 2) (N := some 7) #[true, true, true, false, false] rfl rfl (by kernel_rfl) (by decide) (fun K hK => ?_)
 refine gz Tryz.func77 #[.agg #[.bool a1_0, .slice d3 b9.length d4, .slice d5 c4.length d6]] ?_
 with_reducible refine (checker_fraction_neg.calls a1_0 (fun k_ => (((((b4 k_ ∨ b5 k_) ∨ w.heap.size ≤ k_) ∧ k_ ≠ b7) ∧ k_ ≠ b8) ∧ k_ ≠ a8)) _ _ b9 (fun k_ => (((((b4 k_ ∨ b5 k_) ∨ w.heap.size ≤ k_) ∧ k_ ≠ b7) ∧ k_ ≠ b8) ∧ k_ ≠ a8)) _ _ c4 e8 e9 f0 _ ?side1 ?side2 A3.out).mono ?_
 (case side1 => exact Kd.V_mono (Go.Proofs.YtfhlmmmhcpkjnaaGreatDoorMyWords.V_base (b0.out)) (fun k_ hk => by first | exact hk | (simp only [hk, ne_eq, not_false_eq_true, and_self]; done)))
 (case side2 => exact Kd.V_mono (Go.Proofs.YtfhlmmmhcpkjnaaGreatDoorMyWords.V_base (b1.out)) (fun k_ hk => by first | exact hk | (simp only [hk, ne_eq, not_false_eq_true, and_self]; done)))
 rintro e w9 ⟨j4, j5, rfl, g2, g3, hb⟩
 refine ⟨_, rfl, ?_⟩
 replace b0 := uV b0 hb
 replace b1 := uV b1 hb
 have d1 := lV (ok' := fun k_ => ((b4 k_ ∨ b5 k_) ∨ w.heap.size ≤ k_) ∧ k_ ≠ b7 ∧ k_ ≠ b8 ∧ k_ ≠ a8) g2
 have d2 := lV (ok' := fun k_ => ((b4 k_ ∨ b5 k_) ∨ w.heap.size ≤ k_) ∧ k_ ≠ b7 ∧ k_ ≠ b8 ∧ k_ ≠ a8) g3
 replace a9 := uB a9 hb
 replace b6 := uB b6 hb
 replace b2 := uB b2 hb
 replace HB := uW hb
 (try clear hb)
 (try clear hb2)
 (try clear hk)
 (try clear hi)
 (try clear g2)
 (try clear g3)
 obtain ⟨g8, g9, g4⟩ := Kd.V_slice d1.out
 (first | subst g4 | (injection g4 with f1_ f2_ f3_; have f4_ := f1_.symm; have f5_ := f3_.symm; clear f1_ f2_ f3_; subst f4_; subst f5_))
 obtain ⟨i1, i2, g5⟩ := Kd.V_slice d2.out
 (first | subst g5 | (injection g5 with f1_ f2_ f3_; have f4_ := f1_.symm; have f5_ := f3_.symm; clear f1_ f2_ f3_; subst f4_; subst f5_))
 refine hK.out _ _ cS (fun b3 => ?_)
 clear hK K
 refine norm_ (a' := ?_) ?_ ?_
 rotate_left
 ·
  show Act.put _ (some 7) _ = _
  exact aP
 refine one_ (i := 3) (N := some 8) #[true, true, true, true, false] rfl rfl (by kernel_rfl) (by decide) (fun K hK => ?_)
 refine gz Tryz.func19 #[.agg #[.bool a0_0, .slice d7 c7.length d8, .slice d9 c8.length e1], .agg #[.bool e8, .slice g8 e9.length g9, .slice i1 f0.length i2]] ?_
 with_reducible refine (checker_fraction_add.calls k a0_0 _ _ c7 _ _ c8 e8 _ _ e9 _ _ f0 f9 g0 g1 _ ?side1 ?side2 ?side3 ?side4 ?side5 ?side6 ?side7 ?side8 A4.out).mono ?_
 (case side1 => exact pC (Kd.C_below f5.out HB.out))
 (case side2 => exact f6.out)
 (case side3 => exact pC (Kd.C_below f7.out HB.out))
 (case side4 => exact f8.out)
 (case side5 => exact pC ((Kd.V_reads' d1.out).2.2))
 (case side6 => exact (Kd.V_reads' d1.out).2.1)
 (case side7 => exact pC ((Kd.V_reads' d2.out).2.2))
 (case side8 => exact (Kd.V_reads' d2.out).2.1)
 rintro e i3 ⟨j6, j7, rfl, g2, g3, hb⟩
 refine ⟨_, rfl, ?_⟩
 replace b0 := uV b0 hb
 replace b1 := uV b1 hb
 replace d1 := uV d1 hb
 replace d2 := uV d2 hb
 have e6 := lV (ok' := fun k_ => ((b4 k_ ∨ b5 k_) ∨ w.heap.size ≤ k_) ∧ k_ ≠ b7 ∧ k_ ≠ b8 ∧ k_ ≠ a8) g2
 have e7 := lV (ok' := fun k_ => ((b4 k_ ∨ b5 k_) ∨ w.heap.size ≤ k_) ∧ k_ ≠ b7 ∧ k_ ≠ b8 ∧ k_ ≠ a8) g3
 replace a9 := uB a9 hb
 replace b6 := uB b6 hb
 replace b2 := uB b2 hb
 replace HB := uW hb
 (try clear hb)
 (try clear hb2)
 (try clear hk)
 (try clear hi)
 (try clear g2)
 (try clear g3)
 obtain ⟨i4, i5, g6⟩ := Kd.V_slice e6.out
 (first | subst g6 | (injection g6 with f1_ f2_ f3_; have f4_ := f1_.symm; have f5_ := f3_.symm; clear f1_ f2_ f3_; subst f4_; subst f5_))
 obtain ⟨i6, i7, g7⟩ := Kd.V_slice e7.out
 (first | subst g7 | (injection g7 with f1_ f2_ f3_; have f4_ := f1_.symm; have f5_ := f3_.symm; clear f1_ f2_ f3_; subst f4_; subst f5_))
 refine hK.out _ _ cS (fun b3 => ?_)
 clear hK K
 refine norm_ (a' := ?_) ?_ ?_
 rotate_left
 ·
  show Act.put _ (some 8) _ = _
  exact aP
 refine one_ (i := 4) (N := none) #[true, true, true, true, true] rfl rfl (by kernel_rfl) (by decide) (fun K hK => ?_)
 have hs13 : i3.cell? ⟨a8, 0, none⟩ = some (.bool false) := (blk_cell b2.out 0).trans rfl
 have hfs13 := blk_frozen b2.out 0
 have hns13_0 := a6.out
 have hns13_1 := a7.out
 have hms13_0 := c5.out
 have hms13_1 := c6.out
 have hs15 : i3.cell? ⟨a8, 1, none⟩ = some (.slice none 0 0) := (blk_cell b2.out 1).trans rfl
 have hfs15 := blk_frozen b2.out 1
 have hns15_0 := a6.out
 have hns15_1 := a7.out
 have hms15_0 := c5.out
 have hms15_1 := c6.out
 have hs17 : i3.cell? ⟨a8, 2, none⟩ = some (.slice none 0 0) := (blk_cell b2.out 2).trans rfl
 have hfs17 := blk_frozen b2.out 2
 have hns17_0 := a6.out
 have hns17_1 := a7.out
 have hms17_0 := c5.out
 have hms17_1 := c6.out
 refine skip_ (w1 := ?_) (by rfl) rfl ?_ ?_
 rotate_left
 ·
  go_simp
  rfl
 refine hK.out _ _ ⟨((cell_far (p := ⟨a8, _, none⟩) a6.out _).trans (((cell_far (p := ⟨a8, _, none⟩) a6.out _).trans (((cell_far (p := ⟨a8, _, none⟩) a6.out _).trans (b3.1)))))), ((cell_far (p := ⟨a8, _, none⟩) a6.out _).trans (((cell_far (p := ⟨a8, _, none⟩) a6.out _).trans (((cell_far (p := ⟨a8, _, none⟩) a6.out _).trans (b3.2.1)))))), ((cell_far (p := ⟨a8, _, none⟩) a6.out _).trans (((cell_far (p := ⟨a8, _, none⟩) a6.out _).trans (((cell_far (p := ⟨a8, _, none⟩) a6.out _).trans (b3.2.2.1)))))), ((cell_far (p := ⟨a8, _, none⟩) a7.out _).trans (((cell_far (p := ⟨a8, _, none⟩) a7.out _).trans (((cell_far (p := ⟨a8, _, none⟩) a7.out _).trans (b3.2.2.2.1)))))), ((cell_far (p := ⟨a8, _, none⟩) a7.out _).trans (((cell_far (p := ⟨a8, _, none⟩) a7.out _).trans (((cell_far (p := ⟨a8, _, none⟩) a7.out _).trans (b3.2.2.2.2.1)))))), ((cell_far (p := ⟨a8, _, none⟩) a7.out _).trans (((cell_far (p := ⟨a8, _, none⟩) a7.out _).trans (((cell_far (p := ⟨a8, _, none⟩) a7.out _).trans (b3.2.2.2.2.2))))))⟩ (fun b3 => ?_)
 clear hK K
 refine done_ (by kernel_rfl) ?_
 try go_wp2
 refine bodyPost_ret (results_cell_row rfl _ _ a8 47 #[.bool f9, .slice i4 g0.length i5, .slice i6 g1.length i7] (0, 0) _ rfl sB Tryz.underlying47 rfl (by kernel_rfl)) rfl ?_
 exact ⟨_, _, by first | rfl | (simp [*] <;> rfl), sV e6.out, sV e7.out, aB⟩
def checker_fraction_compare.f (k : Nat) (a0_0 : Bool) (a8 : List Int) (a9 : List Int) (a1_0 : Bool) (b0 : List Int) (b1 : List Int) : Option (Int) := (checker_fraction_sub.f k a0_0 a8 a9 a1_0 b0 b1).bind fun b2 => ((checker_fraction_sign.f b2.1 b2.2.1 b2.2.2).bind fun b7 => (some b7))
theorem checker_fraction_compare.mono : ∀ a0 a1 a2 a3 a4 a5 k, LeO (checker_fraction_compare.f k a0 a1 a2 a3 a4 a5) (checker_fraction_compare.f (k + 1) a0 a1 a2 a3 a4 a5) := by
 intro a0 a1 a2 a3 a4 a5 k
 unfold checker_fraction_compare.f
 repeat' first | (with_reducible first | exact checker_fraction_sub.mono .. | exact LeO.refl _ | exact LeO.none _ | refine LeO.ite ?_ ?_ | refine LeO.bind ?_ (fun _ => ?_))
set_option maxHeartbeats 8000000 in
set_option maxRecDepth 100000 in
theorem checker_fraction_compare.calls (k : Nat) (a0_0 : Bool) (b8 : Option Addr) (b9 : Nat) (a8 : List Int) (c4 : Option Addr) (c5 : Nat) (a9 : List Int) (a1_0 : Bool) (c6 : Option Addr) (c7 : Nat) (b0 : List Int) (c8 : Option Addr) (c9 : Nat) (b1 : List Int) (r : Int) (w : World) (d0 : Kd.C (Kd.int .u32) w b8 a8.length a8) (d1 : a8.length ≤ b9) (d2 : Kd.C (Kd.int .u32) w c4 a9.length a9) (d3 : a9.length ≤ c5) (d4 : Kd.C (Kd.int .u32) w c6 b0.length b0) (d5 : b0.length ≤ c7) (d6 : Kd.C (Kd.int .u32) w c8 b1.length b1) (d7 : b1.length ≤ c9) (h : checker_fraction_compare.f k a0_0 a8 a9 a1_0 b0 b1 = some r) :
  Calls Tryz.prog 17 #[.agg #[.bool a0_0, .slice b8 a8.length b9, .slice c4 a9.length c5], .agg #[.bool a1_0, .slice c6 b0.length c7, .slice c8 b1.length c9]] w fun e w' => e = .returned (.int .i64 r) ∧ Below w.heap.size w w' := by
 have hu47 := Tryz.underlying47
 have e4 := mk0 d0
 have e5 := mk0 d1
 clear d0 d1
 have e6 := mk0 d2
 have e7 := mk0 d3
 clear d2 d3
 have e8 := mk0 d4
 have e9 := mk0 d5
 clear d4 d5
 have f0 := mk0 d6
 have f1 := mk0 d7
 clear d6 d7
 have HB := mk0 (Below.refl w.heap.size w)
 have H : ((checker_fraction_sub.f k a0_0 a8 a9 a1_0 b0 b1).bind fun b2 => ((checker_fraction_sign.f b2.1 b2.2.1 b2.2.2).bind fun b7 => (some b7))) = some r := h
 clear h
 obtain ⟨⟨e1, e2, e3⟩, A3, H⟩ := bS H
 (try dsimp only at H)
 obtain ⟨b7, A4, H⟩ := bS H
 obtain rfl := Option.some.inj H
 go_enter Tryz.func17, Tryz.ntmps17
 go_wp2_with (first | (refine gd 2 ?_; refine box_event ?hg (N := 2) ?hd (cs := #[.bool a0_0, .slice b8 a8.length b9, .slice c4 a9.length c5]) (t := 47) ?hr ?_; (case hd => rfl); (case hg => rfl); (case hr => exact aH); intro d8 hg w5 hbox hb; have a6 := mk0 (hbox);have i1 := uG hg;have i2 := uG hg;replace HB := uW hb; clear hb hbox hg) | (refine gd 3 ?_; refine box_event ?hg (N := 3) ?hd (cs := #[.bool a1_0, .slice c6 b0.length c7, .slice c8 b1.length c9]) (t := 47) ?hr ?_; (case hd => rfl); (case hg => rfl); (case hr => exact aH); intro d9 hg w6 hbox hb; have a7 := mk0 (hbox);have i3 := uG hg;have i4 := uG hg;replace HB := uW hb;have b5 := uL a6 hg;have b6 := uM a6 hg;replace a6 := uB a6 hb; clear hb hbox hg; have i7 := b5.out; have i8 := b6.out; have f2 := cZ a6 0; have f3 := cZ a6 1; have f4 := cZ a6 2; have f5 := blk_frozen a6.out 0; have f6 := blk_frozen a6.out 1; have f7 := blk_frozen a6.out 2; have f8 := cZ a7 0; have f9 := cZ a7 1; have g0 := cZ a7 2; have g1 := blk_frozen a7.out 0; have g2 := blk_frozen a7.out 1; have g3 := blk_frozen a7.out 2) | (refine gc 42 ?_; refine gl 7 Tryz.func42 #[.agg #[.bool a0_0, .slice b8 a8.length b9, .slice c4 a9.length c5], .agg #[.bool a1_0, .slice c6 b0.length c7, .slice c8 b1.length c9]] ?_; (with_reducible refine (checker_fraction_sub.calls k a0_0 _ _ a8 _ _ a9 a1_0 (fun k_ => k_ < w.heap.size) _ _ b0 (fun k_ => k_ < w.heap.size) _ _ b1 e1 e2 e3 _ ?side1 ?side2 ?side3 ?side4 ?side5 ?side6 A3.out).mono ?_); (case side1 => exact pC (Kd.C_below e4.out HB.out)); (case side2 => exact e5.out); (case side3 => exact pC (Kd.C_below e6.out HB.out)); (case side4 => exact e7.out); (case side5 => exact Kd.V_mk e9.out (Kd.F_below (Kd.C_F (Kd.heap_int .u32) e8.out) (aB))); (case side6 => exact Kd.V_mk f1.out (Kd.F_below (Kd.C_F (Kd.heap_int .u32) f0.out) (aB))); rintro e j1 ⟨i9, j0, rfl, i5, i6, hb⟩; refine ⟨_, rfl, ?_⟩; have b3 := lV (ok' := fun k_ => k_ ≠ d8 ∧ k_ ≠ d9) i5;have b4 := lV (ok' := fun k_ => k_ ≠ d8 ∧ k_ ≠ d9) i6;replace a6 := uB a6 hb;replace a7 := uB a7 hb;replace HB := uW hb; (try clear hb); (try clear i5); (try clear i6); obtain ⟨g4, g5, g6⟩ := Kd.V_slice b3.out; subst g6; obtain ⟨g7, g8, g9⟩ := Kd.V_slice b4.out; subst g9) | (refine gc 20 ?_; refine gl 8 Tryz.func20 #[.agg #[.bool e1, .slice g4 e2.length g5, .slice g7 e3.length g8]] ?_; (with_reducible refine (checker_fraction_sign.calls e1 _ _ e2 _ _ e3 b7 _ ?side1 ?side2 ?side3 ?side4 A4.out).mono ?_); (case side1 => exact pC ((Kd.V_reads' b3.out).2.2)); (case side2 => exact (Kd.V_reads' b3.out).2.1); (case side3 => exact pC ((Kd.V_reads' b4.out).2.2)); (case side4 => exact (Kd.V_reads' b4.out).2.1); rintro e j2 ⟨rfl, hb⟩; refine ⟨_, rfl, ?_⟩; replace b3 := uV b3 hb;replace b4 := uV b4 hb;replace a6 := uB a6 hb;replace a7 := uB a7 hb;replace HB := uW hb; (try clear hb); (try clear hb2); (try clear hk); (try clear hi)))
 go_ret
 exact ⟨by first | rfl | (simp [*] <;> rfl), aB⟩
mutual
def checker_system_sums.l0 : Nat → List (S47) → Int → Int → List (List (S47)) → List (S47) → List (S47) → Option ((List (S47)) × Bool × List Int × List Int)
 | 0, _, _, _, _, _, _ => none
 | k + 1, x6, x13, x14, x479000, x479001, x479002 => if x14 < x13 then (checker_system_sums.l1 k x6 x14 ([] : List (S47)) x13 x14 x479000 (x479000.length : Int) 0 x479000 x479001 x479002) else ((checker_sum.f k x479002 x479001).bind fun f4 => (some (x6, f4.1, f4.2.1, f4.2.2)))
def checker_system_sums.l1 : Nat → List (S47) → Int → List (S47) → Int → Int → List (List (S47)) → Int → Int → List (List (S47)) → List (S47) → List (S47) → Option ((List (S47)) × Bool × List Int × List Int)
 | 0, _, _, _, _, _, _, _, _, _, _, _ => none
 | k + 1, x6, x7, x8, x13, x14, x18, x19, x20, x479000, x479001, x479002 => if x20 < x19 then (if 0 ≤ x20 then (if x20 < (x18.length : Int) then (if 0 ≤ x7 then (if x7 < ((rd_L11 x18 x20).length : Int) then (if x8.length < 2513169434916 then (checker_system_sums.l1 k x6 x7 (x8 ++ [(⟨(rd_T47 (rd_L11 x18 x20) x7).f0, (rd_T47 (rd_L11 x18 x20) x7).f1, (rd_T47 (rd_L11 x18 x20) x7).f2⟩ : S47)]) x13 x14 x18 x19 (wrap64 (x20 + 1)) x479000 x479001 x479002) else (none)) else (none)) else (none)) else (none)) else (none)) else ((checker_sum.f k x479002 x8).bind fun f5 => (if 0 ≤ x7 then (if x7 < (x6.length : Int) then (checker_system_sums.l0 k (x6.set (x7 : Int).toNat (⟨f5.1, f5.2.1, f5.2.2⟩ : S47)) x13 (wrap64 (x14 + 1)) x479000 x479001 x479002) else (none)) else (none)))
end
def checker_system_sums.f (k : Nat) (a9 : List (List (S47))) (c5 : List (S47)) (b5 : List (S47)) (a1 : Int) : Option ((List (S47)) × Bool × List Int × List Int) := if 0 ≤ a1 then (if (a1 : Int).toNat ≤ 5026338869833 then (checker_system_sums.l0 k (List.replicate (a1 : Int).toNat z47) a1 0 a9 c5 b5) else (none)) else (none)
theorem checker_system_sums.mono_l : ∀ k, (∀ y0 y1 y2 y3 y4 y5, LeO (checker_system_sums.l0 k y0 y1 y2 y3 y4 y5) (checker_system_sums.l0 (k + 1) y0 y1 y2 y3 y4 y5)) ∧ (∀ y0 y1 y2 y3 y4 y5 y6 y7 y8 y9 q2, LeO (checker_system_sums.l1 k y0 y1 y2 y3 y4 y5 y6 y7 y8 y9 q2) (checker_system_sums.l1 (k + 1) y0 y1 y2 y3 y4 y5 y6 y7 y8 y9 q2))
 | 0 => ⟨fun _ _ _ _ _ _ r h => by simp [checker_system_sums.l0] at h, fun _ _ _ _ _ _ _ _ _ _ _ r h => by simp [checker_system_sums.l1] at h⟩
 | k + 1 => by
  obtain ⟨ih0, ih1⟩ := checker_system_sums.mono_l k
  refine ⟨?_, ?_⟩
  ·
   intro y0 y1 y2 y3 y4 y5
   unfold checker_system_sums.l0
   repeat' first | (with_reducible first | exact ih0 .. | exact ih1 .. | exact checker_sum.mono .. | exact LeO.refl _ | exact LeO.none _ | refine LeO.ite ?_ ?_ | refine LeO.bind ?_ (fun _ => ?_))
  ·
   intro y0 y1 y2 y3 y4 y5 y6 y7 y8 y9 q2
   unfold checker_system_sums.l1
   repeat' first | (with_reducible first | exact ih0 .. | exact ih1 .. | exact checker_sum.mono .. | exact LeO.refl _ | exact LeO.none _ | refine LeO.ite ?_ ?_ | refine LeO.bind ?_ (fun _ => ?_))
theorem checker_system_sums.mono : ∀ a0 a1 a2 a3 k, LeO (checker_system_sums.f k a0 a1 a2 a3) (checker_system_sums.f (k + 1) a0 a1 a2 a3) := by
 intro a0 a1 a2 a3 k
 obtain ⟨ih0, ih1⟩ := checker_system_sums.mono_l k
 unfold checker_system_sums.f
 repeat' first | (with_reducible first | exact ih0 .. | exact ih1 .. | exact checker_sum.mono .. | exact LeO.refl _ | exact LeO.none _ | refine LeO.ite ?_ ?_ | refine LeO.bind ?_ (fun _ => ?_))
set_option maxHeartbeats 8000000 in
set_option maxRecDepth 100000 in
theorem checker_system_sums.calls (k : Nat) (a6 : Nat → Prop) (d9 : Option Addr) (d8 : Nat) (a9 : List (List (S47))) (e5 : Option Addr) (e6 : Nat) (c5 : List (S47)) (e1 : Option Addr) (e2 : Nat) (b5 : List (S47)) (a1 : Int) (r1 : List (S47)) (r2 : Bool) (r3 : List Int) (r4 : List Int) (w : World) (hG : GW w) (j8 : Kd.V (Kd.slice 47 k47) 53 w w.heap.size (fun k_ => a6 k_) (.slice d9 a9.length d8) a9) (i1 : Kd.C k47 w e5 c5.length c5) (i2 : c5.length ≤ e6) (i3 : Kd.C k47 w e1 b5.length b5) (i4 : b5.length ≤ e2) (h : checker_system_sums.f k a9 c5 b5 a1 = some (r1, r2, r3, r4)) :
  Calls Tryz.prog 18 #[.agg #[.slice d9 a9.length d8, .slice e5 c5.length e6, .slice e1 b5.length e2], .int .i64 a1] w fun e w' => ∃ v0_ v2_ v3_ : Value, e = .returned (.tuple #[v0_, .agg #[.bool r2, v2_, v3_]]) ∧ Kd.N k47 47 w' w.heap.size (fun k_ => (a6 k_ ∨ w.heap.size ≤ k_)) v0_ r1 ∧ Kd.V (Kd.int .u32) 94 w' w.heap.size (fun k_ => (a6 k_ ∨ w.heap.size ≤ k_) ∧ some k_ ≠ (v0_ : Value).ownBlock) v2_ r3 ∧ Kd.V (Kd.int .u32) 94 w' w.heap.size (fun k_ => (a6 k_ ∨ w.heap.size ≤ k_) ∧ some k_ ≠ (v0_ : Value).ownBlock) v3_ r4 ∧ Below w.heap.size w w' := by
 have hu58 := Tryz.underlying58
 have hu47 := Tryz.underlying47
 have d6 := mk0 (show Kd.V (Kd.slice 47 k47) 53 w w.heap.size (fun k_ => (a6 k_ ∨ w.heap.size ≤ k_)) (.slice d9 a9.length d8) a9 from Kd.V_mono j8 (fun k_ hk => .inl hk))
 have j9 := mk0 i1
 have k0 := mk0 i2
 clear i1 i2
 have i5 := mk0 i3
 have i6 := mk0 i4
 clear i3 i4
 have HB := mk0 (Below.refl w.heap.size w)
 have HG := mk0 hG
 clear hG
 have H : (if 0 ≤ a1 then (if (a1 : Int).toNat ≤ 5026338869833 then (checker_system_sums.l0 k (List.replicate (a1 : Int).toNat z47) a1 0 a9 c5 b5) else (none)) else (none)) = some (r1, r2, r3, r4) := h
 clear h
 by_cases c3 : 0 ≤ a1
 ·
  rw [if_pos c3] at H
  have k3 := eq_true c3
  have k4 : decide (0 ≤ a1) = true := decide_eq_true c3
  clear c3
  by_cases c4 : (a1 : Int).toNat ≤ 5026338869833
  ·
   rw [if_pos c4] at H
   have k5 := eq_true c4
   have k6 : decide ((a1 : Int).toNat ≤ 5026338869833) = true := decide_eq_true c4
   clear c4
   obtain ⟨k7, hy480⟩ : ∃ y_ : List (S47), y_ = (List.replicate (a1 : Int).toNat z47) := ⟨_, rfl⟩
   replace H : (checker_system_sums.l0 k k7 a1 0 a9 c5 b5) = some (r1, r2, r3, r4) := by first | (rw [hy480]; exact H) | (rw [hy480]; exact (Option.bind_some _ _).symm.trans H) | exact (Option.bind_some _ _).symm.trans H
   have Ny480 := mk0 hy480
   clear hy480
   have H' := mk0 H
   clear H
   go_enter Tryz.func18, Tryz.ntmps18
   go_wp2_with (first | (refine gd 2 ?_; refine box_event ?hg (N := 2) ?hd (cs := #[.slice d9 a9.length d8, .slice e5 c5.length e6, .slice e1 b5.length e2]) (t := 58) ?hr ?_; (case hd => rfl); (case hg => rfl); (case hr => exact aH); intro a8 hg w5 hbox hb; replace d6 := eV d6 hg hb;have a5 := mk0 (hbox);have s8 := uG hg;have s9 := uG hg;replace HB := uW hb; clear hb hbox hg) | (refine gd 5 ?_; refine box_event ?hg (N := 5) ?hd (cs := #[.bool false, .slice none 0 0, .slice none 0 0]) (t := 47) ?hr ?_; (case hd => rfl); (case hg => rfl); (case hr => exact aH); intro a7 hg w6 hbox hb; replace d6 := eV d6 hg hb;have b2 := mk0 (hbox);have t0 := uG hg;have t1 := uG hg;replace HB := uW hb;have c7 := uL a5 hg;have c8 := uM a5 hg;replace a5 := uB a5 hb; clear hb hbox hg) | (refine gd 12 ?_; refine Kd.N_make k47 _ 47 rfl (N' := 12) rfl 53 _ _ rfl a1 rfl rfl Tryz.underlying53 (.agg #[(.bool false), (.slice none 0 0), (.slice none 0 0)]) 56 info47 rfl (by decide) (by omega) z47 (ok := fun k_ => w6.heap.size ≤ k_) (okp := fun _ => False) (k47_mkF _ _ z47 (Nat.le_refl _) (Kd.F_nil _ _ _) (Nat.le_refl _) (Kd.F_nil _ _ _)) (fun _ hk => hk.elim) (Nat.le_refl _) (aD) (Nat.le_trans (Nat.mul_le_mul_right _ (aD : a1.toNat ≤ 5026338869833)) (by omega)) (Below.refl _ _) (Nat.le_refl _) ?_; intro b6 w7 m8 hb hg_ hnew_; clear hg_ hnew_; rw [← Ny480.out] at m8; replace d6 := dV d6 (Kd.N_base m8) hb;have k8 := lN (ok' := fun k_ => (a6 k_ ∨ w.heap.size ≤ k_) ∧ k_ ≠ a8 ∧ k_ ≠ a7) m8;replace a5 := uB a5 hb;replace b2 := uB b2 hb;replace HB := uW hb; clear hb m8))
   go_loopg [14] k (fun kq u6 w' => ∃ (b3 : List (S47)) (a4 : Int) (b7 : Bool), u6 = .int .i64 a4 ∧ Aside0 (checker_system_sums.l0 kq b3 a1 a4 a9 c5 b5 = some (r1, r2, r3, r4)) ∧ Aside0 (kq ≤ k) ∧ Aside0 (Kd.N k47 47 w' w.heap.size (fun k_ => (a6 k_ ∨ w.heap.size ≤ k_) ∧ k_ ≠ a8 ∧ k_ ≠ a7) b6 b3) ∧ Aside0 (Kd.V (Kd.slice 47 k47) 53 w' w.heap.size (fun k_ => (a6 k_ ∨ w.heap.size ≤ k_) ∧ some k_ ≠ (b6 : Value).ownBlock ∧ k_ ≠ a8 ∧ k_ ≠ a7) (.slice d9 a9.length d8) a9) ∧ Aside0 (w'.heap[a8]? = some (.cells #[(.slice d9 a9.length d8), (.slice e5 c5.length e6), (.slice e1 b5.length e2)] 58 (0, 0))) ∧ Aside0 (w'.heap[a7]? = some (.cells #[.bool b7, (.slice none 0 0), (.slice none 0 0)] 47 (0, 0))) ∧ Aside0 (Below w.heap.size w w'))
   case atStart => exact ⟨(k7), (0), (false), (by first | rfl | simp [*]), H', ⟨Nat.le_refl _⟩, ⟨pN k8.out⟩, ⟨sV d6.out⟩, ⟨pB a5.out⟩, ⟨pB b2.out⟩, ⟨aB⟩⟩
   case round =>
    clear H'
    try clear c1
    try clear p2
    try clear c3
    try clear k3
    try clear k4
    try clear c4
    try clear k5
    try clear k6
    obtain ⟨b3, a4, b7, rfl, HA, HK1, b8, b1, a5, b2, HB⟩ := hrel
    cases gk with
    | zero => exact absurd HA.out (by simp [checker_system_sums.l0])
    | succ k1 =>
     have H := HA.out
     clear HA
     simp only [checker_system_sums.l0] at H
     by_cases c9 : a4 < a1
     ·
      rw [if_pos c9] at H
      have k9 : decide (a4 < a1) = true := decide_eq_true c9
      clear c9
      have H' := mk0 H
      clear H
      have t2 := c7.out
      have t3 := c8.out
      have f6 := cZ a5 0
      have f7 := cZ a5 1
      have f8 := cZ a5 2
      have f9 := blk_frozen a5.out 0
      have g0 := blk_frozen a5.out 1
      have g1 := blk_frozen a5.out 2
      go_wp2
      go_loopg [8, 20] k1 (fun kq v8 u7 w' => ∃ (b9 : List (S47)) (b0 : Int), u7 = .int .i64 b0 ∧ Aside0 (checker_system_sums.l1 kq b3 a4 b9 a1 a4 a9 (a9.length : Int) b0 a9 c5 b5 = some (r1, r2, r3, r4)) ∧ Aside0 (kq ≤ k1) ∧ Aside0 (Kd.N k47 47 w' w.heap.size (fun k_ => (a6 k_ ∨ w.heap.size ≤ k_) ∧ some k_ ≠ (v8 : Value).ownBlock ∧ k_ ≠ a8 ∧ k_ ≠ a7) b6 b3) ∧ Aside0 (Kd.N k47 47 w' w.heap.size (fun k_ => (a6 k_ ∨ w.heap.size ≤ k_) ∧ some k_ ≠ (b6 : Value).ownBlock ∧ k_ ≠ a8 ∧ k_ ≠ a7) v8 b9) ∧ Aside0 (Kd.V (Kd.slice 47 k47) 53 w' w.heap.size (fun k_ => (a6 k_ ∨ w.heap.size ≤ k_) ∧ some k_ ≠ (b6 : Value).ownBlock ∧ some k_ ≠ (v8 : Value).ownBlock ∧ k_ ≠ a8 ∧ k_ ≠ a7) (.slice d9 a9.length d8) a9) ∧ Aside0 (Kd.V (Kd.slice 47 k47) 53 w' w.heap.size (fun k_ => (a6 k_ ∨ w.heap.size ≤ k_) ∧ some k_ ≠ (b6 : Value).ownBlock ∧ some k_ ≠ (v8 : Value).ownBlock ∧ k_ ≠ a8 ∧ k_ ≠ a7) (.slice d9 a9.length d8) a9) ∧ Aside0 (w'.heap[a8]? = some (.cells #[(.slice d9 a9.length d8), (.slice e5 c5.length e6), (.slice e1 b5.length e2)] 58 (0, 0))) ∧ Aside0 (w'.heap[a7]? = some (.cells #[.bool b7, (.slice none 0 0), (.slice none 0 0)] 47 (0, 0))) ∧ Aside0 (Below w.heap.size w w'))
      case atStart => exact ⟨(([] : List (S47))), (0), (by first | rfl | simp [*]), H', ⟨Nat.le_refl _⟩, ⟨by (with_reducible repeat (first | apply Kd.N_alloc | apply Kd.N_drewN | apply Kd.N_drew)); exact Kd.N_mono b8.out (fun _ hk => ⟨hk.1, ⟨(by simp [Value.ownBlock]), ⟨hk.2.1, hk.2.2⟩⟩⟩)⟩, ⟨by first | exact Kd.S_nil _ _ _ _ _ | exact Kd.N_nil _ _ _ _ _ | exact Kd.V_nil _ _ _ _ _ | exact Kd.Q_nil _ _ _ _ _ | exact Kd.R_nil _ _ _ _ _⟩, ⟨by (with_reducible repeat (first | apply Kd.V_alloc | apply Kd.V_drewN | apply Kd.V_drew)); exact Kd.V_mono b1.out (fun _ hk => ⟨hk.1, ⟨hk.2.1, ⟨(by simp [Value.ownBlock]), ⟨hk.2.2.1, hk.2.2.2⟩⟩⟩⟩)⟩, ⟨by (with_reducible repeat (first | apply Kd.V_alloc | apply Kd.V_drewN | apply Kd.V_drew)); exact Kd.V_mono b1.out (fun _ hk => ⟨hk.1, ⟨hk.2.1, ⟨(by simp [Value.ownBlock]), ⟨hk.2.2.1, hk.2.2.2⟩⟩⟩⟩)⟩, ⟨pB a5.out⟩, ⟨pB b2.out⟩, ⟨aB⟩⟩
      case round =>
       clear H'
       try clear c1
       try clear p2
       try clear c3
       try clear k3
       try clear k4
       try clear c4
       try clear k5
       try clear k6
       try clear c9
       try clear k9
       try clear v5
       try clear f6
       try clear f7
       try clear f8
       try clear f9
       try clear g0
       try clear g1
       try clear p2
       obtain ⟨b9, b0, rfl, HA, HK2, b8, d7, c6, b1, a5, b2, HB⟩ := hrel
       cases gk with
       | zero => exact absurd HA.out (by simp [checker_system_sums.l1])
       | succ k2 =>
        have H := HA.out
        clear HA
        simp only [checker_system_sums.l1] at H
        by_cases j7 : b0 < (a9.length : Int)
        ·
         rw [if_pos j7] at H
         have l2 : decide (b0 < (a9.length : Int)) = true := decide_eq_true j7
         clear j7
         by_cases m9 : 0 ≤ b0
         ·
          rw [if_pos m9] at H
          have t4 : decide (0 ≤ b0) = true := decide_eq_true m9
          clear m9
          by_cases n0 : b0 < (a9.length : Int)
          ·
           rw [if_pos n0] at H
           have t5 : decide (b0 < (a9.length : Int)) = true := decide_eq_true n0
           clear n0
           by_cases n1 : 0 ≤ a4
           ·
            rw [if_pos n1] at H
            have t6 : decide (0 ≤ a4) = true := decide_eq_true n1
            clear n1
            by_cases n2 : a4 < ((rd_L11 a9 b0).length : Int)
            ·
             rw [if_pos n2] at H
             have t7 : decide (a4 < ((rd_L11 a9 b0).length : Int)) = true := decide_eq_true n2
             clear n2
             by_cases n3 : b9.length < 2513169434916
             ·
              rw [if_pos n3] at H
              have l3 := mk0 n3
              clear n3
              obtain ⟨l4, hy492⟩ : ∃ y_ : List (S47), y_ = (b9 ++ [(⟨(rd_T47 (rd_L11 a9 b0) a4).f0, (rd_T47 (rd_L11 a9 b0) a4).f1, (rd_T47 (rd_L11 a9 b0) a4).f2⟩ : S47)]) := ⟨_, rfl⟩
              replace H : (checker_system_sums.l1 k2 b3 a4 l4 a1 a4 a9 (a9.length : Int) (wrap64 (b0 + 1)) a9 c5 b5) = some (r1, r2, r3, r4) := by first | (rw [hy492]; exact H) | (rw [hy492]; exact (Option.bind_some _ _).symm.trans H) | exact (Option.bind_some _ _).symm.trans H
              have Ny492 := mk0 hy492
              clear hy492
              have H' := mk0 H
              clear H
              have g2 : 0 ≤ (b0 : Int) := aD
              have g3 : b0 < (a9.length : Int) := aD
              obtain ⟨l5, q3, q4, e490, g4, hl490_0, hi490_0⟩ := at_L11 (Kd.V_reads' c6.out).2.2 b0 g2 g3
              cases e490
              obtain ⟨ce490, hce490, hMe490, hcc490⟩ := Kd.V_get c6.out [] b0 g2 (by first | exact g3 | exact aD | (have e_ := (Kd.V_reads' c6.out).1; omega))
              obtain ⟨ua490_0, uc490_0, rfl, ul490_0, ge490_0⟩ := Kd.FK_slice_open hMe490
              have hv490_0 := hcc490 0 _ rfl
              rw [Nat.add_zero, show ((Kd.slice 47 k47)).sz = 1 from rfl, Nat.mul_one] at hv490_0
              replace hv490_0 := Option.some.inj (hv490_0.symm.trans g4)
              injection hv490_0 with hva_ hvn_ hvc_
              rw [hva_] at ge490_0
              rw [hvc_] at ul490_0
              have d3 := mk0 (show Kd.V k47 47 _ w.heap.size _ _ (rd_L11 a9 b0) from Kd.V_mk ul490_0 ge490_0)
              clear hva_ hvn_ hvc_ ge490_0 ul490_0
              clear hcc490 hce490
              have e7 := mk0 hi490_0
              have n4 := mk0 hl490_0
              clear hi490_0 hl490_0
              replace g2 := eq_true g2
              replace g3 := eq_true g3
              have g5 : 0 ≤ (a4 : Int) := aD
              have g6 : a4 < ((rd_L11 a9 b0).length : Int) := aD
              obtain ⟨t8, i9, j0, j1, j2, e491, n5, g7, g8, hl491_1, hi491_1, hl491_2, hi491_2⟩ := at_T47 (by repeat (first | (with_reducible exact e7.out) | (with_reducible refine Kd.C_alloc ?_ _) | (with_reducible refine Kd.C_drewN ?_ _) | (with_reducible refine Kd.C_drew ?_) | exact e7.out)) a4 g5 g6
              cases e491
              obtain ⟨ce491, hce491, hMe491, hcc491⟩ := Kd.V_get d3.out z47 a4 g5 (by first | exact g6 | exact aD | (have e_ := (Kd.V_reads' d3.out).1; omega))
              obtain ⟨ua491_1, uc491_1, ua491_2, uc491_2, rfl, ul491_1, ge491_1, ul491_2, ge491_2⟩ := k47_openF hMe491
              have hv491_1 := hcc491 1 _ rfl
              rw [add_field _ _ 1 (by omega)] at hv491_1
              replace hv491_1 := Option.some.inj (hv491_1.symm.trans g7)
              injection hv491_1 with hva_ hvn_ hvc_
              rw [hva_] at ge491_1
              rw [hvc_] at ul491_1
              have d4 := mk0 (show Kd.V (Kd.int .u32) 94 _ w.heap.size _ _ ((rd_T47 (rd_L11 a9 b0) a4).f1) from Kd.V_mk ul491_1 ge491_1)
              clear hva_ hvn_ hvc_ ge491_1 ul491_1
              have hv491_2 := hcc491 2 _ rfl
              rw [add_field _ _ 2 (by omega)] at hv491_2
              replace hv491_2 := Option.some.inj (hv491_2.symm.trans g8)
              injection hv491_2 with hva_ hvn_ hvc_
              rw [hva_] at ge491_2
              rw [hvc_] at ul491_2
              have d5 := mk0 (show Kd.V (Kd.int .u32) 94 _ w.heap.size _ _ ((rd_T47 (rd_L11 a9 b0) a4).f2) from Kd.V_mk ul491_2 ge491_2)
              clear hva_ hvn_ hvc_ ge491_2 ul491_2
              clear hcc491 hce491
              have n6 := mk0 hi491_1
              have n7 := mk0 hl491_1
              clear hi491_1 hl491_1
              have n8 := mk0 hi491_2
              have n9 := mk0 hl491_2
              clear hi491_2 hl491_2
              replace g5 := eq_true g5
              replace g6 := eq_true g6
              go_wp2_with (first | ((with_reducible refine gate_builtin (b := .append) (xs := #[.tmp 24, .tmp 29]) rfl ?_); at_builtin; refine Kd.N_append k47 (w0 := w) w.heap.size rfl (.tmp 24) (.tmp 29) 53 47 (.agg #[(.bool false), (.slice none 0 0), (.slice none 0 0)]) 56 rfl Tryz.underlying53 info47 rfl (by decide) (by omega) u8 b9 (⟨(rd_T47 (rd_L11 a9 b0) a4).f0, (rd_T47 (rd_L11 a9 b0) a4).f1, (rd_T47 (rd_L11 a9 b0) a4).f2⟩ : S47) [.bool ((rd_T47 (rd_L11 a9 b0) a4).f0), .slice i9 ((rd_T47 (rd_L11 a9 b0) a4).f1).length j0, .slice j1 ((rd_T47 (rd_L11 a9 b0) a4).f2).length j2] (fun k_ => (a6 k_ ∨ w.heap.size ≤ k_) ∧ some k_ ≠ (b6 : Value).ownBlock ∧ k_ ≠ a8 ∧ k_ ≠ a7) (fun k_ => ((fun k_ => (a6 k_ ∨ w.heap.size ≤ k_) ∧ some k_ ≠ (b6 : Value).ownBlock ∧ k_ ≠ a8 ∧ k_ ≠ a7)) k_ ∧ some k_ ≠ (u8 : Value).ownBlock) rfl rfl ?aP (fun _ hk => hk) ?aF ?aO ?aB ?aS ?aL ?_; (case aP => exact (k47_mkF _ _ (⟨(rd_T47 (rd_L11 a9 b0) a4).f0, (rd_T47 (rd_L11 a9 b0) a4).f1, (rd_T47 (rd_L11 a9 b0) a4).f2⟩ : S47) (Kd.V_reads' (Kd.V_mono (ok' := (fun k_ => ((fun k_ => (a6 k_ ∨ w.heap.size ≤ k_) ∧ some k_ ≠ (b6 : Value).ownBlock ∧ k_ ≠ a8 ∧ k_ ≠ a7)) k_ ∧ some k_ ≠ (u8 : Value).ownBlock)) (d4.out) (fun k_ hk => ⟨⟨hk.1, ⟨hk.2.1, ⟨hk.2.2.2.1, hk.2.2.2.2⟩⟩⟩, hk.2.2.1⟩))).2.1 (Kd.V_F (Kd.V_mono (ok' := (fun k_ => ((fun k_ => (a6 k_ ∨ w.heap.size ≤ k_) ∧ some k_ ≠ (b6 : Value).ownBlock ∧ k_ ≠ a8 ∧ k_ ≠ a7)) k_ ∧ some k_ ≠ (u8 : Value).ownBlock)) (d4.out) (fun k_ hk => ⟨⟨hk.1, ⟨hk.2.1, ⟨hk.2.2.2.1, hk.2.2.2.2⟩⟩⟩, hk.2.2.1⟩))) (Kd.V_reads' (Kd.V_mono (ok' := (fun k_ => ((fun k_ => (a6 k_ ∨ w.heap.size ≤ k_) ∧ some k_ ≠ (b6 : Value).ownBlock ∧ k_ ≠ a8 ∧ k_ ≠ a7)) k_ ∧ some k_ ≠ (u8 : Value).ownBlock)) (d5.out) (fun k_ hk => ⟨⟨hk.1, ⟨hk.2.1, ⟨hk.2.2.2.1, hk.2.2.2.2⟩⟩⟩, hk.2.2.1⟩))).2.1 (Kd.V_F (Kd.V_mono (ok' := (fun k_ => ((fun k_ => (a6 k_ ∨ w.heap.size ≤ k_) ∧ some k_ ≠ (b6 : Value).ownBlock ∧ k_ ≠ a8 ∧ k_ ≠ a7)) k_ ∧ some k_ ≠ (u8 : Value).ownBlock)) (d5.out) (fun k_ hk => ⟨⟨hk.1, ⟨hk.2.1, ⟨hk.2.2.2.1, hk.2.2.2.2⟩⟩⟩, hk.2.2.1⟩))))); (case aB => exact (aB)); (case aF => exact (fun k_ hk => ⟨(.inr (Nat.le_trans (below_size (aB)) hk)), Kd.fresh' (Kd.N_lt (pN b8.out)) k_ hk, Kd.freshB (g := a8) (o := .cells #[.slice (some l5) a9.length d8, .slice e5 c5.length e6, .slice e1 b5.length e2] 58 (0, 0)) (pB a5.out) k_ hk, Kd.freshB (g := a7) (o := .cells #[.bool b7, .slice none 0 0, .slice none 0 0] 47 (0, 0)) (pB b2.out) k_ hk⟩)); (case aO => exact (pN d7.out)); (case aS => exact (below_size (aB))); (case aL => have := l3.out; omega); intro u9 v6 ho hb hg hat; rw [← Ny492.out] at ho; replace b8 := mk0 (Kd.N_afterv (ok := (fun k_ => (a6 k_ ∨ w.heap.size ≤ k_) ∧ k_ ≠ a8 ∧ k_ ≠ a7)) (sN b8.out) hg hat);replace c6 := mk0 (Kd.V_afterv (ok := (fun k_ => (a6 k_ ∨ w.heap.size ≤ k_) ∧ some k_ ≠ (b6 : Value).ownBlock ∧ k_ ≠ a8 ∧ k_ ≠ a7)) (sV c6.out) hg hat);replace b1 := mk0 (Kd.V_afterv (ok := (fun k_ => (a6 k_ ∨ w.heap.size ≤ k_) ∧ some k_ ≠ (b6 : Value).ownBlock ∧ k_ ≠ a8 ∧ k_ ≠ a7)) (sV b1.out) hg hat);replace a5 := gB a5 hg (Kd.N_ne d7.out a5.out (by decide));replace b2 := gB b2 hg (Kd.N_away d7.out (fun _ hk => hk.2.2.2));replace d3 := mk0 (Kd.V_afterv (ok := (fun k_ => (a6 k_ ∨ w.heap.size ≤ k_) ∧ some k_ ≠ (b6 : Value).ownBlock ∧ k_ ≠ a8 ∧ k_ ≠ a7)) (sV d3.out) hg hat);replace d4 := mk0 (Kd.V_afterv (ok := (fun k_ => (a6 k_ ∨ w.heap.size ≤ k_) ∧ some k_ ≠ (b6 : Value).ownBlock ∧ k_ ≠ a8 ∧ k_ ≠ a7)) (sV d4.out) hg hat);replace d5 := mk0 (Kd.V_afterv (ok := (fun k_ => (a6 k_ ∨ w.heap.size ≤ k_) ∧ some k_ ≠ (b6 : Value).ownBlock ∧ k_ ≠ a8 ∧ k_ ≠ a7)) (sV d5.out) hg hat);replace HB := mk0 (hb);have l6 := mk0 (ho);clear d7; clear ho hb hg hat))
              go_roundg k2
              case measure => have := HK1.out; have := HK2.out; omega
              case rel => exact ⟨(l4), (wrap64 (b0 + 1)), (by first | rfl | simp [*]), H', ⟨by have := HK1.out; have := HK2.out; omega⟩, ⟨sN b8.out⟩, ⟨pN l6.out⟩, ⟨sV c6.out⟩, ⟨sV b1.out⟩, ⟨pB a5.out⟩, ⟨pB b2.out⟩, ⟨aB⟩⟩
             ·
              rw [if_neg n3] at H
              exact absurd H (by simp)
            ·
             rw [if_neg n2] at H
             exact absurd H (by simp)
           ·
            rw [if_neg n1] at H
            exact absurd H (by simp)
          ·
           rw [if_neg n0] at H
           exact absurd H (by simp)
         ·
          rw [if_neg m9] at H
          exact absurd H (by simp)
        ·
         rw [if_neg j7] at H
         have l2 : decide (b0 < (a9.length : Int)) = false := decide_eq_false j7
         clear j7
         obtain ⟨⟨e8, e9, f3⟩, A19, H⟩ := bS H
         (try dsimp only at H)
         by_cases o1 : 0 ≤ a4
         ·
          rw [if_pos o1] at H
          have t9 : decide (0 ≤ a4) = true := decide_eq_true o1
          clear o1
          by_cases o2 : a4 < (b3.length : Int)
          ·
           rw [if_pos o2] at H
           have u0 : decide (a4 < (b3.length : Int)) = true := decide_eq_true o2
           clear o2
           obtain ⟨j3, hy502⟩ : ∃ y_ : List (S47), y_ = (b3.set (a4 : Int).toNat (⟨e8, e9, f3⟩ : S47)) := ⟨_, rfl⟩
           replace H : (checker_system_sums.l0 k2 j3 a1 (wrap64 (a4 + 1)) a9 c5 b5) = some (r1, r2, r3, r4) := by first | (rw [hy502]; exact H) | (rw [hy502]; exact (Option.bind_some _ _).symm.trans H) | exact (Option.bind_some _ _).symm.trans H
           have Ny502 := mk0 hy502
           clear hy502
           have H' := mk0 H
           clear H
           have u2 := c7.out
           have u3 := c8.out
           have o3 := cZ a5 0
           have o4 := cZ a5 1
           have o5 := cZ a5 2
           have o6 := blk_frozen a5.out 0
           have o7 := blk_frozen a5.out 1
           have o8 := blk_frozen a5.out 2
           obtain ⟨d0, d1, q5⟩ := Kd.N_slice d7.out
           subst q5
           go_wp2_with (first | (refine gc 16 ?_; refine gl 37 Tryz.func16 #[.slice e1 b5.length e2, .slice d0 b9.length d1] ?_; (with_reducible refine (checker_sum.calls k2 _ _ b5 _ _ b9 e8 e9 f3 _ ?side1 ?side2 ?side3 ?side4 ?side5 A19.out).mono ?_); (case side1 => exact GW.below HG.out (aB)); (case side2 => exact pC (Kd.C_below i5.out HB.out)); (case side3 => exact i6.out); (case side4 => exact pC ((Kd.N_reads' d7.out).2.2)); (case side5 => exact (Kd.N_reads' d7.out).2.1); rintro e g9 ⟨v0, v2, rfl, l7, l8, hb⟩; refine ⟨_, rfl, ?_⟩; replace c6 := uV c6 hb;replace b1 := uV b1 hb;have e3 := lV (ok' := fun k_ => (a6 k_ ∨ w.heap.size ≤ k_) ∧ some k_ ≠ (b6 : Value).ownBlock ∧ some k_ ≠ (.slice d0 b9.length d1 : Value).ownBlock ∧ k_ ≠ a8 ∧ k_ ≠ a7) l7;have e4 := lV (ok' := fun k_ => (a6 k_ ∨ w.heap.size ≤ k_) ∧ some k_ ≠ (b6 : Value).ownBlock ∧ some k_ ≠ (.slice d0 b9.length d1 : Value).ownBlock ∧ k_ ≠ a8 ∧ k_ ≠ a7) l8;replace b8 := uN b8 hb;replace d7 := uN d7 hb;replace a5 := uB a5 hb;replace b2 := uB b2 hb;replace HB := uW hb; (try clear hb); (try clear l7); (try clear l8); have q6 : 0 ≤ (a4 : Int) := aD; have q7 : (a4 : Int) < ((b3.length : Int) : Int) := aD; obtain ⟨b4, d2, l9, m0, gl22, cl22, HG22⟩ := Kd.N_form b8.out (by omega); (first | cases l9 | (injection l9 with ea_ en_ ec_; (first | subst ea_ | (injection ea_ with ea_; subst ea_)); subst ec_; clear en_)); have GB22 := mk0 m0; have GG22 := mk0 HG22; clear m0 gl22 HG22; obtain ⟨ce22, hcl22, hM22, hcc22, hfr22⟩ := Kd.N_elem b8.out z47 (a4 : Int) q6 q7; obtain ⟨ua22_1, uc22_1, ua22_2, uc22_2, rfl, ul22_1, ge22_1, ul22_2, ge22_2⟩ := k47_openF hM22; have q8 : g9.cell? ⟨b4, (a4 : Int).toNat * 3, none⟩ = some (.bool ((rd_T47 b3 a4).f0)) := hcc22 0 _ rfl; have q9 : g9.cell? ⟨b4, (a4 : Int).toNat * 3 + 1, none⟩ = some (.slice ua22_1 ((rd_T47 b3 a4).f1).length uc22_1) := hcc22 1 _ rfl; have r0 : g9.cell? ⟨b4, (a4 : Int).toNat * 3 + 2, none⟩ = some (.slice ua22_2 ((rd_T47 b3 a4).f2).length uc22_2) := hcc22 2 _ rfl; have hf22_0 : g9.frozen? ⟨b4, (a4 : Int).toNat * 3, none⟩ = false := hfr22 0; have hf22_1 : g9.frozen? ⟨b4, (a4 : Int).toNat * 3 + 1, none⟩ = false := hfr22 1; have hf22_2 : g9.frozen? ⟨b4, (a4 : Int).toNat * 3 + 2, none⟩ = false := hfr22 2; clear hcl22 hcc22 hfr22 hM22; replace q6 := eq_true q6; replace q7 := eq_true q7; obtain ⟨m1, m2, r5⟩ := Kd.V_slice e3.out; subst r5; obtain ⟨m3, m4, r6⟩ := Kd.V_slice e4.out; subst r6; have HX27 := mk0 (show Kd.N k47 47 g9 w.heap.size (fun k_ => (a6 k_ ∨ w.heap.size ≤ k_) ∧ some k_ ≠ (.slice d0 b9.length d1 : Value).ownBlock ∧ k_ ≠ a8 ∧ k_ ≠ a7) (.slice (some ⟨b4, 0, none⟩) b3.length d2) b3 from (pN b8.out)); obtain ⟨ce27, hcl27, hM27, hcc27, hfr27⟩ := Kd.N_elem HX27.out z47 (a4 : Int) (aD) (by have h_ : (a4 : Int) < ((b3.length : Int) : Int) := aD; first | exact h_ | (have e_ := (Kd.N_reads' b8.out).1; omega) | simpa using h_); obtain ⟨ua27_1, uc27_1, ua27_2, uc27_2, rfl, ul27_1, ge27_1, ul27_2, ge27_2⟩ := k47_openF hM27; have HP27 := Kd.N_seg HX27.out (a4 : Int) (aD) (by have h_ : (a4 : Int) < ((b3.length : Int) : Int) := aD; first | exact h_ | (have e_ := (Kd.N_reads' b8.out).1; omega) | simpa using h_) (seg := [.bool e8, .slice m1 e9.length m2, .slice m3 f3.length m4]) (j := 0) hcl27 hcc27 (show 3 ≤ 3 from by decide) (x' := (⟨e8, e9, f3⟩ : S47)) (k47_mkF _ _ (⟨e8, e9, f3⟩ : S47) (Kd.V_reads' (Kd.V_mono (ok' := (fun k_ => ((fun k_ => (a6 k_ ∨ w.heap.size ≤ k_) ∧ some k_ ≠ (.slice d0 b9.length d1 : Value).ownBlock ∧ k_ ≠ a8 ∧ k_ ≠ a7)) k_ ∧ k_ ≠ b4)) (e3.out) (fun k_ hk => ⟨⟨hk.1, ⟨hk.2.2.1, ⟨hk.2.2.2.1, hk.2.2.2.2⟩⟩⟩, fun e_ => (hk.2.1) (by rw [e_]; rfl)⟩))).2.1 (Kd.V_F (Kd.V_mono (ok' := (fun k_ => ((fun k_ => (a6 k_ ∨ w.heap.size ≤ k_) ∧ some k_ ≠ (.slice d0 b9.length d1 : Value).ownBlock ∧ k_ ≠ a8 ∧ k_ ≠ a7)) k_ ∧ k_ ≠ b4)) (e3.out) (fun k_ hk => ⟨⟨hk.1, ⟨hk.2.2.1, ⟨hk.2.2.2.1, hk.2.2.2.2⟩⟩⟩, fun e_ => (hk.2.1) (by rw [e_]; rfl)⟩))) (Kd.V_reads' (Kd.V_mono (ok' := (fun k_ => ((fun k_ => (a6 k_ ∨ w.heap.size ≤ k_) ∧ some k_ ≠ (.slice d0 b9.length d1 : Value).ownBlock ∧ k_ ≠ a8 ∧ k_ ≠ a7)) k_ ∧ k_ ≠ b4)) (e4.out) (fun k_ hk => ⟨⟨hk.1, ⟨hk.2.2.1, ⟨hk.2.2.2.1, hk.2.2.2.2⟩⟩⟩, fun e_ => (hk.2.1) (by rw [e_]; rfl)⟩))).2.1 (Kd.V_F (Kd.V_mono (ok' := (fun k_ => ((fun k_ => (a6 k_ ∨ w.heap.size ≤ k_) ∧ some k_ ≠ (.slice d0 b9.length d1 : Value).ownBlock ∧ k_ ≠ a8 ∧ k_ ≠ a7)) k_ ∧ k_ ≠ b4)) (e4.out) (fun k_ hk => ⟨⟨hk.1, ⟨hk.2.2.1, ⟨hk.2.2.2.1, hk.2.2.2.2⟩⟩⟩, fun e_ => (hk.2.1) (by rw [e_]; rfl)⟩)))) (fun _ hk => hk); have j4 := hcc27 0 _ rfl; (try simp only [show (k47).sz = 3 from rfl, Nat.mul_one, Nat.add_zero] at j4); have hf27_0 := hfr27 0; (try simp only [show (k47).sz = 3 from rfl, Nat.mul_one, Nat.add_zero] at hf27_0); have j5 := hcc27 1 _ rfl; (try simp only [show (k47).sz = 3 from rfl, Nat.mul_one, Nat.add_zero] at j5); have hf27_1 := hfr27 1; (try simp only [show (k47).sz = 3 from rfl, Nat.mul_one, Nat.add_zero] at hf27_1); have j6 := hcc27 2 _ rfl; (try simp only [show (k47).sz = 3 from rfl, Nat.mul_one, Nat.add_zero] at j6); have hf27_2 := hfr27 2; (try simp only [show (k47).sz = 3 from rfl, Nat.mul_one, Nat.add_zero] at hf27_2); clear hcl27 hcc27 hfr27 hM27) | ((with_reducible refine gate_store (t := 47) (p := 38) rfl ?_); refine store_event (t := 47) (p := 38) (v := ?vo_w28) (w1 := (((g9.setCell ⟨b4, (a4 : Int).toNat * 3, none⟩ (.bool e8)).setCell ⟨b4, (a4 : Int).toNat * 3 + 1, none⟩ (.slice m1 e9.length m2)).setCell ⟨b4, (a4 : Int).toNat * 3 + 2, none⟩ (.slice m3 f3.length m4))) ?hg ?ho ?hn ?hr ?_; (case ho => rfl); (case hg => rfl); (case hn => rfl); (case hr => exact aH); intro r7 hw; have hg : g9.grownBy r7 (some b4) := (by rw [hw]; exact HP27.2); have hp_ : Kd.N k47 47 r7 w.heap.size (fun k_ => (a6 k_ ∨ w.heap.size ≤ k_) ∧ some k_ ≠ (.slice d0 b9.length d1 : Value).ownBlock ∧ k_ ≠ a8 ∧ k_ ≠ a7) (.slice (some ⟨b4, 0, none⟩) b3.length d2) j3 := (by rw [hw, Ny502.out]; exact HP27.1); clear HP27; replace d7 := mk0 (Kd.N_afterv (v := (.slice (some ⟨b4, 0, none⟩) b3.length d2)) (v1 := (.slice (some ⟨b4, 0, none⟩) b3.length d2)) (ok := (fun k_ => (a6 k_ ∨ w.heap.size ≤ k_) ∧ k_ ≠ a8 ∧ k_ ≠ a7)) (sN d7.out) hg (.inl rfl));replace c6 := mk0 (Kd.V_afterv (v := (.slice (some ⟨b4, 0, none⟩) b3.length d2)) (v1 := (.slice (some ⟨b4, 0, none⟩) b3.length d2)) (ok := (fun k_ => (a6 k_ ∨ w.heap.size ≤ k_) ∧ some k_ ≠ (.slice d0 b9.length d1 : Value).ownBlock ∧ k_ ≠ a8 ∧ k_ ≠ a7)) (sV c6.out) hg (.inl rfl));replace b1 := mk0 (Kd.V_afterv (v := (.slice (some ⟨b4, 0, none⟩) b3.length d2)) (v1 := (.slice (some ⟨b4, 0, none⟩) b3.length d2)) (ok := (fun k_ => (a6 k_ ∨ w.heap.size ≤ k_) ∧ some k_ ≠ (.slice d0 b9.length d1 : Value).ownBlock ∧ k_ ≠ a8 ∧ k_ ≠ a7)) (sV b1.out) hg (.inl rfl));replace a5 := gB a5 hg (Kd.N_ne b8.out a5.out (by decide));replace b2 := gB b2 hg (Kd.N_away b8.out (fun _ hk => hk.2.2.2));replace b8 := mk0 (hp_);replace e3 := mk0 (Kd.V_afterv (v := (.slice (some ⟨b4, 0, none⟩) b3.length d2)) (v1 := (.slice (some ⟨b4, 0, none⟩) b3.length d2)) (ok := (fun k_ => (a6 k_ ∨ w.heap.size ≤ k_) ∧ some k_ ≠ (.slice d0 b9.length d1 : Value).ownBlock ∧ k_ ≠ a8 ∧ k_ ≠ a7)) (sV e3.out) hg (.inl rfl));replace e4 := mk0 (Kd.V_afterv (v := (.slice (some ⟨b4, 0, none⟩) b3.length d2)) (v1 := (.slice (some ⟨b4, 0, none⟩) b3.length d2)) (ok := (fun k_ => (a6 k_ ∨ w.heap.size ≤ k_) ∧ some k_ ≠ (.slice d0 b9.length d1 : Value).ownBlock ∧ k_ ≠ a8 ∧ k_ ≠ a7)) (sV e4.out) hg (.inl rfl));replace HB := mk0 ((by rw [hw]; exact below_set (below_set (below_set (HB.out) GB22.out) GB22.out) GB22.out : Below w.heap.size w r7)); clear hg hw hp_))
           go_roundg k2
           case measure => have := HK1.out; have := HK2.out; omega
           case rel => exact ⟨(j3), (wrap64 (a4 + 1)), (b7), (by first | rfl | simp [*]), H', ⟨by have := HK1.out; have := HK2.out; omega⟩, ⟨sN b8.out⟩, ⟨sV b1.out⟩, ⟨pB a5.out⟩, ⟨pB b2.out⟩, ⟨aB⟩⟩
          ·
           rw [if_neg o2] at H
           exact absurd H (by simp)
         ·
          rw [if_neg o1] at H
          exact absurd H (by simp)
     ·
      rw [if_neg c9] at H
      have k9 : decide (a4 < a1) = false := decide_eq_false c9
      clear c9
      obtain ⟨⟨m5, m6, m7⟩, A31, H⟩ := bS H
      (try dsimp only at H)
      simp only [Option.some.injEq, Prod.mk.injEq] at H
      obtain ⟨rfl, rfl, rfl, rfl⟩ := H
      have u4 := c7.out
      have u5 := c8.out
      have o9 := cZ a5 0
      have p0 := cZ a5 1
      have p1 := cZ a5 2
      have p3 := blk_frozen a5.out 0
      have p4 := blk_frozen a5.out 1
      have p5 := blk_frozen a5.out 2
      go_wp2_with (first | (refine gc 16 ?_; refine gl 45 Tryz.func16 #[.slice e1 b5.length e2, .slice e5 c5.length e6] ?_; (with_reducible refine (checker_sum.calls k1 _ _ b5 _ _ c5 m5 m6 m7 _ ?side1 ?side2 ?side3 ?side4 ?side5 A31.out).mono ?_); (case side1 => exact GW.below HG.out (aB)); (case side2 => exact pC (Kd.C_below i5.out HB.out)); (case side3 => exact i6.out); (case side4 => exact pC (Kd.C_below j9.out HB.out)); (case side5 => exact k0.out); rintro e v7 ⟨v3, v4, rfl, l7, l8, hb⟩; refine ⟨_, rfl, ?_⟩; replace b1 := uV b1 hb;have i7 := lV (ok' := fun k_ => (a6 k_ ∨ w.heap.size ≤ k_) ∧ some k_ ≠ (b6 : Value).ownBlock ∧ k_ ≠ a8 ∧ k_ ≠ a7) l7;have i8 := lV (ok' := fun k_ => (a6 k_ ∨ w.heap.size ≤ k_) ∧ some k_ ≠ (b6 : Value).ownBlock ∧ k_ ≠ a8 ∧ k_ ≠ a7) l8;replace b8 := uN b8 hb;replace a5 := uB a5 hb;replace b2 := uB b2 hb;replace HB := uW hb; (try clear hb); (try clear l7); (try clear l8); have p6 := cZ b2 0; have p7 := cZ b2 1; have p8 := cZ b2 2; have p9 := blk_frozen b2.out 0; have q0 := blk_frozen b2.out 1; have q1 := blk_frozen b2.out 2; obtain ⟨r8, r9, s0⟩ := Kd.V_slice i7.out; subst s0; obtain ⟨s5, s6, s7⟩ := Kd.V_slice i8.out; subst s7))
      refine bodyPost_ret (results_tc rfl _ _ a7 47 #[.bool m5, .slice r8 m6.length r9, .slice s5 m7.length s6] (0, 0) _ rfl sB Tryz.underlying47 rfl (by kernel_rfl)) rfl ?_
      exact ⟨_, _, _, by first | rfl | (simp [*] <;> rfl), sN b8.out, sV i7.out, sV i8.out, aB⟩
  ·
   rw [if_neg c4] at H
   exact absurd H (by simp)
 ·
  rw [if_neg c3] at H
  exact absurd H (by simp)
mutual
def checker_Optimal.j0 : Nat → List (S47) → List (S47) → Bool → List (List (S47)) → List (S47) → List (S47) → Option (Bool)
 | 0, _, _, _, _, _, _ => none
 | k + 1, x9, x11, x54, x523000, x523001, x523002 => if x54 = true then (some false) else (checker_Optimal.l0 k x9 x11 x523000 (x523000.length : Int) 0 x523000 x523001 x523002)
def checker_Optimal.l0 : Nat → List (S47) → List (S47) → List (List (S47)) → Int → Int → List (List (S47)) → List (S47) → List (S47) → Option (Bool)
 | 0, _, _, _, _, _, _, _, _ => none
 | k + 1, x9, x11, x56, x57, x58, x523000, x523001, x523002 => if x58 < x57 then (if 0 ≤ x58 then (if x58 < (x56.length : Int) then ((checker_sum.f k (rd_L11 x56 x58) x11).bind fun s6 => (if x58 < (x523001.length : Int) then ((checker_fraction_compare.f k s6.1 s6.2.1 s6.2.2 ((rd_T47 x523001 x58).f0) ((rd_T47 x523001 x58).f1) ((rd_T47 x523001 x58).f2)).bind fun p8 => (if p8 > 0 then (some false) else (checker_Optimal.l0 k x9 x11 x56 x57 (wrap64 (x58 + 1)) x523000 x523001 x523002))) else (none))) else (none)) else (none)) else ((checker_system_sums.f k x523000 x523001 x523002 (x9.length : Int)).bind fun p0 => (checker_Optimal.l1 k x9 x11 p0.1 (p0.1.length : Int) 0 p0.2.1 p0.2.2.1 p0.2.2.2))
def checker_Optimal.l1 : Nat → List (S47) → List (S47) → List (S47) → Int → Int → Bool → List Int → List Int → Option (Bool)
 | 0, _, _, _, _, _, _, _, _ => none
 | k + 1, x9, x11, x17, x82, x83, x544000, x544001, x544002 => if x83 < x82 then (if 0 ≤ x83 then (if x83 < (x17.length : Int) then (if x83 < (x9.length : Int) then ((checker_fraction_add.f k ((rd_T47 x17 x83).f0) ((rd_T47 x17 x83).f1) ((rd_T47 x17 x83).f2) ((rd_T47 x9 x83).f0) ((rd_T47 x9 x83).f1) ((rd_T47 x9 x83).f2)).bind fun s7 => ((checker_fraction_sign.f s7.1 s7.2.1 s7.2.2).bind fun n6 => (if n6 = 0 then (checker_Optimal.l1 k x9 x11 x17 x82 (wrap64 (x83 + 1)) x544000 x544001 x544002) else (some false)))) else (none)) else (none)) else (none)) else ((checker_sum.f k x9 x11).bind fun s8 => ((checker_fraction_add.f k x544000 x544001 x544002 s8.1 s8.2.1 s8.2.2).bind fun s9 => ((checker_fraction_sign.f s9.1 s9.2.1 s9.2.2).bind fun w5 => (some (w5 == 0)))))
end
def checker_Optimal.f (k : Nat) (l0 : List (S30)) (l1 : List ByteArray) (l2 : List ByteArray) (g4 : List ByteArray) : Option (Bool) := (checker_readAll.f k l1).bind fun i2 => ((checker_readAll.f k l2).bind fun i3 => ((checker_open.f k l0 (l1.length : Int) g4).bind fun e1 => (if i2.2 = true then (if i3.2 = true then (if e1.2.2.2 = true then (checker_Optimal.j0 k i2.1 i3.1 ((i3.1.length : Int) != (i2.1.length : Int)) e1.1 e1.2.1 e1.2.2.1) else (checker_Optimal.j0 k i2.1 i3.1 true e1.1 e1.2.1 e1.2.2.1)) else (checker_Optimal.j0 k i2.1 i3.1 true e1.1 e1.2.1 e1.2.2.1)) else (checker_Optimal.j0 k i2.1 i3.1 true e1.1 e1.2.1 e1.2.2.1))))
theorem checker_Optimal.mono_l : ∀ k, (∀ y0 y1 y2 y3 y4 y5, LeO (checker_Optimal.j0 k y0 y1 y2 y3 y4 y5) (checker_Optimal.j0 (k + 1) y0 y1 y2 y3 y4 y5)) ∧ (∀ y0 y1 y2 y3 y4 y5 y6 y7, LeO (checker_Optimal.l0 k y0 y1 y2 y3 y4 y5 y6 y7) (checker_Optimal.l0 (k + 1) y0 y1 y2 y3 y4 y5 y6 y7)) ∧ (∀ y0 y1 y2 y3 y4 y5 y6 y7, LeO (checker_Optimal.l1 k y0 y1 y2 y3 y4 y5 y6 y7) (checker_Optimal.l1 (k + 1) y0 y1 y2 y3 y4 y5 y6 y7))
 | 0 => ⟨fun _ _ _ _ _ _ r h => by simp [checker_Optimal.j0] at h, fun _ _ _ _ _ _ _ _ r h => by simp [checker_Optimal.l0] at h, fun _ _ _ _ _ _ _ _ r h => by simp [checker_Optimal.l1] at h⟩
 | k + 1 => by
  obtain ⟨ih0, ih1, ih2⟩ := checker_Optimal.mono_l k
  refine ⟨?_, ?_, ?_⟩
  ·
   intro y0 y1 y2 y3 y4 y5
   unfold checker_Optimal.j0
   repeat' first | (with_reducible first | exact ih0 .. | exact ih1 .. | exact ih2 .. | exact checker_fraction_add.mono .. | exact checker_fraction_compare.mono .. | exact checker_open.mono .. | exact checker_readAll.mono .. | exact checker_sum.mono .. | exact checker_system_sums.mono .. | exact LeO.refl _ | exact LeO.none _ | refine LeO.ite ?_ ?_ | refine LeO.bind ?_ (fun _ => ?_))
  ·
   intro y0 y1 y2 y3 y4 y5 y6 y7
   unfold checker_Optimal.l0
   repeat' first | (with_reducible first | exact ih0 .. | exact ih1 .. | exact ih2 .. | exact checker_fraction_add.mono .. | exact checker_fraction_compare.mono .. | exact checker_open.mono .. | exact checker_readAll.mono .. | exact checker_sum.mono .. | exact checker_system_sums.mono .. | exact LeO.refl _ | exact LeO.none _ | refine LeO.ite ?_ ?_ | refine LeO.bind ?_ (fun _ => ?_))
  ·
   intro y0 y1 y2 y3 y4 y5 y6 y7
   unfold checker_Optimal.l1
   repeat' first | (with_reducible first | exact ih0 .. | exact ih1 .. | exact ih2 .. | exact checker_fraction_add.mono .. | exact checker_fraction_compare.mono .. | exact checker_open.mono .. | exact checker_readAll.mono .. | exact checker_sum.mono .. | exact checker_system_sums.mono .. | exact LeO.refl _ | exact LeO.none _ | refine LeO.ite ?_ ?_ | refine LeO.bind ?_ (fun _ => ?_))
theorem checker_Optimal.mono : ∀ a0 a1 a2 a3 k, LeO (checker_Optimal.f k a0 a1 a2 a3) (checker_Optimal.f (k + 1) a0 a1 a2 a3) := by
 intro a0 a1 a2 a3 k
 obtain ⟨ih0, ih1, ih2⟩ := checker_Optimal.mono_l k
 unfold checker_Optimal.f
 repeat' first | (with_reducible first | exact ih0 .. | exact ih1 .. | exact ih2 .. | exact checker_fraction_add.mono .. | exact checker_fraction_compare.mono .. | exact checker_open.mono .. | exact checker_readAll.mono .. | exact checker_sum.mono .. | exact checker_system_sums.mono .. | exact LeO.refl _ | exact LeO.none _ | refine LeO.ite ?_ ?_ | refine LeO.bind ?_ (fun _ => ?_))
def checker_Optimal.T9 : Bool × List (List Nat × List Nat) := (true, [([], []), ([], []), ([0, 1], [0, 1]), ([], []), ([3], [3]), ([], []), ([4, 5], [4, 5]), ([6], [6]), ([2, 7, 2], [2, 7]), ([8], [8])])
def checker_Optimal.B9 : List Nat := [0, 0, 3, 0, 8, 0, 56, 120, 255, 511]
theorem checker_Optimal.tab9 : rtab .any (opsOf Tryz.f9 9) = checker_Optimal.T9 := by kernel_rfl
theorem checker_Optimal.bits9 : waitsOk checker_Optimal.T9.2 checker_Optimal.B9 = true := by kernel_rfl
def checker_Optimal.T16 : Bool × List (List Nat × List Nat) := (true, [([], []), ([], []), ([0, 1], [0, 1]), ([2], [2]), ([], []), ([], []), ([4, 5], [4, 5]), ([6], [6]), ([3, 7], [3, 7]), ([8, 8], [8]), ([9], [9])])
def checker_Optimal.B16 : List Nat := [0, 0, 3, 7, 0, 0, 48, 112, 255, 511, 1023]
theorem checker_Optimal.tab16 : rtab .any (opsOf Tryz.f9 16) = checker_Optimal.T16 := by kernel_rfl
theorem checker_Optimal.bits16 : waitsOk checker_Optimal.T16.2 checker_Optimal.B16 = true := by kernel_rfl
def checker_Optimal.T19 : Bool × List (List Nat × List Nat) := (true, [([], []), ([], []), ([], []), ([1, 2], [1, 2]), ([0, 3, 3], [0, 3]), ([4, 4], [4]), ([5], [5]), ([6, 5, 0, 1, 2, 3, 4, 5, 6], [6])])
def checker_Optimal.B19 : List Nat := [0, 0, 0, 6, 15, 31, 63, 127]
theorem checker_Optimal.tab19 : rtab .any (opsOf Tryz.f9 19) = checker_Optimal.T19 := by kernel_rfl
theorem checker_Optimal.bits19 : waitsOk checker_Optimal.T19.2 checker_Optimal.B19 = true := by kernel_rfl
set_option maxHeartbeats 8000000 in
set_option maxRecDepth 100000 in
theorem checker_Optimal.calls (k : Nat) (A0 : Option Addr) (c0 : Nat) (l0 : List (S30)) (A1 : Option Addr) (c1 : Nat) (l1 : List ByteArray) (A2 : Option Addr) (c2 : Nat) (l2 : List ByteArray) (k1 : Option Addr) (k4 : Nat) (g4 : List ByteArray) (r : Bool) (w : World) (hG : GW w) (hr0 : Kd.C k30 w A0 l0.length l0) (hc0 : l0.length ≤ c0) (hr1 : Kd.C Kd.string w A1 l1.length l1) (hc1 : l1.length ≤ c1) (hr2 : Kd.C Kd.string w A2 l2.length l2) (hc2 : l2.length ≤ c2) (v8 : Kd.C Kd.string w k1 g4.length g4) (v9 : g4.length ≤ k4) (h : checker_Optimal.f k l0 l1 l2 g4 = some r) :
  Calls Tryz.prog 9 #[.slice A0 l0.length c0, .slice A1 l1.length c1, .slice A2 l2.length c2, .agg #[.slice k1 g4.length k4]] w fun e w' => e = .returned (.bool r) ∧ Below w.heap.size w w' := by
 have hu33 := Tryz.underlying33
 have hu58 := Tryz.underlying58
 have hu47 := Tryz.underlying47
 have HR0 := mk0 hr0
 have J9 := mk0 hc0
 clear hr0 hc0
 have HR1 := mk0 hr1
 have K0 := mk0 hc1
 clear hr1 hc1
 have HR2 := mk0 hr2
 have K1 := mk0 hc2
 clear hr2 hc2
 have z6 := mk0 v8
 have z7 := mk0 v9
 clear v8 v9
 have HB := mk0 (Below.refl w.heap.size w)
 have HG := mk0 hG
 clear hG
 have H : ((checker_readAll.f k l1).bind fun i2 => ((checker_readAll.f k l2).bind fun i3 => ((checker_open.f k l0 (l1.length : Int) g4).bind fun e1 => (if i2.2 = true then (if i3.2 = true then (if e1.2.2.2 = true then (checker_Optimal.j0 k i2.1 i3.1 ((i3.1.length : Int) != (i2.1.length : Int)) e1.1 e1.2.1 e1.2.2.1) else (checker_Optimal.j0 k i2.1 i3.1 true e1.1 e1.2.1 e1.2.2.1)) else (checker_Optimal.j0 k i2.1 i3.1 true e1.1 e1.2.1 e1.2.2.1)) else (checker_Optimal.j0 k i2.1 i3.1 true e1.1 e1.2.1 e1.2.2.1))))) = some r := h
 clear h
 obtain ⟨⟨b9, z8⟩, A5, H⟩ := bS H
 (try dsimp only at H)
 obtain ⟨⟨e4, w6⟩, A6, H⟩ := bS H
 (try dsimp only at H)
 obtain ⟨⟨b4, b3, c6, t4⟩, A7, H⟩ := bS H
 (try dsimp only at H)
 have D5 := mk0 H
 clear H
 go_enter Tryz.func9, Tryz.ntmps9
 go_upto_region 4 with (first | (refine gd 7 ?_; (try (refine gate_guard (by rfl) ?_; dsimp only)); refine box_event ?hg (N := 7) ?hd (cs := #[.slice k1 g4.length k4]) (t := 33) ?hr ?_; (case hd => rfl); (case hg => rfl); (case hr => exact aH); intro b8 hg w9 hbox hb; have b1 := mk0 (hbox);have H6 := uG hg;have H7 := uG hg;replace HB := uW hb; clear hb hbox hg) | (refine gc 14 ?_; refine gl 22 Tryz.func14 #[.slice A1 l1.length c1] ?_; (with_reducible refine (checker_readAll.calls k _ _ l1 b9 z8 _ ?side1 ?side2 A5.out).mono ?_); (case side1 => exact pC (Kd.C_below HR1.out HB.out)); (case side2 => exact K0.out); rintro e L8 ⟨i4, rfl, i9, hb⟩; refine ⟨_, rfl, ?_⟩; have g5 := mk0 (Kd.N_lower (Kd.N_mono (ok' := fun k_ => k_ ≠ b8) i9 (fun k_ hk_ => (Kd.freshB (g := b8) (o := .cells #[.slice k1 g4.length k4] 33 (0, 0)) (pB b1.out) k_ hk_))) (below_size (aB)));replace b1 := uB b1 hb;replace HB := uW hb; (try clear hb); (try clear i9)) | (refine gc 14 ?_; refine gl 27 Tryz.func14 #[.slice A2 l2.length c2] ?_; (with_reducible refine (checker_readAll.calls k _ _ l2 e4 w6 _ ?side1 ?side2 A6.out).mono ?_); (case side1 => exact pC (Kd.C_below HR2.out HB.out)); (case side2 => exact K1.out); rintro e K2 ⟨f5, rfl, i9, hb⟩; refine ⟨_, rfl, ?_⟩; have j1 := mk0 (Kd.N_lower (Kd.N_mono (ok' := fun k_ => some k_ ≠ (i4 : Value).ownBlock ∧ k_ ≠ b8) i9 (fun k_ hk_ => ⟨(Kd.fresh' (Kd.N_lt (pN g5.out)) k_ hk_), (Kd.freshB (g := b8) (o := .cells #[.slice k1 g4.length k4] 33 (0, 0)) (pB b1.out) k_ hk_)⟩)) (below_size (aB)));replace g5 := dN g5 (Kd.N_base i9) hb;replace b1 := uB b1 hb;replace HB := uW hb; (try clear hb); (try clear i9); have q1 : K2.cell? ⟨b8, 0, none⟩ = some (.slice k1 g4.length k4) := (blk_cell b1.out 0).trans rfl; have q2 := blk_frozen b1.out 0) | (refine gc 15 ?_; refine gl 35 Tryz.func15 #[.slice A0 l0.length c0, .int .i64 (l1.length : Int), .agg #[.slice k1 g4.length k4]] ?_; (with_reducible refine (checker_open.calls k _ _ l0 (l1.length : Int) _ _ g4 b4 b3 c6 t4 _ ?side1 ?side2 ?side3 ?side4 A7.out).mono ?_); (case side1 => exact pC (Kd.C_below HR0.out HB.out)); (case side2 => exact J9.out); (case side3 => exact pC (Kd.C_below z6.out HB.out)); (case side4 => exact z7.out); rintro e L9 ⟨z9, A3, A4, rfl, i9, k9, w7, hb⟩; refine ⟨_, rfl, ?_⟩; have l5 := mk0 (Kd.N_lower (Kd.N_mono (ok' := fun k_ => some k_ ≠ (A3 : Value).ownBlock ∧ some k_ ≠ (A4 : Value).ownBlock ∧ some k_ ≠ (i4 : Value).ownBlock ∧ some k_ ≠ (f5 : Value).ownBlock ∧ k_ ≠ b8) i9 (fun k_ hk_ => ⟨hk_.2.1, hk_.2.2, (Kd.fresh' (Kd.N_lt (pN g5.out)) k_ hk_.1), (Kd.fresh' (Kd.N_lt (pN j1.out)) k_ hk_.1), (Kd.freshB (g := b8) (o := .cells #[.slice k1 g4.length k4] 33 (0, 0)) (pB b1.out) k_ hk_.1)⟩)) (below_size (aB)));have l6 := mk0 (Kd.N_lower (Kd.N_mono (ok' := fun k_ => some k_ ≠ (z9 : Value).ownBlock ∧ some k_ ≠ (A4 : Value).ownBlock ∧ some k_ ≠ (i4 : Value).ownBlock ∧ some k_ ≠ (f5 : Value).ownBlock ∧ k_ ≠ b8) k9 (fun k_ hk_ => ⟨hk_.2.1, hk_.2.2, (Kd.fresh' (Kd.N_lt (pN g5.out)) k_ hk_.1), (Kd.fresh' (Kd.N_lt (pN j1.out)) k_ hk_.1), (Kd.freshB (g := b8) (o := .cells #[.slice k1 g4.length k4] 33 (0, 0)) (pB b1.out) k_ hk_.1)⟩)) (below_size (aB)));have l7 := mk0 (Kd.N_lower (Kd.N_mono (ok' := fun k_ => some k_ ≠ (z9 : Value).ownBlock ∧ some k_ ≠ (A3 : Value).ownBlock ∧ some k_ ≠ (i4 : Value).ownBlock ∧ some k_ ≠ (f5 : Value).ownBlock ∧ k_ ≠ b8) w7 (fun k_ hk_ => ⟨hk_.2.1, hk_.2.2, (Kd.fresh' (Kd.N_lt (pN g5.out)) k_ hk_.1), (Kd.fresh' (Kd.N_lt (pN j1.out)) k_ hk_.1), (Kd.freshB (g := b8) (o := .cells #[.slice k1 g4.length k4] 33 (0, 0)) (pB b1.out) k_ hk_.1)⟩)) (below_size (aB)));replace g5 := mk0 (Kd.N_mono (Kd.N_told (Kd.N_told (Kd.N_told (Kd.N_old (pN g5.out) hb) (Kd.N_base i9)) (Kd.N_base k9)) (Kd.N_base w7)) (fun _ h_ => h_.1));replace j1 := mk0 (Kd.N_mono (Kd.N_told (Kd.N_told (Kd.N_told (Kd.N_old (pN j1.out) hb) (Kd.N_base i9)) (Kd.N_base k9)) (Kd.N_base w7)) (fun _ h_ => h_.1));replace b1 := uB b1 hb;replace HB := uW hb; (try clear hb); (try clear i9); (try clear k9); (try clear w7)) | (refine gd 13 ?_; (try (refine gate_guard (by rfl) ?_; dsimp only)); refine box_event ?hg (N := 13) ?hd (cs := #[.slice none 0 0, .slice none 0 0, .slice none 0 0]) (t := 58) ?hr ?_; (case hd => rfl); (case hg => rfl); (case hr => exact aH); intro b0 hg D6 hbox hb; replace g5 := eN g5 hg hb;replace j1 := eN j1 hg hb;replace l5 := eN l5 hg hb;replace l6 := eN l6 hg hb;replace l7 := eN l7 hg hb;have a8 := mk0 (hbox);have H8 := uG hg;have H9 := uG hg;replace HB := uW hb;have d1 := uL b1 hg;have k8 := uM b1 hg;replace b1 := uB b1 hb; clear hb hbox hg; obtain ⟨d4, c7, D7⟩ := Kd.N_slice l5.out; subst D7; have I0 := k8.out; have I1 := d1.out; have q3 : D6.cell? ⟨b0, 0, none⟩ = some (.slice none 0 0) := (blk_cell a8.out 0).trans rfl; have q4 : D6.cell? ⟨b0, 1, none⟩ = some (.slice none 0 0) := (blk_cell a8.out 1).trans rfl; have q6 : D6.cell? ⟨b0, 2, none⟩ = some (.slice none 0 0) := (blk_cell a8.out 2).trans rfl; have q7 := blk_frozen a8.out 0; have q8 := blk_frozen a8.out 1; have q9 := blk_frozen a8.out 2; obtain ⟨d5, d0, D8⟩ := Kd.N_slice l6.out; subst D8; obtain ⟨d2, d3, D9⟩ := Kd.N_slice l7.out; subst D9))
 (try simp only [Act.put, List.setIfInBounds_toArray, List.set_cons_zero, List.set_cons_succ])
 go_cut [54] (fun K3 wc => ∃ (kq : Nat) (r0 : Bool), K3 = .bool r0 ∧ Aside0 (checker_Optimal.j0 kq b9 e4 r0 b4 b3 c6 = some r) ∧ Aside0 (kq ≤ k) ∧ Aside0 (Kd.N k47 47 wc w.heap.size (fun k_ => some k_ ≠ (f5 : Value).ownBlock ∧ some k_ ≠ ((.slice d4 b4.length c7) : Value).ownBlock ∧ some k_ ≠ ((.slice d5 b3.length d0) : Value).ownBlock ∧ some k_ ≠ ((.slice d2 c6.length d3) : Value).ownBlock ∧ k_ ≠ b8 ∧ k_ ≠ b0) i4 b9) ∧ Aside0 (Kd.N k47 47 wc w.heap.size (fun k_ => some k_ ≠ (i4 : Value).ownBlock ∧ some k_ ≠ ((.slice d4 b4.length c7) : Value).ownBlock ∧ some k_ ≠ ((.slice d5 b3.length d0) : Value).ownBlock ∧ some k_ ≠ ((.slice d2 c6.length d3) : Value).ownBlock ∧ k_ ≠ b8 ∧ k_ ≠ b0) f5 e4) ∧ Aside0 (Kd.N (Kd.slice 47 k47) 53 wc w.heap.size (fun k_ => some k_ ≠ (i4 : Value).ownBlock ∧ some k_ ≠ (f5 : Value).ownBlock ∧ some k_ ≠ ((.slice d5 b3.length d0) : Value).ownBlock ∧ some k_ ≠ ((.slice d2 c6.length d3) : Value).ownBlock ∧ k_ ≠ b8 ∧ k_ ≠ b0) (.slice d4 b4.length c7) b4) ∧ Aside0 (Kd.N k47 47 wc w.heap.size (fun k_ => some k_ ≠ (i4 : Value).ownBlock ∧ some k_ ≠ (f5 : Value).ownBlock ∧ some k_ ≠ ((.slice d4 b4.length c7) : Value).ownBlock ∧ some k_ ≠ ((.slice d2 c6.length d3) : Value).ownBlock ∧ k_ ≠ b8 ∧ k_ ≠ b0) (.slice d5 b3.length d0) b3) ∧ Aside0 (Kd.N k47 47 wc w.heap.size (fun k_ => some k_ ≠ (i4 : Value).ownBlock ∧ some k_ ≠ (f5 : Value).ownBlock ∧ some k_ ≠ ((.slice d4 b4.length c7) : Value).ownBlock ∧ some k_ ≠ ((.slice d5 b3.length d0) : Value).ownBlock ∧ k_ ≠ b8 ∧ k_ ≠ b0) (.slice d2 c6.length d3) c6) ∧ Aside0 (wc.heap[b8]? = some (.cells #[(.slice k1 g4.length k4)] 33 (0, 0))) ∧ Aside0 (wc.heap[b0]? = some (.cells #[(.slice d4 b4.length c7), (.slice d5 b3.length d0), (.slice d2 c6.length d3)] 58 (0, 0))) ∧ Aside0 (Below w.heap.size w wc))
 case first =>
  have H := D5.out
  clear D5
  by_cases z2 : z8 = true
  ·
   subst z2
   have H1 : (if w6 = true then (if t4 = true then (checker_Optimal.j0 k b9 e4 ((e4.length : Int) != (b9.length : Int)) b4 b3 c6) else (checker_Optimal.j0 k b9 e4 true b4 b3 c6)) else (checker_Optimal.j0 k b9 e4 true b4 b3 c6)) = some r := by rw [if_pos rfl] at H; exact H
   clear H
   have H := H1
   clear H1
   by_cases z3 : w6 = true
   ·
    subst z3
    have H1 : (if t4 = true then (checker_Optimal.j0 k b9 e4 ((e4.length : Int) != (b9.length : Int)) b4 b3 c6) else (checker_Optimal.j0 k b9 e4 true b4 b3 c6)) = some r := by rw [if_pos rfl] at H; exact H
    clear H
    have H := H1
    clear H1
    by_cases z4 : t4 = true
    ·
     subst z4
     have H1 : (checker_Optimal.j0 k b9 e4 ((e4.length : Int) != (b9.length : Int)) b4 b3 c6) = some r := by rw [if_pos rfl] at H; exact H
     clear H
     have H := H1
     clear H1
     have H' := mk0 H
     clear H
     obtain ⟨K4, K5, E0⟩ := Kd.N_slice j1.out
     subst E0
     obtain ⟨K6, K7, E1⟩ := Kd.N_slice g5.out
     subst E1
     go_wp2
     go_meet
     case rel => exact ⟨_, (((e4.length : Int) != (b9.length : Int))), (by first | rfl | simp [*]), H', ⟨by omega⟩, ⟨by (with_reducible repeat (first | apply Kd.N_alloc | apply Kd.N_drewN | apply Kd.N_drew)); exact Kd.N_mono (Kd.N_far (p := ⟨b0, 2, none⟩) (Kd.N_far (p := ⟨b0, 1, none⟩) (Kd.N_far (p := ⟨b0, 0, none⟩) (Kd.N_mono g5.out (fun k_ hk => (⟨hk, hk.2⟩ : _ ∧ k_ ≠ b0))) (fun _ hk => hk.2) (.slice d4 b4.length c7)) (fun _ hk => hk.2) (.slice d5 b3.length d0)) (fun _ hk => hk.2) (.slice d2 c6.length d3)) (fun _ hk => ⟨hk.1.1.1.1.1.2, ⟨hk.1.1.1.1.2, ⟨hk.1.1.1.2, ⟨hk.1.1.2, ⟨hk.1.1.1.1.1.1, hk.1.2⟩⟩⟩⟩⟩)⟩, ⟨by (with_reducible repeat (first | apply Kd.N_alloc | apply Kd.N_drewN | apply Kd.N_drew)); exact Kd.N_mono (Kd.N_far (p := ⟨b0, 2, none⟩) (Kd.N_far (p := ⟨b0, 1, none⟩) (Kd.N_far (p := ⟨b0, 0, none⟩) (Kd.N_mono j1.out (fun k_ hk => (⟨hk, hk.2⟩ : _ ∧ k_ ≠ b0))) (fun _ hk => hk.2) (.slice d4 b4.length c7)) (fun _ hk => hk.2) (.slice d5 b3.length d0)) (fun _ hk => hk.2) (.slice d2 c6.length d3)) (fun _ hk => ⟨hk.1.1.1.1.1.1, ⟨hk.1.1.1.1.2, ⟨hk.1.1.1.2, ⟨hk.1.1.2, ⟨hk.1.1.1.1.1.2, hk.1.2⟩⟩⟩⟩⟩)⟩, ⟨sN l5.out⟩, ⟨sN l6.out⟩, ⟨sN l7.out⟩, ⟨by (with_reducible repeat (first | refine blk_drewN ?_ _ | refine blk_drew ?_ | refine blk_alloc ?_ _)); refine blk_far ?_ d1.out _; (with_reducible repeat (first | refine blk_drewN ?_ _ | refine blk_drew ?_ | refine blk_alloc ?_ _)); refine blk_far ?_ d1.out _; (with_reducible repeat (first | refine blk_drewN ?_ _ | refine blk_drew ?_ | refine blk_alloc ?_ _)); refine blk_far ?_ d1.out _; (with_reducible repeat (first | refine blk_drewN ?_ _ | refine blk_drew ?_ | refine blk_alloc ?_ _)); exact b1.out⟩, ⟨by (with_reducible repeat (first | refine blk_drewN ?_ _ | refine blk_drew ?_ | refine blk_alloc ?_ _)); refine blk_put (cs := #[.slice d4 b4.length c7, .slice d5 b3.length d0, .slice none 0 0]) ?_ 2 _ rfl; (with_reducible repeat (first | refine blk_drewN ?_ _ | refine blk_drew ?_ | refine blk_alloc ?_ _)); refine blk_put (cs := #[.slice d4 b4.length c7, .slice none 0 0, .slice none 0 0]) ?_ 1 _ rfl; (with_reducible repeat (first | refine blk_drewN ?_ _ | refine blk_drew ?_ | refine blk_alloc ?_ _)); refine blk_put (cs := #[.slice none 0 0, .slice none 0 0, .slice none 0 0]) ?_ 0 _ rfl; (with_reducible repeat (first | refine blk_drewN ?_ _ | refine blk_drew ?_ | refine blk_alloc ?_ _)); exact a8.out⟩, ⟨aB⟩⟩
    ·
     replace z4 := Bool.eq_false_iff.mpr z4
     subst z4
     have H1 : (checker_Optimal.j0 k b9 e4 true b4 b3 c6) = some r := by rw [if_neg (show ¬ (false = true) by decide)] at H; exact H
     clear H
     have H := H1
     clear H1
     have H' := mk0 H
     clear H
     go_wp2
     go_meet
     case rel => exact ⟨_, (true), (by first | rfl | simp [*]), H', ⟨by omega⟩, ⟨by (with_reducible repeat (first | apply Kd.N_alloc | apply Kd.N_drewN | apply Kd.N_drew)); exact Kd.N_mono (Kd.N_far (p := ⟨b0, 2, none⟩) (Kd.N_far (p := ⟨b0, 1, none⟩) (Kd.N_far (p := ⟨b0, 0, none⟩) (Kd.N_mono g5.out (fun k_ hk => (⟨hk, hk.2⟩ : _ ∧ k_ ≠ b0))) (fun _ hk => hk.2) (.slice d4 b4.length c7)) (fun _ hk => hk.2) (.slice d5 b3.length d0)) (fun _ hk => hk.2) (.slice d2 c6.length d3)) (fun _ hk => ⟨hk.1.1.1.1.1.2, ⟨hk.1.1.1.1.2, ⟨hk.1.1.1.2, ⟨hk.1.1.2, ⟨hk.1.1.1.1.1.1, hk.1.2⟩⟩⟩⟩⟩)⟩, ⟨by (with_reducible repeat (first | apply Kd.N_alloc | apply Kd.N_drewN | apply Kd.N_drew)); exact Kd.N_mono (Kd.N_far (p := ⟨b0, 2, none⟩) (Kd.N_far (p := ⟨b0, 1, none⟩) (Kd.N_far (p := ⟨b0, 0, none⟩) (Kd.N_mono j1.out (fun k_ hk => (⟨hk, hk.2⟩ : _ ∧ k_ ≠ b0))) (fun _ hk => hk.2) (.slice d4 b4.length c7)) (fun _ hk => hk.2) (.slice d5 b3.length d0)) (fun _ hk => hk.2) (.slice d2 c6.length d3)) (fun _ hk => ⟨hk.1.1.1.1.1.1, ⟨hk.1.1.1.1.2, ⟨hk.1.1.1.2, ⟨hk.1.1.2, ⟨hk.1.1.1.1.1.2, hk.1.2⟩⟩⟩⟩⟩)⟩, ⟨sN l5.out⟩, ⟨sN l6.out⟩, ⟨sN l7.out⟩, ⟨by (with_reducible repeat (first | refine blk_drewN ?_ _ | refine blk_drew ?_ | refine blk_alloc ?_ _)); refine blk_far ?_ d1.out _; (with_reducible repeat (first | refine blk_drewN ?_ _ | refine blk_drew ?_ | refine blk_alloc ?_ _)); refine blk_far ?_ d1.out _; (with_reducible repeat (first | refine blk_drewN ?_ _ | refine blk_drew ?_ | refine blk_alloc ?_ _)); refine blk_far ?_ d1.out _; (with_reducible repeat (first | refine blk_drewN ?_ _ | refine blk_drew ?_ | refine blk_alloc ?_ _)); exact b1.out⟩, ⟨by (with_reducible repeat (first | refine blk_drewN ?_ _ | refine blk_drew ?_ | refine blk_alloc ?_ _)); refine blk_put (cs := #[.slice d4 b4.length c7, .slice d5 b3.length d0, .slice none 0 0]) ?_ 2 _ rfl; (with_reducible repeat (first | refine blk_drewN ?_ _ | refine blk_drew ?_ | refine blk_alloc ?_ _)); refine blk_put (cs := #[.slice d4 b4.length c7, .slice none 0 0, .slice none 0 0]) ?_ 1 _ rfl; (with_reducible repeat (first | refine blk_drewN ?_ _ | refine blk_drew ?_ | refine blk_alloc ?_ _)); refine blk_put (cs := #[.slice none 0 0, .slice none 0 0, .slice none 0 0]) ?_ 0 _ rfl; (with_reducible repeat (first | refine blk_drewN ?_ _ | refine blk_drew ?_ | refine blk_alloc ?_ _)); exact a8.out⟩, ⟨aB⟩⟩
   ·
    replace z3 := Bool.eq_false_iff.mpr z3
    subst z3
    have H1 : (checker_Optimal.j0 k b9 e4 true b4 b3 c6) = some r := by rw [if_neg (show ¬ (false = true) by decide)] at H; exact H
    clear H
    have H := H1
    clear H1
    have H' := mk0 H
    clear H
    go_wp2
    go_meet
    case rel => exact ⟨_, (true), (by first | rfl | simp [*]), H', ⟨by omega⟩, ⟨by (with_reducible repeat (first | apply Kd.N_alloc | apply Kd.N_drewN | apply Kd.N_drew)); exact Kd.N_mono (Kd.N_far (p := ⟨b0, 2, none⟩) (Kd.N_far (p := ⟨b0, 1, none⟩) (Kd.N_far (p := ⟨b0, 0, none⟩) (Kd.N_mono g5.out (fun k_ hk => (⟨hk, hk.2⟩ : _ ∧ k_ ≠ b0))) (fun _ hk => hk.2) (.slice d4 b4.length c7)) (fun _ hk => hk.2) (.slice d5 b3.length d0)) (fun _ hk => hk.2) (.slice d2 c6.length d3)) (fun _ hk => ⟨hk.1.1.1.1.1.2, ⟨hk.1.1.1.1.2, ⟨hk.1.1.1.2, ⟨hk.1.1.2, ⟨hk.1.1.1.1.1.1, hk.1.2⟩⟩⟩⟩⟩)⟩, ⟨by (with_reducible repeat (first | apply Kd.N_alloc | apply Kd.N_drewN | apply Kd.N_drew)); exact Kd.N_mono (Kd.N_far (p := ⟨b0, 2, none⟩) (Kd.N_far (p := ⟨b0, 1, none⟩) (Kd.N_far (p := ⟨b0, 0, none⟩) (Kd.N_mono j1.out (fun k_ hk => (⟨hk, hk.2⟩ : _ ∧ k_ ≠ b0))) (fun _ hk => hk.2) (.slice d4 b4.length c7)) (fun _ hk => hk.2) (.slice d5 b3.length d0)) (fun _ hk => hk.2) (.slice d2 c6.length d3)) (fun _ hk => ⟨hk.1.1.1.1.1.1, ⟨hk.1.1.1.1.2, ⟨hk.1.1.1.2, ⟨hk.1.1.2, ⟨hk.1.1.1.1.1.2, hk.1.2⟩⟩⟩⟩⟩)⟩, ⟨sN l5.out⟩, ⟨sN l6.out⟩, ⟨sN l7.out⟩, ⟨by (with_reducible repeat (first | refine blk_drewN ?_ _ | refine blk_drew ?_ | refine blk_alloc ?_ _)); refine blk_far ?_ d1.out _; (with_reducible repeat (first | refine blk_drewN ?_ _ | refine blk_drew ?_ | refine blk_alloc ?_ _)); refine blk_far ?_ d1.out _; (with_reducible repeat (first | refine blk_drewN ?_ _ | refine blk_drew ?_ | refine blk_alloc ?_ _)); refine blk_far ?_ d1.out _; (with_reducible repeat (first | refine blk_drewN ?_ _ | refine blk_drew ?_ | refine blk_alloc ?_ _)); exact b1.out⟩, ⟨by (with_reducible repeat (first | refine blk_drewN ?_ _ | refine blk_drew ?_ | refine blk_alloc ?_ _)); refine blk_put (cs := #[.slice d4 b4.length c7, .slice d5 b3.length d0, .slice none 0 0]) ?_ 2 _ rfl; (with_reducible repeat (first | refine blk_drewN ?_ _ | refine blk_drew ?_ | refine blk_alloc ?_ _)); refine blk_put (cs := #[.slice d4 b4.length c7, .slice none 0 0, .slice none 0 0]) ?_ 1 _ rfl; (with_reducible repeat (first | refine blk_drewN ?_ _ | refine blk_drew ?_ | refine blk_alloc ?_ _)); refine blk_put (cs := #[.slice none 0 0, .slice none 0 0, .slice none 0 0]) ?_ 0 _ rfl; (with_reducible repeat (first | refine blk_drewN ?_ _ | refine blk_drew ?_ | refine blk_alloc ?_ _)); exact a8.out⟩, ⟨aB⟩⟩
  ·
   replace z2 := Bool.eq_false_iff.mpr z2
   subst z2
   have H1 : (checker_Optimal.j0 k b9 e4 true b4 b3 c6) = some r := by rw [if_neg (show ¬ (false = true) by decide)] at H; exact H
   clear H
   have H := H1
   clear H1
   have H' := mk0 H
   clear H
   go_wp2
   go_meet
   case rel => exact ⟨_, (true), (by first | rfl | simp [*]), H', ⟨by omega⟩, ⟨by (with_reducible repeat (first | apply Kd.N_alloc | apply Kd.N_drewN | apply Kd.N_drew)); exact Kd.N_mono (Kd.N_far (p := ⟨b0, 2, none⟩) (Kd.N_far (p := ⟨b0, 1, none⟩) (Kd.N_far (p := ⟨b0, 0, none⟩) (Kd.N_mono g5.out (fun k_ hk => (⟨hk, hk.2⟩ : _ ∧ k_ ≠ b0))) (fun _ hk => hk.2) (.slice d4 b4.length c7)) (fun _ hk => hk.2) (.slice d5 b3.length d0)) (fun _ hk => hk.2) (.slice d2 c6.length d3)) (fun _ hk => ⟨hk.1.1.1.1.1.2, ⟨hk.1.1.1.1.2, ⟨hk.1.1.1.2, ⟨hk.1.1.2, ⟨hk.1.1.1.1.1.1, hk.1.2⟩⟩⟩⟩⟩)⟩, ⟨by (with_reducible repeat (first | apply Kd.N_alloc | apply Kd.N_drewN | apply Kd.N_drew)); exact Kd.N_mono (Kd.N_far (p := ⟨b0, 2, none⟩) (Kd.N_far (p := ⟨b0, 1, none⟩) (Kd.N_far (p := ⟨b0, 0, none⟩) (Kd.N_mono j1.out (fun k_ hk => (⟨hk, hk.2⟩ : _ ∧ k_ ≠ b0))) (fun _ hk => hk.2) (.slice d4 b4.length c7)) (fun _ hk => hk.2) (.slice d5 b3.length d0)) (fun _ hk => hk.2) (.slice d2 c6.length d3)) (fun _ hk => ⟨hk.1.1.1.1.1.1, ⟨hk.1.1.1.1.2, ⟨hk.1.1.1.2, ⟨hk.1.1.2, ⟨hk.1.1.1.1.1.2, hk.1.2⟩⟩⟩⟩⟩)⟩, ⟨sN l5.out⟩, ⟨sN l6.out⟩, ⟨sN l7.out⟩, ⟨by (with_reducible repeat (first | refine blk_drewN ?_ _ | refine blk_drew ?_ | refine blk_alloc ?_ _)); refine blk_far ?_ d1.out _; (with_reducible repeat (first | refine blk_drewN ?_ _ | refine blk_drew ?_ | refine blk_alloc ?_ _)); refine blk_far ?_ d1.out _; (with_reducible repeat (first | refine blk_drewN ?_ _ | refine blk_drew ?_ | refine blk_alloc ?_ _)); refine blk_far ?_ d1.out _; (with_reducible repeat (first | refine blk_drewN ?_ _ | refine blk_drew ?_ | refine blk_alloc ?_ _)); exact b1.out⟩, ⟨by (with_reducible repeat (first | refine blk_drewN ?_ _ | refine blk_drew ?_ | refine blk_alloc ?_ _)); refine blk_put (cs := #[.slice d4 b4.length c7, .slice d5 b3.length d0, .slice none 0 0]) ?_ 2 _ rfl; (with_reducible repeat (first | refine blk_drewN ?_ _ | refine blk_drew ?_ | refine blk_alloc ?_ _)); refine blk_put (cs := #[.slice d4 b4.length c7, .slice none 0 0, .slice none 0 0]) ?_ 1 _ rfl; (with_reducible repeat (first | refine blk_drewN ?_ _ | refine blk_drew ?_ | refine blk_alloc ?_ _)); refine blk_put (cs := #[.slice none 0 0, .slice none 0 0, .slice none 0 0]) ?_ 0 _ rfl; (with_reducible repeat (first | refine blk_drewN ?_ _ | refine blk_drew ?_ | refine blk_alloc ?_ _)); exact a8.out⟩, ⟨aB⟩⟩
 case rest =>
  clear D5
  try clear c1
  try clear c2
  try clear p2
  try clear c3
  try clear c9
  try clear K8
  try clear K9
  try clear I2
  try clear z2
  try clear z3
  try clear z4
  try clear q1
  try clear q3
  try clear q4
  try clear q6
  try clear q2
  try clear q7
  try clear q8
  try clear q9
  obtain ⟨kq, r0, rfl, HA, HJ7, c8, b7, a6, a4, a5, b1, a8, HB⟩ := hcut
  cases kq with
  | zero => exact absurd HA.out (by simp [checker_Optimal.j0])
  | succ kj7 =>
   have H := HA.out
   clear HA
   simp only [checker_Optimal.j0] at H
   by_cases A8 : r0 = true
   ·
    subst A8
    have H1 : (some false) = some r := by rw [if_pos rfl] at H; exact H
    clear H
    have H := H1
    clear H1
    obtain rfl := Option.some.inj H
    go_wp2
    go_ret
    exact ⟨by first | rfl | (simp [*] <;> rfl), aB⟩
   ·
    replace A8 := Bool.eq_false_iff.mpr A8
    subst A8
    have H1 : (checker_Optimal.l0 kj7 b9 e4 b4 (b4.length : Int) 0 b4 b3 c6) = some r := by rw [if_neg (show ¬ (false = true) by decide)] at H; exact H
    clear H
    have H := H1
    clear H1
    have H' := mk0 H
    clear H
    have I3 := k8.out
    have I4 := d1.out
    have t5 := cZ a8 0
    have t6 := cZ a8 1
    have t7 := cZ a8 2
    have t8 := blk_frozen a8.out 0
    have t9 := blk_frozen a8.out 1
    have u0 := blk_frozen a8.out 2
    go_wp2
    go_loopg [58] kj7 (fun kq L0 w' => ∃ (b2 : Int), L0 = .int .i64 b2 ∧ Aside0 (checker_Optimal.l0 kq b9 e4 b4 (b4.length : Int) b2 b4 b3 c6 = some r) ∧ Aside0 (kq ≤ kj7) ∧ Aside0 (Kd.N k47 47 w' w.heap.size (fun k_ => some k_ ≠ (f5 : Value).ownBlock ∧ some k_ ≠ ((.slice d4 b4.length c7) : Value).ownBlock ∧ some k_ ≠ ((.slice d4 b4.length c7) : Value).ownBlock ∧ some k_ ≠ ((.slice d5 b3.length d0) : Value).ownBlock ∧ some k_ ≠ ((.slice d2 c6.length d3) : Value).ownBlock ∧ k_ ≠ b8 ∧ k_ ≠ b0) i4 b9) ∧ Aside0 (Kd.N k47 47 w' w.heap.size (fun k_ => some k_ ≠ (i4 : Value).ownBlock ∧ some k_ ≠ ((.slice d4 b4.length c7) : Value).ownBlock ∧ some k_ ≠ ((.slice d4 b4.length c7) : Value).ownBlock ∧ some k_ ≠ ((.slice d5 b3.length d0) : Value).ownBlock ∧ some k_ ≠ ((.slice d2 c6.length d3) : Value).ownBlock ∧ k_ ≠ b8 ∧ k_ ≠ b0) f5 e4) ∧ Aside0 (Kd.N (Kd.slice 47 k47) 53 w' w.heap.size (fun k_ => some k_ ≠ (i4 : Value).ownBlock ∧ some k_ ≠ (f5 : Value).ownBlock ∧ some k_ ≠ ((.slice d5 b3.length d0) : Value).ownBlock ∧ some k_ ≠ ((.slice d2 c6.length d3) : Value).ownBlock ∧ k_ ≠ b8 ∧ k_ ≠ b0) (.slice d4 b4.length c7) b4) ∧ Aside0 (Kd.N (Kd.slice 47 k47) 53 w' w.heap.size (fun k_ => some k_ ≠ (i4 : Value).ownBlock ∧ some k_ ≠ (f5 : Value).ownBlock ∧ some k_ ≠ ((.slice d5 b3.length d0) : Value).ownBlock ∧ some k_ ≠ ((.slice d2 c6.length d3) : Value).ownBlock ∧ k_ ≠ b8 ∧ k_ ≠ b0) (.slice d4 b4.length c7) b4) ∧ Aside0 (Kd.N k47 47 w' w.heap.size (fun k_ => some k_ ≠ (i4 : Value).ownBlock ∧ some k_ ≠ (f5 : Value).ownBlock ∧ some k_ ≠ ((.slice d4 b4.length c7) : Value).ownBlock ∧ some k_ ≠ ((.slice d4 b4.length c7) : Value).ownBlock ∧ some k_ ≠ ((.slice d2 c6.length d3) : Value).ownBlock ∧ k_ ≠ b8 ∧ k_ ≠ b0) (.slice d5 b3.length d0) b3) ∧ Aside0 (Kd.N k47 47 w' w.heap.size (fun k_ => some k_ ≠ (i4 : Value).ownBlock ∧ some k_ ≠ (f5 : Value).ownBlock ∧ some k_ ≠ ((.slice d4 b4.length c7) : Value).ownBlock ∧ some k_ ≠ ((.slice d4 b4.length c7) : Value).ownBlock ∧ some k_ ≠ ((.slice d5 b3.length d0) : Value).ownBlock ∧ k_ ≠ b8 ∧ k_ ≠ b0) (.slice d2 c6.length d3) c6) ∧ Aside0 (w'.heap[b8]? = some (.cells #[(.slice k1 g4.length k4)] 33 (0, 0))) ∧ Aside0 (w'.heap[b0]? = some (.cells #[(.slice d4 b4.length c7), (.slice d5 b3.length d0), (.slice d2 c6.length d3)] 58 (0, 0))) ∧ Aside0 (Below w.heap.size w w'))
    case atStart => exact ⟨(0), (by first | rfl | simp [*]), H', ⟨Nat.le_refl _⟩, ⟨sN c8.out⟩, ⟨sN b7.out⟩, ⟨pN a6.out⟩, ⟨pN a6.out⟩, ⟨sN a4.out⟩, ⟨sN a5.out⟩, ⟨pB b1.out⟩, ⟨pB a8.out⟩, ⟨aB⟩⟩
    case round =>
     clear H'
     try clear c1
     try clear c2
     try clear p2
     try clear c3
     try clear c9
     try clear K8
     try clear K9
     try clear I2
     try clear z2
     try clear z3
     try clear z4
     try clear A8
     try clear M0
     try clear q1
     try clear q3
     try clear q4
     try clear q6
     try clear t5
     try clear t6
     try clear t7
     try clear q2
     try clear q7
     try clear q8
     try clear q9
     try clear t8
     try clear t9
     try clear u0
     try clear p2
     obtain ⟨b2, rfl, HA, HK2, c8, b7, e3, a6, a4, a5, b1, a8, HB⟩ := hrel
     cases gk with
     | zero => exact absurd HA.out (by simp [checker_Optimal.l0])
     | succ k2 =>
      have H := HA.out
      clear HA
      simp only [checker_Optimal.l0] at H
      by_cases w8 : b2 < (b4.length : Int)
      ·
       rw [if_pos w8] at H
       have w3 : decide (b2 < (b4.length : Int)) = true := decide_eq_true w8
       clear w8
       by_cases A9 : 0 ≤ b2
       ·
        rw [if_pos A9] at H
        have I5 : decide (0 ≤ b2) = true := decide_eq_true A9
        clear A9
        by_cases B0 : b2 < (b4.length : Int)
        ·
         rw [if_pos B0] at H
         have I6 : decide (b2 < (b4.length : Int)) = true := decide_eq_true B0
         clear B0
         obtain ⟨⟨r4, r5, r6⟩, A31, H⟩ := bS H
         (try dsimp only at H)
         by_cases B1 : b2 < (b3.length : Int)
         ·
          rw [if_pos B1] at H
          have I7 : decide (b2 < (b3.length : Int)) = true := decide_eq_true B1
          clear B1
          obtain ⟨p8, A33, H⟩ := bS H
          by_cases x0 : p8 > 0
          ·
           rw [if_pos x0] at H
           have w4 : decide (0 < p8) = true := decide_eq_true x0
           clear x0
           obtain rfl := Option.some.inj H
           have n2 : 0 ≤ (b2 : Int) := aD
           have n3 : b2 < (b4.length : Int) := aD
           obtain ⟨j2, p9, q0, e523, l4, hl523_0, hi523_0⟩ := at_L11 (Kd.N_reads' e3.out).2.2 b2 n2 n3
           cases e523
           obtain ⟨ce523, hce523, hMe523, hcc523⟩ := Kd.N_get e3.out [] b2 n2 (by first | exact n3 | exact aD | (have e_ := (Kd.N_reads' e3.out).1; omega))
           obtain ⟨ua523_0, uc523_0, rfl, ul523_0, ge523_0⟩ := Kd.FK_slice_open hMe523
           have hv523_0 := hcc523 0 _ rfl
           rw [Nat.add_zero, show ((Kd.slice 47 k47)).sz = 1 from rfl, Nat.mul_one] at hv523_0
           replace hv523_0 := Option.some.inj (hv523_0.symm.trans l4)
           injection hv523_0 with hva_ hvn_ hvc_
           rw [hva_] at ge523_0
           rw [hvc_] at ul523_0
           have e2 := mk0 (show Kd.V k47 47 _ w.heap.size _ _ (rd_L11 b4 b2) from Kd.V_mk ul523_0 ge523_0)
           clear hva_ hvn_ hvc_ ge523_0 ul523_0
           clear hcc523 hce523
           have d9 := mk0 hi523_0
           have n7 := mk0 hl523_0
           clear hi523_0 hl523_0
           replace n2 := eq_true n2
           replace n3 := eq_true n3
           try go_wp2
           replace c8 := mk0 (Kd.N_drew c8.out)
           replace b7 := mk0 (Kd.N_drew b7.out)
           replace e3 := mk0 (Kd.N_drew e3.out)
           replace a6 := mk0 (Kd.N_drew a6.out)
           replace a4 := mk0 (Kd.N_drew a4.out)
           replace a5 := mk0 (Kd.N_drew a5.out)
           replace e2 := mk0 (Kd.V_drew e2.out)
           replace b1 := mk0 (blk_drew b1.out)
           replace a8 := mk0 (blk_drew a8.out)
           replace d9 := mk0 (Kd.C_drew d9.out)
           replace HB := mk0 (below_drew1 HB.out)
           have n4 : 0 ≤ (b2 : Int) := aD
           have n5 : b2 < (b3.length : Int) := aD
           obtain ⟨g3, l8, l9, m0, m1, e531, j8, g8, g9, hl531_1, hi531_1, hl531_2, hi531_2⟩ := at_T47 (Kd.N_reads' a4.out).2.2 b2 n4 n5
           cases e531
           obtain ⟨ce531, hce531, hMe531, hcc531⟩ := Kd.N_get a4.out z47 b2 n4 (by first | exact n5 | exact aD | (have e_ := (Kd.N_reads' a4.out).1; omega))
           obtain ⟨ua531_1, uc531_1, ua531_2, uc531_2, rfl, ul531_1, ge531_1, ul531_2, ge531_2⟩ := k47_openF hMe531
           have hv531_1 := hcc531 1 _ rfl
           rw [add_field _ _ 1 (by omega)] at hv531_1
           replace hv531_1 := Option.some.inj (hv531_1.symm.trans g8)
           injection hv531_1 with hva_ hvn_ hvc_
           rw [hva_] at ge531_1
           rw [hvc_] at ul531_1
           have f6 := mk0 (show Kd.V (Kd.int .u32) 94 _ w.heap.size _ _ ((rd_T47 b3 b2).f1) from Kd.V_mk ul531_1 ge531_1)
           clear hva_ hvn_ hvc_ ge531_1 ul531_1
           have hv531_2 := hcc531 2 _ rfl
           rw [add_field _ _ 2 (by omega)] at hv531_2
           replace hv531_2 := Option.some.inj (hv531_2.symm.trans g9)
           injection hv531_2 with hva_ hvn_ hvc_
           rw [hva_] at ge531_2
           rw [hvc_] at ul531_2
           have f7 := mk0 (show Kd.V (Kd.int .u32) 94 _ w.heap.size _ _ ((rd_T47 b3 b2).f2) from Kd.V_mk ul531_2 ge531_2)
           clear hva_ hvn_ hvc_ ge531_2 ul531_2
           clear hcc531 hce531
           have e6 := mk0 hi531_1
           have n8 := mk0 hl531_1
           clear hi531_1 hl531_1
           have e7 := mk0 hi531_2
           have n9 := mk0 hl531_2
           clear hi531_2 hl531_2
           replace n4 := eq_true n4
           replace n5 := eq_true n5
           obtain ⟨x1, x2, B2⟩ := Kd.N_slice b7.out
           (first | subst B2 | (injection B2 with f1_ f2_ f3_; have f4_ := f1_.symm; have f5_ := f3_.symm; clear f1_ f2_ f3_; subst f4_; subst f5_))
           refine start_ (n := 10) (S := fun w' => w'.cell? ⟨b0, 0, none⟩ = some (.slice (some j2) b4.length c7) ∧ w'.cell? ⟨b0, 1, none⟩ = some (.slice (some g3) b3.length d0) ∧ w'.cell? ⟨b0, 2, none⟩ = some (.slice d2 c6.length d3) ∧ w'.cell? (g3.add ((b2).toNat * 3)) = some (.bool ((rd_T47 b3 b2).f0)) ∧ w'.cell? ⟨(g3.add ((b2).toNat * 3)).block, (g3.add ((b2).toNat * 3)).off + 1, none⟩ = some (.slice l8 ((rd_T47 b3 b2).f1).length l9) ∧ w'.cell? ⟨(g3.add ((b2).toNat * 3)).block, (g3.add ((b2).toNat * 3)).off + 2, none⟩ = some (.slice m0 ((rd_T47 b3 b2).f2).length m1)) (ds := []) #[false, false, false, false, false, false, false, false, false, false] (by kernel_rfl) rfl rfl ⟨(blk_cell a8.out 0).trans rfl, (blk_cell a8.out 1).trans rfl, (blk_cell a8.out 2).trans rfl, j8, g8, g9⟩ (fun a7 => ?_); refine with_tabW checker_Optimal.tab9 checker_Optimal.bits9 (fun HT_ HW_ => ?_)
           generalize wr.drew = M1 at c8 b7 e3 a6 a4 a5 e2 b1 a8 d9 HB f6 f7 e6 e7 j8 g8 g9 a7 ⊢
           refine pu 0 63 HT_ ?_
           refine pu 1 64 HT_ ?_
           refine pu 3 66 HT_ ?_
           refine pu 5 68 HT_ ?_
           refine tk 4 67 HT_ HW_ a7 ?_
           refine pu 6 69 HT_ ?_
           refine tk 7 70 HT_ HW_ a7 ?_
           refine oN 2 65 HT_ (fun K hK => ?_)
           refine gz Tryz.func16 #[.slice p9 (rd_L11 b4 b2).length q0, .slice x1 e4.length x2] ?_
           with_reducible refine (checker_sum.calls k2 _ _ (rd_L11 b4 b2) _ _ e4 r4 r5 r6 _ ?side1 ?side2 ?side3 ?side4 ?side5 A31.out).mono ?_
           (case side1 => exact GW.below HG.out (aB))
           (case side2 => exact pC d9.out)
           (case side3 => exact n7.out)
           (case side4 => exact pC ((Kd.N_reads' b7.out).2.2))
           (case side5 => exact (Kd.N_reads' b7.out).2.1)
           rintro e M2 ⟨E2, E3, rfl, i9, k9, hb⟩
           have HS3_ := (hb.cell (World.block_lt_of_cell? _ _ (a7.2.2.2.1))).trans (a7.2.2.2.1)
           have HS4_ := (hb.cell (World.block_lt_of_cell? _ _ (a7.2.2.2.2.1))).trans (a7.2.2.2.2.1)
           have HS5_ := (hb.cell (World.block_lt_of_cell? _ _ (a7.2.2.2.2.2))).trans (a7.2.2.2.2.2)
           refine ⟨_, rfl, ?_⟩
           replace e2 := uV e2 hb
           replace f6 := uV f6 hb
           replace f7 := uV f7 hb
           have j3 := lV (ok' := fun k_ => some k_ ≠ (i4 : Value).ownBlock ∧ some k_ ≠ (.slice x1 e4.length x2 : Value).ownBlock ∧ some k_ ≠ (.slice (some j2) b4.length c7 : Value).ownBlock ∧ some k_ ≠ (.slice (some j2) b4.length c7 : Value).ownBlock ∧ some k_ ≠ (.slice (some g3) b3.length d0 : Value).ownBlock ∧ some k_ ≠ (.slice d2 c6.length d3 : Value).ownBlock ∧ k_ ≠ b8 ∧ k_ ≠ b0) i9
           have j4 := lV (ok' := fun k_ => some k_ ≠ (i4 : Value).ownBlock ∧ some k_ ≠ (.slice x1 e4.length x2 : Value).ownBlock ∧ some k_ ≠ (.slice (some j2) b4.length c7 : Value).ownBlock ∧ some k_ ≠ (.slice (some j2) b4.length c7 : Value).ownBlock ∧ some k_ ≠ (.slice (some g3) b3.length d0 : Value).ownBlock ∧ some k_ ≠ (.slice d2 c6.length d3 : Value).ownBlock ∧ k_ ≠ b8 ∧ k_ ≠ b0) k9
           replace c8 := uN c8 hb
           replace b7 := uN b7 hb
           replace e3 := uN e3 hb
           replace a6 := uN a6 hb
           replace a4 := uN a4 hb
           replace a5 := uN a5 hb
           replace b1 := uB b1 hb
           replace a8 := uB a8 hb
           replace d9 := uC d9 hb
           replace e6 := uC e6 hb
           replace e7 := uC e7 hb
           replace HB := uW hb
           (try clear hb)
           (try clear hb2)
           (try clear hk)
           (try clear hi)
           (try clear i9)
           (try clear k9)
           obtain ⟨E4, E5, B3⟩ := Kd.V_slice j3.out
           (first | subst B3 | (injection B3 with f1_ f2_ f3_; have f4_ := f1_.symm; have f5_ := f3_.symm; clear f1_ f2_ f3_; subst f4_; subst f5_))
           obtain ⟨E6, E7, B4⟩ := Kd.V_slice j4.out
           (first | subst B4 | (injection B4 with f1_ f2_ f3_; have f4_ := f1_.symm; have f5_ := f3_.symm; clear f1_ f2_ f3_; subst f4_; subst f5_))
           refine hK.out _ _ ⟨(blk_cell a8.out 0).trans rfl, (blk_cell a8.out 1).trans rfl, (blk_cell a8.out 2).trans rfl, HS3_, HS4_, HS5_⟩ (fun a7 => ?_)
           clear hK K
           refine norm_ (a' := ?_) ?_ ?_
           rotate_left
           ·
            show Act.put _ (some 65) _ = _
            exact aP
           refine oN 8 71 HT_ (fun K hK => ?_)
           refine gz Tryz.func17 #[.agg #[.bool r4, .slice E4 r5.length E5, .slice E6 r6.length E7], .agg #[.bool ((rd_T47 b3 b2).f0), .slice l8 ((rd_T47 b3 b2).f1).length l9, .slice m0 ((rd_T47 b3 b2).f2).length m1]] ?_
           with_reducible refine (checker_fraction_compare.calls k2 r4 _ _ r5 _ _ r6 ((rd_T47 b3 b2).f0) _ _ ((rd_T47 b3 b2).f1) _ _ ((rd_T47 b3 b2).f2) p8 _ ?side1 ?side2 ?side3 ?side4 ?side5 ?side6 ?side7 ?side8 A33.out).mono ?_
           (case side1 => exact pC ((Kd.V_reads' j3.out).2.2))
           (case side2 => exact (Kd.V_reads' j3.out).2.1)
           (case side3 => exact pC ((Kd.V_reads' j4.out).2.2))
           (case side4 => exact (Kd.V_reads' j4.out).2.1)
           (case side5 => exact pC e6.out)
           (case side6 => exact n8.out)
           (case side7 => exact pC e7.out)
           (case side8 => exact n9.out)
           rintro e M3 ⟨rfl, hb⟩
           have HS3_ := (hb.cell (World.block_lt_of_cell? _ _ (a7.2.2.2.1))).trans (a7.2.2.2.1)
           have HS4_ := (hb.cell (World.block_lt_of_cell? _ _ (a7.2.2.2.2.1))).trans (a7.2.2.2.2.1)
           have HS5_ := (hb.cell (World.block_lt_of_cell? _ _ (a7.2.2.2.2.2))).trans (a7.2.2.2.2.2)
           refine ⟨_, rfl, ?_⟩
           replace c8 := uN c8 hb
           replace b7 := uN b7 hb
           replace e3 := uN e3 hb
           replace a6 := uN a6 hb
           replace a4 := uN a4 hb
           replace a5 := uN a5 hb
           replace e2 := uV e2 hb
           replace f6 := uV f6 hb
           replace f7 := uV f7 hb
           replace j3 := uV j3 hb
           replace j4 := uV j4 hb
           replace b1 := uB b1 hb
           replace a8 := uB a8 hb
           replace d9 := uC d9 hb
           replace e6 := uC e6 hb
           replace e7 := uC e7 hb
           replace HB := uW hb
           (try clear hb)
           (try clear hb2)
           (try clear hk)
           (try clear hi)
           refine hK.out _ _ ⟨(blk_cell a8.out 0).trans rfl, (blk_cell a8.out 1).trans rfl, (blk_cell a8.out 2).trans rfl, HS3_, HS4_, HS5_⟩ (fun a7 => ?_)
           clear hK K
           refine norm_ (a' := ?_) ?_ ?_
           rotate_left
           ·
            show Act.put _ (some 71) _ = _
            exact aP
           refine pu 9 72 HT_ ?_
           refine done_ (done_of HT_.out (by kernel_rfl)) ?_
           try go_wp2
           go_ret
           exact ⟨by first | rfl | (simp [*] <;> rfl), aB⟩
          ·
           rw [if_neg x0] at H
           have w4 : decide (0 < p8) = false := decide_eq_false x0
           clear x0
           have H' := mk0 H
           clear H
           have n2 : 0 ≤ (b2 : Int) := aD
           have n3 : b2 < (b4.length : Int) := aD
           obtain ⟨j2, p9, q0, e523, l4, hl523_0, hi523_0⟩ := at_L11 (Kd.N_reads' e3.out).2.2 b2 n2 n3
           cases e523
           obtain ⟨ce523, hce523, hMe523, hcc523⟩ := Kd.N_get e3.out [] b2 n2 (by first | exact n3 | exact aD | (have e_ := (Kd.N_reads' e3.out).1; omega))
           obtain ⟨ua523_0, uc523_0, rfl, ul523_0, ge523_0⟩ := Kd.FK_slice_open hMe523
           have hv523_0 := hcc523 0 _ rfl
           rw [Nat.add_zero, show ((Kd.slice 47 k47)).sz = 1 from rfl, Nat.mul_one] at hv523_0
           replace hv523_0 := Option.some.inj (hv523_0.symm.trans l4)
           injection hv523_0 with hva_ hvn_ hvc_
           rw [hva_] at ge523_0
           rw [hvc_] at ul523_0
           have e2 := mk0 (show Kd.V k47 47 _ w.heap.size _ _ (rd_L11 b4 b2) from Kd.V_mk ul523_0 ge523_0)
           clear hva_ hvn_ hvc_ ge523_0 ul523_0
           clear hcc523 hce523
           have d9 := mk0 hi523_0
           have n7 := mk0 hl523_0
           clear hi523_0 hl523_0
           replace n2 := eq_true n2
           replace n3 := eq_true n3
           try go_wp2
           replace c8 := mk0 (Kd.N_drew c8.out)
           replace b7 := mk0 (Kd.N_drew b7.out)
           replace e3 := mk0 (Kd.N_drew e3.out)
           replace a6 := mk0 (Kd.N_drew a6.out)
           replace a4 := mk0 (Kd.N_drew a4.out)
           replace a5 := mk0 (Kd.N_drew a5.out)
           replace e2 := mk0 (Kd.V_drew e2.out)
           replace b1 := mk0 (blk_drew b1.out)
           replace a8 := mk0 (blk_drew a8.out)
           replace d9 := mk0 (Kd.C_drew d9.out)
           replace HB := mk0 (below_drew1 HB.out)
           have n4 : 0 ≤ (b2 : Int) := aD
           have n5 : b2 < (b3.length : Int) := aD
           obtain ⟨g3, l8, l9, m0, m1, e531, j8, g8, g9, hl531_1, hi531_1, hl531_2, hi531_2⟩ := at_T47 (Kd.N_reads' a4.out).2.2 b2 n4 n5
           cases e531
           obtain ⟨ce531, hce531, hMe531, hcc531⟩ := Kd.N_get a4.out z47 b2 n4 (by first | exact n5 | exact aD | (have e_ := (Kd.N_reads' a4.out).1; omega))
           obtain ⟨ua531_1, uc531_1, ua531_2, uc531_2, rfl, ul531_1, ge531_1, ul531_2, ge531_2⟩ := k47_openF hMe531
           have hv531_1 := hcc531 1 _ rfl
           rw [add_field _ _ 1 (by omega)] at hv531_1
           replace hv531_1 := Option.some.inj (hv531_1.symm.trans g8)
           injection hv531_1 with hva_ hvn_ hvc_
           rw [hva_] at ge531_1
           rw [hvc_] at ul531_1
           have f6 := mk0 (show Kd.V (Kd.int .u32) 94 _ w.heap.size _ _ ((rd_T47 b3 b2).f1) from Kd.V_mk ul531_1 ge531_1)
           clear hva_ hvn_ hvc_ ge531_1 ul531_1
           have hv531_2 := hcc531 2 _ rfl
           rw [add_field _ _ 2 (by omega)] at hv531_2
           replace hv531_2 := Option.some.inj (hv531_2.symm.trans g9)
           injection hv531_2 with hva_ hvn_ hvc_
           rw [hva_] at ge531_2
           rw [hvc_] at ul531_2
           have f7 := mk0 (show Kd.V (Kd.int .u32) 94 _ w.heap.size _ _ ((rd_T47 b3 b2).f2) from Kd.V_mk ul531_2 ge531_2)
           clear hva_ hvn_ hvc_ ge531_2 ul531_2
           clear hcc531 hce531
           have e6 := mk0 hi531_1
           have n8 := mk0 hl531_1
           clear hi531_1 hl531_1
           have e7 := mk0 hi531_2
           have n9 := mk0 hl531_2
           clear hi531_2 hl531_2
           replace n4 := eq_true n4
           replace n5 := eq_true n5
           obtain ⟨x3, x4, B5⟩ := Kd.N_slice b7.out
           (first | subst B5 | (injection B5 with f1_ f2_ f3_; have f4_ := f1_.symm; have f5_ := f3_.symm; clear f1_ f2_ f3_; subst f4_; subst f5_))
           refine start_ (n := 10) (S := fun w' => w'.cell? ⟨b0, 0, none⟩ = some (.slice (some j2) b4.length c7) ∧ w'.cell? ⟨b0, 1, none⟩ = some (.slice (some g3) b3.length d0) ∧ w'.cell? ⟨b0, 2, none⟩ = some (.slice d2 c6.length d3) ∧ w'.cell? (g3.add ((b2).toNat * 3)) = some (.bool ((rd_T47 b3 b2).f0)) ∧ w'.cell? ⟨(g3.add ((b2).toNat * 3)).block, (g3.add ((b2).toNat * 3)).off + 1, none⟩ = some (.slice l8 ((rd_T47 b3 b2).f1).length l9) ∧ w'.cell? ⟨(g3.add ((b2).toNat * 3)).block, (g3.add ((b2).toNat * 3)).off + 2, none⟩ = some (.slice m0 ((rd_T47 b3 b2).f2).length m1)) (ds := []) #[false, false, false, false, false, false, false, false, false, false] (by kernel_rfl) rfl rfl ⟨(blk_cell a8.out 0).trans rfl, (blk_cell a8.out 1).trans rfl, (blk_cell a8.out 2).trans rfl, j8, g8, g9⟩ (fun a7 => ?_); refine with_tabW checker_Optimal.tab9 checker_Optimal.bits9 (fun HT_ HW_ => ?_)
           generalize wr.drew = M4 at c8 b7 e3 a6 a4 a5 e2 b1 a8 d9 HB f6 f7 e6 e7 j8 g8 g9 a7 ⊢
           refine pu 0 63 HT_ ?_
           refine pu 1 64 HT_ ?_
           refine pu 3 66 HT_ ?_
           refine pu 5 68 HT_ ?_
           refine tk 4 67 HT_ HW_ a7 ?_
           refine pu 6 69 HT_ ?_
           refine tk 7 70 HT_ HW_ a7 ?_
           refine oN 2 65 HT_ (fun K hK => ?_)
           refine gz Tryz.func16 #[.slice p9 (rd_L11 b4 b2).length q0, .slice x3 e4.length x4] ?_
           with_reducible refine (checker_sum.calls k2 _ _ (rd_L11 b4 b2) _ _ e4 r4 r5 r6 _ ?side1 ?side2 ?side3 ?side4 ?side5 A31.out).mono ?_
           (case side1 => exact GW.below HG.out (aB))
           (case side2 => exact pC d9.out)
           (case side3 => exact n7.out)
           (case side4 => exact pC ((Kd.N_reads' b7.out).2.2))
           (case side5 => exact (Kd.N_reads' b7.out).2.1)
           rintro e M5 ⟨E2, E3, rfl, i9, k9, hb⟩
           have HS3_ := (hb.cell (World.block_lt_of_cell? _ _ (a7.2.2.2.1))).trans (a7.2.2.2.1)
           have HS4_ := (hb.cell (World.block_lt_of_cell? _ _ (a7.2.2.2.2.1))).trans (a7.2.2.2.2.1)
           have HS5_ := (hb.cell (World.block_lt_of_cell? _ _ (a7.2.2.2.2.2))).trans (a7.2.2.2.2.2)
           refine ⟨_, rfl, ?_⟩
           replace e2 := uV e2 hb
           replace f6 := uV f6 hb
           replace f7 := uV f7 hb
           have j3 := lV (ok' := fun k_ => some k_ ≠ (i4 : Value).ownBlock ∧ some k_ ≠ (.slice x3 e4.length x4 : Value).ownBlock ∧ some k_ ≠ (.slice (some j2) b4.length c7 : Value).ownBlock ∧ some k_ ≠ (.slice (some j2) b4.length c7 : Value).ownBlock ∧ some k_ ≠ (.slice (some g3) b3.length d0 : Value).ownBlock ∧ some k_ ≠ (.slice d2 c6.length d3 : Value).ownBlock ∧ k_ ≠ b8 ∧ k_ ≠ b0) i9
           have j4 := lV (ok' := fun k_ => some k_ ≠ (i4 : Value).ownBlock ∧ some k_ ≠ (.slice x3 e4.length x4 : Value).ownBlock ∧ some k_ ≠ (.slice (some j2) b4.length c7 : Value).ownBlock ∧ some k_ ≠ (.slice (some j2) b4.length c7 : Value).ownBlock ∧ some k_ ≠ (.slice (some g3) b3.length d0 : Value).ownBlock ∧ some k_ ≠ (.slice d2 c6.length d3 : Value).ownBlock ∧ k_ ≠ b8 ∧ k_ ≠ b0) k9
           replace c8 := uN c8 hb
           replace b7 := uN b7 hb
           replace e3 := uN e3 hb
           replace a6 := uN a6 hb
           replace a4 := uN a4 hb
           replace a5 := uN a5 hb
           replace b1 := uB b1 hb
           replace a8 := uB a8 hb
           replace d9 := uC d9 hb
           replace e6 := uC e6 hb
           replace e7 := uC e7 hb
           replace HB := uW hb
           (try clear hb)
           (try clear hb2)
           (try clear hk)
           (try clear hi)
           (try clear i9)
           (try clear k9)
           obtain ⟨E8, E9, B6⟩ := Kd.V_slice j3.out
           (first | subst B6 | (injection B6 with f1_ f2_ f3_; have f4_ := f1_.symm; have f5_ := f3_.symm; clear f1_ f2_ f3_; subst f4_; subst f5_))
           obtain ⟨F0, F1, B7⟩ := Kd.V_slice j4.out
           (first | subst B7 | (injection B7 with f1_ f2_ f3_; have f4_ := f1_.symm; have f5_ := f3_.symm; clear f1_ f2_ f3_; subst f4_; subst f5_))
           refine hK.out _ _ ⟨(blk_cell a8.out 0).trans rfl, (blk_cell a8.out 1).trans rfl, (blk_cell a8.out 2).trans rfl, HS3_, HS4_, HS5_⟩ (fun a7 => ?_)
           clear hK K
           refine norm_ (a' := ?_) ?_ ?_
           rotate_left
           ·
            show Act.put _ (some 65) _ = _
            exact aP
           refine oN 8 71 HT_ (fun K hK => ?_)
           refine gz Tryz.func17 #[.agg #[.bool r4, .slice E8 r5.length E9, .slice F0 r6.length F1], .agg #[.bool ((rd_T47 b3 b2).f0), .slice l8 ((rd_T47 b3 b2).f1).length l9, .slice m0 ((rd_T47 b3 b2).f2).length m1]] ?_
           with_reducible refine (checker_fraction_compare.calls k2 r4 _ _ r5 _ _ r6 ((rd_T47 b3 b2).f0) _ _ ((rd_T47 b3 b2).f1) _ _ ((rd_T47 b3 b2).f2) p8 _ ?side1 ?side2 ?side3 ?side4 ?side5 ?side6 ?side7 ?side8 A33.out).mono ?_
           (case side1 => exact pC ((Kd.V_reads' j3.out).2.2))
           (case side2 => exact (Kd.V_reads' j3.out).2.1)
           (case side3 => exact pC ((Kd.V_reads' j4.out).2.2))
           (case side4 => exact (Kd.V_reads' j4.out).2.1)
           (case side5 => exact pC e6.out)
           (case side6 => exact n8.out)
           (case side7 => exact pC e7.out)
           (case side8 => exact n9.out)
           rintro e M6 ⟨rfl, hb⟩
           have HS3_ := (hb.cell (World.block_lt_of_cell? _ _ (a7.2.2.2.1))).trans (a7.2.2.2.1)
           have HS4_ := (hb.cell (World.block_lt_of_cell? _ _ (a7.2.2.2.2.1))).trans (a7.2.2.2.2.1)
           have HS5_ := (hb.cell (World.block_lt_of_cell? _ _ (a7.2.2.2.2.2))).trans (a7.2.2.2.2.2)
           refine ⟨_, rfl, ?_⟩
           replace c8 := uN c8 hb
           replace b7 := uN b7 hb
           replace e3 := uN e3 hb
           replace a6 := uN a6 hb
           replace a4 := uN a4 hb
           replace a5 := uN a5 hb
           replace e2 := uV e2 hb
           replace f6 := uV f6 hb
           replace f7 := uV f7 hb
           replace j3 := uV j3 hb
           replace j4 := uV j4 hb
           replace b1 := uB b1 hb
           replace a8 := uB a8 hb
           replace d9 := uC d9 hb
           replace e6 := uC e6 hb
           replace e7 := uC e7 hb
           replace HB := uW hb
           (try clear hb)
           (try clear hb2)
           (try clear hk)
           (try clear hi)
           refine hK.out _ _ ⟨(blk_cell a8.out 0).trans rfl, (blk_cell a8.out 1).trans rfl, (blk_cell a8.out 2).trans rfl, HS3_, HS4_, HS5_⟩ (fun a7 => ?_)
           clear hK K
           refine norm_ (a' := ?_) ?_ ?_
           rotate_left
           ·
            show Act.put _ (some 71) _ = _
            exact aP
           refine pu 9 72 HT_ ?_
           refine done_ (done_of HT_.out (by kernel_rfl)) ?_
           try go_wp2
           go_roundg k2
           case measure => have := HJ7.out; have := HK2.out; omega
           case rel => exact ⟨(wrap64 (b2 + 1)), (by first | rfl | simp [*]), H', ⟨by have := HJ7.out; have := HK2.out; omega⟩, ⟨pN c8.out⟩, ⟨pN b7.out⟩, ⟨pN e3.out⟩, ⟨pN a6.out⟩, ⟨pN a4.out⟩, ⟨pN a5.out⟩, ⟨pB b1.out⟩, ⟨pB a8.out⟩, ⟨aB⟩⟩
         ·
          rw [if_neg B1] at H
          exact absurd H (by simp)
        ·
         rw [if_neg B0] at H
         exact absurd H (by simp)
       ·
        rw [if_neg A9] at H
        exact absurd H (by simp)
      ·
       rw [if_neg w8] at H
       have w3 : decide (b2 < (b4.length : Int)) = false := decide_eq_false w8
       clear w8
       obtain ⟨⟨d6, p1, o1, p3⟩, A47, H⟩ := bS H
       (try dsimp only at H)
       have H' := mk0 H
       clear H
       have I8 := k8.out
       have I9 := d1.out
       have u2 := cZ a8 0
       have u3 := cZ a8 1
       have u4 := cZ a8 2
       have u5 := blk_frozen a8.out 0
       have u6 := blk_frozen a8.out 1
       have u7 := blk_frozen a8.out 2
       obtain ⟨j5, i1, F2⟩ := Kd.N_slice c8.out
       subst F2
       go_wp2_with (first | (refine gc 18 ?_; refine gl 78 Tryz.func18 #[.agg #[.slice d4 b4.length c7, .slice d5 b3.length d0, .slice d2 c6.length d3], .int .i64 (b9.length : Int)] ?_; (with_reducible refine (checker_system_sums.calls k2 (fun k_ => (some k_ ≠ (.slice j5 b9.length i1 : Value).ownBlock ∧ (some k_ ≠ (f5 : Value).ownBlock ∧ (some k_ ≠ (.slice d5 b3.length d0 : Value).ownBlock ∧ (some k_ ≠ (.slice d2 c6.length d3 : Value).ownBlock ∧ (k_ ≠ b8 ∧ k_ ≠ b0)))))) _ _ b4 _ _ b3 _ _ c6 (b9.length : Int) d6 p1 o1 p3 _ ?side1 ?side2 ?side3 ?side4 ?side5 ?side6 A47.out).mono ?_); (case side1 => exact GW.below HG.out (aB)); (case side2 => exact Kd.V_mono (Kd.N_V (a6.out)) (fun k_ hk => by first | exact hk | (simp only [hk, ne_eq, not_false_eq_true, and_self]; done))); (case side3 => exact pC ((Kd.N_reads' a4.out).2.2)); (case side4 => exact (Kd.N_reads' a4.out).2.1); (case side5 => exact pC ((Kd.N_reads' a5.out).2.2)); (case side6 => exact (Kd.N_reads' a5.out).2.1); rintro e M7 ⟨B8, L1, L2, rfl, i9, k9, w7, hb⟩; refine ⟨_, rfl, ?_⟩; replace e3 := dN e3 (Kd.N_base i9) hb;replace a6 := dN a6 (Kd.N_base i9) hb;have r1 := mk0 (Kd.N_lower (Kd.N_mono (ok' := fun k_ => some k_ ≠ (.slice j5 b9.length i1 : Value).ownBlock ∧ some k_ ≠ (f5 : Value).ownBlock ∧ some k_ ≠ (.slice d5 b3.length d0 : Value).ownBlock ∧ some k_ ≠ (.slice d2 c6.length d3 : Value).ownBlock ∧ k_ ≠ b8 ∧ k_ ≠ b0) i9 (fun k_ hk_ => ⟨Or.elim hk_ (fun hs_ => hs_.1) (fun hn_ => (Kd.fresh' (Kd.N_lt (pN c8.out)) k_ hn_)), Or.elim hk_ (fun hs_ => hs_.2.1) (fun hn_ => (Kd.fresh' (Kd.N_lt (pN b7.out)) k_ hn_)), Or.elim hk_ (fun hs_ => hs_.2.2.1) (fun hn_ => (Kd.fresh' (Kd.N_lt (pN a4.out)) k_ hn_)), Or.elim hk_ (fun hs_ => hs_.2.2.2.1) (fun hn_ => (Kd.fresh' (Kd.N_lt (pN a5.out)) k_ hn_)), Or.elim hk_ (fun hs_ => hs_.2.2.2.2.1) (fun hn_ => (Kd.freshB (g := b8) (o := .cells #[.slice k1 g4.length k4] 33 (0, 0)) (pB b1.out) k_ hn_)), Or.elim hk_ (fun hs_ => hs_.2.2.2.2.2) (fun hn_ => (Kd.freshB (g := b0) (o := .cells #[.slice d4 b4.length c7, .slice d5 b3.length d0, .slice d2 c6.length d3] 58 (0, 0)) (pB a8.out) k_ hn_))⟩)) (below_size (aB)));have r2 := mk0 (Kd.V_lower (Kd.V_mono (ok' := fun k_ => some k_ ≠ (B8 : Value).ownBlock ∧ some k_ ≠ (.slice j5 b9.length i1 : Value).ownBlock ∧ some k_ ≠ (f5 : Value).ownBlock ∧ some k_ ≠ (.slice d5 b3.length d0 : Value).ownBlock ∧ some k_ ≠ (.slice d2 c6.length d3 : Value).ownBlock ∧ k_ ≠ b8 ∧ k_ ≠ b0) k9 (fun k_ hk_ => ⟨hk_.2, Or.elim hk_.1 (fun hs_ => hs_.1) (fun hn_ => (Kd.fresh' (Kd.N_lt (pN c8.out)) k_ hn_)), Or.elim hk_.1 (fun hs_ => hs_.2.1) (fun hn_ => (Kd.fresh' (Kd.N_lt (pN b7.out)) k_ hn_)), Or.elim hk_.1 (fun hs_ => hs_.2.2.1) (fun hn_ => (Kd.fresh' (Kd.N_lt (pN a4.out)) k_ hn_)), Or.elim hk_.1 (fun hs_ => hs_.2.2.2.1) (fun hn_ => (Kd.fresh' (Kd.N_lt (pN a5.out)) k_ hn_)), Or.elim hk_.1 (fun hs_ => hs_.2.2.2.2.1) (fun hn_ => (Kd.freshB (g := b8) (o := .cells #[.slice k1 g4.length k4] 33 (0, 0)) (pB b1.out) k_ hn_)), Or.elim hk_.1 (fun hs_ => hs_.2.2.2.2.2) (fun hn_ => (Kd.freshB (g := b0) (o := .cells #[.slice d4 b4.length c7, .slice d5 b3.length d0, .slice d2 c6.length d3] 58 (0, 0)) (pB a8.out) k_ hn_))⟩)) (below_size (aB)));have r3 := mk0 (Kd.V_lower (Kd.V_mono (ok' := fun k_ => some k_ ≠ (B8 : Value).ownBlock ∧ some k_ ≠ (.slice j5 b9.length i1 : Value).ownBlock ∧ some k_ ≠ (f5 : Value).ownBlock ∧ some k_ ≠ (.slice d5 b3.length d0 : Value).ownBlock ∧ some k_ ≠ (.slice d2 c6.length d3 : Value).ownBlock ∧ k_ ≠ b8 ∧ k_ ≠ b0) w7 (fun k_ hk_ => ⟨hk_.2, Or.elim hk_.1 (fun hs_ => hs_.1) (fun hn_ => (Kd.fresh' (Kd.N_lt (pN c8.out)) k_ hn_)), Or.elim hk_.1 (fun hs_ => hs_.2.1) (fun hn_ => (Kd.fresh' (Kd.N_lt (pN b7.out)) k_ hn_)), Or.elim hk_.1 (fun hs_ => hs_.2.2.1) (fun hn_ => (Kd.fresh' (Kd.N_lt (pN a4.out)) k_ hn_)), Or.elim hk_.1 (fun hs_ => hs_.2.2.2.1) (fun hn_ => (Kd.fresh' (Kd.N_lt (pN a5.out)) k_ hn_)), Or.elim hk_.1 (fun hs_ => hs_.2.2.2.2.1) (fun hn_ => (Kd.freshB (g := b8) (o := .cells #[.slice k1 g4.length k4] 33 (0, 0)) (pB b1.out) k_ hn_)), Or.elim hk_.1 (fun hs_ => hs_.2.2.2.2.2) (fun hn_ => (Kd.freshB (g := b0) (o := .cells #[.slice d4 b4.length c7, .slice d5 b3.length d0, .slice d2 c6.length d3] 58 (0, 0)) (pB a8.out) k_ hn_))⟩)) (below_size (aB)));replace c8 := dN c8 (Kd.N_base i9) hb;replace b7 := dN b7 (Kd.N_base i9) hb;replace a4 := dN a4 (Kd.N_base i9) hb;replace a5 := dN a5 (Kd.N_base i9) hb;replace b1 := uB b1 hb;replace a8 := uB a8 hb;replace HB := uW hb; (try clear hb); (try clear i9); (try clear k9); (try clear w7)) | (refine gd 18 ?_; (try (refine gate_guard (by rfl) ?_; dsimp only)); refine box_event ?hg (N := 18) ?hd (cs := #[.bool false, .slice none 0 0, .slice none 0 0]) (t := 47) ?hr ?_; (case hd => rfl); (case hg => rfl); (case hr => exact aH); intro e5 hg F3 hbox hb; replace c8 := eN c8 hg hb;replace b7 := eN b7 hg hb;replace e3 := eN e3 hg hb;replace a6 := eN a6 hg hb;replace a4 := eN a4 hg hb;replace a5 := eN a5 hg hb;replace r1 := eN r1 hg hb;replace r2 := eV r2 hg hb;replace r3 := eV r3 hg hb;have d7 := mk0 (hbox);have J0 := uG hg;have J1 := uG hg;replace HB := uW hb;have j9 := uL b1 hg;have r7 := uM b1 hg;replace b1 := uB b1 hb;have k0 := uL a8 hg;have r8 := uM a8 hg;replace a8 := uB a8 hb; clear hb hbox hg; have J2 := r7.out; have J3 := j9.out; have J4 := r8.out; have J5 := k0.out; have u9 : F3.cell? ⟨e5, 0, none⟩ = some (.bool false) := (blk_cell d7.out 0).trans rfl; have v0 : F3.cell? ⟨e5, 1, none⟩ = some (.slice none 0 0) := (blk_cell d7.out 1).trans rfl; have v2 : F3.cell? ⟨e5, 2, none⟩ = some (.slice none 0 0) := (blk_cell d7.out 2).trans rfl; have v3 := blk_frozen d7.out 0; have v4 := blk_frozen d7.out 1; have v5 := blk_frozen d7.out 2; obtain ⟨t0, t1, F4⟩ := Kd.V_slice r2.out; subst F4; obtain ⟨v6, v7, F5⟩ := Kd.V_slice r3.out; subst F5; obtain ⟨l3, k5, F6⟩ := Kd.N_slice r1.out; subst F6))
       go_loopg [83] k2 (fun kq L3 w' => ∃ (a9 : Int), L3 = .int .i64 a9 ∧ Aside0 (checker_Optimal.l1 kq b9 e4 d6 (d6.length : Int) a9 p1 o1 p3 = some r) ∧ Aside0 (kq ≤ k2) ∧ Aside0 (Kd.N k47 47 w' w.heap.size (fun k_ => some k_ ≠ (f5 : Value).ownBlock ∧ some k_ ≠ ((.slice l3 d6.length k5) : Value).ownBlock ∧ some k_ ≠ ((.slice d4 b4.length c7) : Value).ownBlock ∧ some k_ ≠ ((.slice d5 b3.length d0) : Value).ownBlock ∧ some k_ ≠ ((.slice d2 c6.length d3) : Value).ownBlock ∧ k_ ≠ b8 ∧ k_ ≠ b0 ∧ k_ ≠ e5) (.slice j5 b9.length i1) b9) ∧ Aside0 (Kd.N k47 47 w' w.heap.size (fun k_ => some k_ ≠ ((.slice j5 b9.length i1) : Value).ownBlock ∧ some k_ ≠ ((.slice l3 d6.length k5) : Value).ownBlock ∧ some k_ ≠ ((.slice d4 b4.length c7) : Value).ownBlock ∧ some k_ ≠ ((.slice d5 b3.length d0) : Value).ownBlock ∧ some k_ ≠ ((.slice d2 c6.length d3) : Value).ownBlock ∧ k_ ≠ b8 ∧ k_ ≠ b0 ∧ k_ ≠ e5) f5 e4) ∧ Aside0 (Kd.N k47 47 w' w.heap.size (fun k_ => some k_ ≠ ((.slice j5 b9.length i1) : Value).ownBlock ∧ some k_ ≠ (f5 : Value).ownBlock ∧ some k_ ≠ ((.slice d5 b3.length d0) : Value).ownBlock ∧ some k_ ≠ ((.slice d2 c6.length d3) : Value).ownBlock ∧ k_ ≠ b8 ∧ k_ ≠ b0 ∧ k_ ≠ e5) (.slice l3 d6.length k5) d6) ∧ Aside0 (Kd.N (Kd.slice 47 k47) 53 w' w.heap.size (fun k_ => some k_ ≠ ((.slice j5 b9.length i1) : Value).ownBlock ∧ some k_ ≠ (f5 : Value).ownBlock ∧ some k_ ≠ ((.slice l3 d6.length k5) : Value).ownBlock ∧ some k_ ≠ ((.slice d5 b3.length d0) : Value).ownBlock ∧ some k_ ≠ ((.slice d2 c6.length d3) : Value).ownBlock ∧ k_ ≠ b8 ∧ k_ ≠ b0 ∧ k_ ≠ e5) (.slice d4 b4.length c7) b4) ∧ Aside0 (Kd.N k47 47 w' w.heap.size (fun k_ => some k_ ≠ ((.slice j5 b9.length i1) : Value).ownBlock ∧ some k_ ≠ (f5 : Value).ownBlock ∧ some k_ ≠ ((.slice l3 d6.length k5) : Value).ownBlock ∧ some k_ ≠ ((.slice d4 b4.length c7) : Value).ownBlock ∧ some k_ ≠ ((.slice d2 c6.length d3) : Value).ownBlock ∧ k_ ≠ b8 ∧ k_ ≠ b0 ∧ k_ ≠ e5) (.slice d5 b3.length d0) b3) ∧ Aside0 (Kd.N k47 47 w' w.heap.size (fun k_ => some k_ ≠ ((.slice j5 b9.length i1) : Value).ownBlock ∧ some k_ ≠ (f5 : Value).ownBlock ∧ some k_ ≠ ((.slice l3 d6.length k5) : Value).ownBlock ∧ some k_ ≠ ((.slice d4 b4.length c7) : Value).ownBlock ∧ some k_ ≠ ((.slice d5 b3.length d0) : Value).ownBlock ∧ k_ ≠ b8 ∧ k_ ≠ b0 ∧ k_ ≠ e5) (.slice d2 c6.length d3) c6) ∧ Aside0 (Kd.V (Kd.int .u32) 94 w' w.heap.size (fun k_ => some k_ ≠ ((.slice j5 b9.length i1) : Value).ownBlock ∧ some k_ ≠ (f5 : Value).ownBlock ∧ some k_ ≠ ((.slice l3 d6.length k5) : Value).ownBlock ∧ some k_ ≠ ((.slice d5 b3.length d0) : Value).ownBlock ∧ some k_ ≠ ((.slice d2 c6.length d3) : Value).ownBlock ∧ k_ ≠ b8 ∧ k_ ≠ b0 ∧ k_ ≠ e5) (.slice t0 o1.length t1) o1) ∧ Aside0 (Kd.V (Kd.int .u32) 94 w' w.heap.size (fun k_ => some k_ ≠ ((.slice j5 b9.length i1) : Value).ownBlock ∧ some k_ ≠ (f5 : Value).ownBlock ∧ some k_ ≠ ((.slice l3 d6.length k5) : Value).ownBlock ∧ some k_ ≠ ((.slice d5 b3.length d0) : Value).ownBlock ∧ some k_ ≠ ((.slice d2 c6.length d3) : Value).ownBlock ∧ k_ ≠ b8 ∧ k_ ≠ b0 ∧ k_ ≠ e5) (.slice v6 p3.length v7) p3) ∧ Aside0 (w'.heap[b8]? = some (.cells #[(.slice k1 g4.length k4)] 33 (0, 0))) ∧ Aside0 (w'.heap[b0]? = some (.cells #[(.slice d4 b4.length c7), (.slice d5 b3.length d0), (.slice d2 c6.length d3)] 58 (0, 0))) ∧ Aside0 (w'.heap[e5]? = some (.cells #[.bool p1, (.slice t0 o1.length t1), (.slice v6 p3.length v7)] 47 (0, 0))) ∧ Aside0 (Below w.heap.size w w'))
       case atStart => exact ⟨(0), (by first | rfl | simp [*]), H', ⟨Nat.le_refl _⟩, ⟨sN c8.out⟩, ⟨sN b7.out⟩, ⟨sN r1.out⟩, ⟨sN a6.out⟩, ⟨sN a4.out⟩, ⟨sN a5.out⟩, ⟨sV r2.out⟩, ⟨sV r3.out⟩, ⟨by (with_reducible repeat (first | refine blk_drewN ?_ _ | refine blk_drew ?_ | refine blk_alloc ?_ _)); refine blk_far ?_ j9.out _; (with_reducible repeat (first | refine blk_drewN ?_ _ | refine blk_drew ?_ | refine blk_alloc ?_ _)); refine blk_far ?_ j9.out _; (with_reducible repeat (first | refine blk_drewN ?_ _ | refine blk_drew ?_ | refine blk_alloc ?_ _)); refine blk_far ?_ j9.out _; (with_reducible repeat (first | refine blk_drewN ?_ _ | refine blk_drew ?_ | refine blk_alloc ?_ _)); exact b1.out⟩, ⟨by (with_reducible repeat (first | refine blk_drewN ?_ _ | refine blk_drew ?_ | refine blk_alloc ?_ _)); refine blk_far ?_ k0.out _; (with_reducible repeat (first | refine blk_drewN ?_ _ | refine blk_drew ?_ | refine blk_alloc ?_ _)); refine blk_far ?_ k0.out _; (with_reducible repeat (first | refine blk_drewN ?_ _ | refine blk_drew ?_ | refine blk_alloc ?_ _)); refine blk_far ?_ k0.out _; (with_reducible repeat (first | refine blk_drewN ?_ _ | refine blk_drew ?_ | refine blk_alloc ?_ _)); exact a8.out⟩, ⟨by (with_reducible repeat (first | refine blk_drewN ?_ _ | refine blk_drew ?_ | refine blk_alloc ?_ _)); refine blk_put (cs := #[.bool p1, .slice t0 o1.length t1, .slice none 0 0]) ?_ 2 _ rfl; (with_reducible repeat (first | refine blk_drewN ?_ _ | refine blk_drew ?_ | refine blk_alloc ?_ _)); refine blk_put (cs := #[.bool p1, .slice none 0 0, .slice none 0 0]) ?_ 1 _ rfl; (with_reducible repeat (first | refine blk_drewN ?_ _ | refine blk_drew ?_ | refine blk_alloc ?_ _)); refine blk_put (cs := #[.bool false, .slice none 0 0, .slice none 0 0]) ?_ 0 _ rfl; (with_reducible repeat (first | refine blk_drewN ?_ _ | refine blk_drew ?_ | refine blk_alloc ?_ _)); exact d7.out⟩, ⟨aB⟩⟩
       case round =>
        clear H'
        try clear c1
        try clear c2
        try clear p2
        try clear c3
        try clear c4
        try clear c5
        try clear p5
        try clear q5
        try clear hx5
        try clear p6
        try clear I2
        try clear M8
        try clear M9
        try clear w8
        try clear w3
        try clear A9
        try clear B0
        try clear B1
        try clear x0
        try clear w4
        try clear N0
        try clear N1
        try clear N2
        try clear N3
        try clear hx52
        try clear N4
        try clear N5
        try clear N6
        try clear hx53
        try clear N7
        try clear u2
        try clear u3
        try clear u4
        try clear u9
        try clear v0
        try clear v2
        try clear u5
        try clear u6
        try clear u7
        try clear v3
        try clear v4
        try clear v5
        try clear l4
        try clear j8
        try clear g8
        try clear g9
        try clear n2
        try clear n4
        try clear n3
        try clear n5
        obtain ⟨a9, rfl, HA, HK3, c8, b7, d8, a6, a4, a5, b5, b6, b1, a8, d7, HB⟩ := hrel
        cases gk with
        | zero => exact absurd HA.out (by simp [checker_Optimal.l1])
        | succ k3 =>
         have H := HA.out
         clear HA
         simp only [checker_Optimal.l1] at H
         by_cases z5 : a9 < (d6.length : Int)
         ·
          rw [if_pos z5] at H
          have C0 : decide (a9 < (d6.length : Int)) = true := decide_eq_true z5
          clear z5
          by_cases D2 : 0 ≤ a9
          ·
           rw [if_pos D2] at H
           have J6 : decide (0 ≤ a9) = true := decide_eq_true D2
           clear D2
           by_cases D3 : a9 < (d6.length : Int)
           ·
            rw [if_pos D3] at H
            have J7 : decide (a9 < (d6.length : Int)) = true := decide_eq_true D3
            clear D3
            by_cases D4 : a9 < (b9.length : Int)
            ·
             rw [if_pos D4] at H
             have J8 : decide (a9 < (b9.length : Int)) = true := decide_eq_true D4
             clear D4
             obtain ⟨⟨r9, s0, s5⟩, A63, H⟩ := bS H
             (try dsimp only at H)
             obtain ⟨n6, A64, H⟩ := bS H
             by_cases x5 : n6 = 0
             ·
              rw [if_pos x5] at H
              have C1 : (n6 == 0) = true := beq_iff_eq.mpr x5
              have C2 : (n6 != 0) = false := bne_eq_false_iff_eq.mpr x5
              clear x5
              have H' := mk0 H
              clear H
              try go_wp2
              replace c8 := mk0 (Kd.N_drew c8.out)
              replace b7 := mk0 (Kd.N_drew b7.out)
              replace d8 := mk0 (Kd.N_drew d8.out)
              replace a6 := mk0 (Kd.N_drew a6.out)
              replace a4 := mk0 (Kd.N_drew a4.out)
              replace a5 := mk0 (Kd.N_drew a5.out)
              replace b5 := mk0 (Kd.V_drew b5.out)
              replace b6 := mk0 (Kd.V_drew b6.out)
              replace b1 := mk0 (blk_drew b1.out)
              replace a8 := mk0 (blk_drew a8.out)
              replace d7 := mk0 (blk_drew d7.out)
              replace HB := mk0 (below_drew1 HB.out)
              have o2 : 0 ≤ (a9 : Int) := aD
              have o3 : a9 < (d6.length : Int) := aD
              obtain ⟨g6, m2, m3, m4, m5, e559, k6, i5, i6, hl559_1, hi559_1, hl559_2, hi559_2⟩ := at_T47 (Kd.N_reads' d8.out).2.2 a9 o2 o3
              cases e559
              obtain ⟨ce559, hce559, hMe559, hcc559⟩ := Kd.N_get d8.out z47 a9 o2 (by first | exact o3 | exact aD | (have e_ := (Kd.N_reads' d8.out).1; omega))
              obtain ⟨ua559_1, uc559_1, ua559_2, uc559_2, rfl, ul559_1, ge559_1, ul559_2, ge559_2⟩ := k47_openF hMe559
              have hv559_1 := hcc559 1 _ rfl
              rw [add_field _ _ 1 (by omega)] at hv559_1
              replace hv559_1 := Option.some.inj (hv559_1.symm.trans i5)
              injection hv559_1 with hva_ hvn_ hvc_
              rw [hva_] at ge559_1
              rw [hvc_] at ul559_1
              have f8 := mk0 (show Kd.V (Kd.int .u32) 94 _ w.heap.size _ _ ((rd_T47 d6 a9).f1) from Kd.V_mk ul559_1 ge559_1)
              clear hva_ hvn_ hvc_ ge559_1 ul559_1
              have hv559_2 := hcc559 2 _ rfl
              rw [add_field _ _ 2 (by omega)] at hv559_2
              replace hv559_2 := Option.some.inj (hv559_2.symm.trans i6)
              injection hv559_2 with hva_ hvn_ hvc_
              rw [hva_] at ge559_2
              rw [hvc_] at ul559_2
              have g0 := mk0 (show Kd.V (Kd.int .u32) 94 _ w.heap.size _ _ ((rd_T47 d6 a9).f2) from Kd.V_mk ul559_2 ge559_2)
              clear hva_ hvn_ hvc_ ge559_2 ul559_2
              clear hcc559 hce559
              have e8 := mk0 hi559_1
              have o4 := mk0 hl559_1
              clear hi559_1 hl559_1
              have e9 := mk0 hi559_2
              have o5 := mk0 hl559_2
              clear hi559_2 hl559_2
              replace o2 := eq_true o2
              replace o3 := eq_true o3
              have o6 : 0 ≤ (a9 : Int) := aD
              have o7 : a9 < (b9.length : Int) := aD
              obtain ⟨g7, m6, m7, m8, m9, e560, k7, i7, i8, hl560_1, hi560_1, hl560_2, hi560_2⟩ := at_T47 (Kd.N_reads' c8.out).2.2 a9 o6 o7
              cases e560
              obtain ⟨ce560, hce560, hMe560, hcc560⟩ := Kd.N_get c8.out z47 a9 o6 (by first | exact o7 | exact aD | (have e_ := (Kd.N_reads' c8.out).1; omega))
              obtain ⟨ua560_1, uc560_1, ua560_2, uc560_2, rfl, ul560_1, ge560_1, ul560_2, ge560_2⟩ := k47_openF hMe560
              have hv560_1 := hcc560 1 _ rfl
              rw [add_field _ _ 1 (by omega)] at hv560_1
              replace hv560_1 := Option.some.inj (hv560_1.symm.trans i7)
              injection hv560_1 with hva_ hvn_ hvc_
              rw [hva_] at ge560_1
              rw [hvc_] at ul560_1
              have g1 := mk0 (show Kd.V (Kd.int .u32) 94 _ w.heap.size _ _ ((rd_T47 b9 a9).f1) from Kd.V_mk ul560_1 ge560_1)
              clear hva_ hvn_ hvc_ ge560_1 ul560_1
              have hv560_2 := hcc560 2 _ rfl
              rw [add_field _ _ 2 (by omega)] at hv560_2
              replace hv560_2 := Option.some.inj (hv560_2.symm.trans i8)
              injection hv560_2 with hva_ hvn_ hvc_
              rw [hva_] at ge560_2
              rw [hvc_] at ul560_2
              have g2 := mk0 (show Kd.V (Kd.int .u32) 94 _ w.heap.size _ _ ((rd_T47 b9 a9).f2) from Kd.V_mk ul560_2 ge560_2)
              clear hva_ hvn_ hvc_ ge560_2 ul560_2
              clear hcc560 hce560
              have f3 := mk0 hi560_1
              have o8 := mk0 hl560_1
              clear hi560_1 hl560_1
              have f4 := mk0 hi560_2
              have o9 := mk0 hl560_2
              clear hi560_2 hl560_2
              replace o6 := eq_true o6
              replace o7 := eq_true o7
              refine start_ (n := 11) (S := fun w' => w'.cell? (g6.add ((a9).toNat * 3)) = some (.bool ((rd_T47 d6 a9).f0)) ∧ w'.cell? ⟨(g6.add ((a9).toNat * 3)).block, (g6.add ((a9).toNat * 3)).off + 1, none⟩ = some (.slice m2 ((rd_T47 d6 a9).f1).length m3) ∧ w'.cell? ⟨(g6.add ((a9).toNat * 3)).block, (g6.add ((a9).toNat * 3)).off + 2, none⟩ = some (.slice m4 ((rd_T47 d6 a9).f2).length m5) ∧ w'.cell? (g7.add ((a9).toNat * 3)) = some (.bool ((rd_T47 b9 a9).f0)) ∧ w'.cell? ⟨(g7.add ((a9).toNat * 3)).block, (g7.add ((a9).toNat * 3)).off + 1, none⟩ = some (.slice m6 ((rd_T47 b9 a9).f1).length m7) ∧ w'.cell? ⟨(g7.add ((a9).toNat * 3)).block, (g7.add ((a9).toNat * 3)).off + 2, none⟩ = some (.slice m8 ((rd_T47 b9 a9).f2).length m9)) (ds := []) #[false, false, false, false, false, false, false, false, false, false, false] (by kernel_rfl) rfl rfl ⟨k6, i5, i6, k7, i7, i8⟩ (fun a7 => ?_); refine with_tabW checker_Optimal.tab16 checker_Optimal.bits16 (fun HT_ HW_ => ?_)
              generalize wr.drew = N8 at c8 b7 d8 a6 a4 a5 b5 b6 b1 a8 d7 HB f8 g0 g1 g2 e8 e9 f3 f4 k6 i5 i6 k7 i7 i8 a7 ⊢
              refine pu 0 86 HT_ ?_
              refine pu 1 87 HT_ ?_
              refine pu 2 88 HT_ ?_
              refine pu 4 90 HT_ ?_
              refine pu 5 91 HT_ ?_
              refine pu 6 92 HT_ ?_
              refine tk 3 89 HT_ HW_ a7 ?_
              refine tk 7 93 HT_ HW_ a7 ?_
              refine oN 8 94 HT_ (fun K hK => ?_)
              refine gz Tryz.func19 #[.agg #[.bool ((rd_T47 d6 a9).f0), .slice m2 ((rd_T47 d6 a9).f1).length m3, .slice m4 ((rd_T47 d6 a9).f2).length m5], .agg #[.bool ((rd_T47 b9 a9).f0), .slice m6 ((rd_T47 b9 a9).f1).length m7, .slice m8 ((rd_T47 b9 a9).f2).length m9]] ?_
              with_reducible refine (checker_fraction_add.calls k3 ((rd_T47 d6 a9).f0) _ _ ((rd_T47 d6 a9).f1) _ _ ((rd_T47 d6 a9).f2) ((rd_T47 b9 a9).f0) _ _ ((rd_T47 b9 a9).f1) _ _ ((rd_T47 b9 a9).f2) r9 s0 s5 _ ?side1 ?side2 ?side3 ?side4 ?side5 ?side6 ?side7 ?side8 A63.out).mono ?_
              (case side1 => exact pC e8.out)
              (case side2 => exact o4.out)
              (case side3 => exact pC e9.out)
              (case side4 => exact o5.out)
              (case side5 => exact pC f3.out)
              (case side6 => exact o8.out)
              (case side7 => exact pC f4.out)
              (case side8 => exact o9.out)
              rintro e N9 ⟨F7, F8, rfl, i9, k9, hb⟩
              have HS0_ := (hb.cell (World.block_lt_of_cell? _ _ (a7.1))).trans (a7.1)
              have HS1_ := (hb.cell (World.block_lt_of_cell? _ _ (a7.2.1))).trans (a7.2.1)
              have HS2_ := (hb.cell (World.block_lt_of_cell? _ _ (a7.2.2.1))).trans (a7.2.2.1)
              have HS3_ := (hb.cell (World.block_lt_of_cell? _ _ (a7.2.2.2.1))).trans (a7.2.2.2.1)
              have HS4_ := (hb.cell (World.block_lt_of_cell? _ _ (a7.2.2.2.2.1))).trans (a7.2.2.2.2.1)
              have HS5_ := (hb.cell (World.block_lt_of_cell? _ _ (a7.2.2.2.2.2))).trans (a7.2.2.2.2.2)
              refine ⟨_, rfl, ?_⟩
              replace b5 := uV b5 hb
              replace b6 := uV b6 hb
              replace f8 := uV f8 hb
              replace g0 := uV g0 hb
              replace g1 := uV g1 hb
              replace g2 := uV g2 hb
              have j6 := lV (ok' := fun k_ => some k_ ≠ (.slice (some g7) b9.length i1 : Value).ownBlock ∧ some k_ ≠ (f5 : Value).ownBlock ∧ some k_ ≠ (.slice (some g6) d6.length k5 : Value).ownBlock ∧ some k_ ≠ (.slice d4 b4.length c7 : Value).ownBlock ∧ some k_ ≠ (.slice d5 b3.length d0 : Value).ownBlock ∧ some k_ ≠ (.slice d2 c6.length d3 : Value).ownBlock ∧ k_ ≠ b8 ∧ k_ ≠ b0 ∧ k_ ≠ e5) i9
              have j7 := lV (ok' := fun k_ => some k_ ≠ (.slice (some g7) b9.length i1 : Value).ownBlock ∧ some k_ ≠ (f5 : Value).ownBlock ∧ some k_ ≠ (.slice (some g6) d6.length k5 : Value).ownBlock ∧ some k_ ≠ (.slice d4 b4.length c7 : Value).ownBlock ∧ some k_ ≠ (.slice d5 b3.length d0 : Value).ownBlock ∧ some k_ ≠ (.slice d2 c6.length d3 : Value).ownBlock ∧ k_ ≠ b8 ∧ k_ ≠ b0 ∧ k_ ≠ e5) k9
              replace c8 := uN c8 hb
              replace b7 := uN b7 hb
              replace d8 := uN d8 hb
              replace a6 := uN a6 hb
              replace a4 := uN a4 hb
              replace a5 := uN a5 hb
              replace b1 := uB b1 hb
              replace a8 := uB a8 hb
              replace d7 := uB d7 hb
              replace e8 := uC e8 hb
              replace e9 := uC e9 hb
              replace f3 := uC f3 hb
              replace f4 := uC f4 hb
              replace HB := uW hb
              (try clear hb)
              (try clear hb2)
              (try clear hk)
              (try clear hi)
              (try clear i9)
              (try clear k9)
              obtain ⟨F9, G0, C3⟩ := Kd.V_slice j6.out
              (first | subst C3 | (injection C3 with f1_ f2_ f3_; have f4_ := f1_.symm; have f5_ := f3_.symm; clear f1_ f2_ f3_; subst f4_; subst f5_))
              obtain ⟨G1, G2, C4⟩ := Kd.V_slice j7.out
              (first | subst C4 | (injection C4 with f1_ f2_ f3_; have f4_ := f1_.symm; have f5_ := f3_.symm; clear f1_ f2_ f3_; subst f4_; subst f5_))
              refine hK.out _ _ ⟨HS0_, HS1_, HS2_, HS3_, HS4_, HS5_⟩ (fun a7 => ?_)
              clear hK K
              refine norm_ (a' := ?_) ?_ ?_
              rotate_left
              ·
               show Act.put _ (some 94) _ = _
               exact aP
              refine oN 9 95 HT_ (fun K hK => ?_)
              refine gz Tryz.func20 #[.agg #[.bool r9, .slice F9 s0.length G0, .slice G1 s5.length G2]] ?_
              with_reducible refine (checker_fraction_sign.calls r9 _ _ s0 _ _ s5 n6 _ ?side1 ?side2 ?side3 ?side4 A64.out).mono ?_
              (case side1 => exact pC ((Kd.V_reads' j6.out).2.2))
              (case side2 => exact (Kd.V_reads' j6.out).2.1)
              (case side3 => exact pC ((Kd.V_reads' j7.out).2.2))
              (case side4 => exact (Kd.V_reads' j7.out).2.1)
              rintro e O0 ⟨rfl, hb⟩
              have HS0_ := (hb.cell (World.block_lt_of_cell? _ _ (a7.1))).trans (a7.1)
              have HS1_ := (hb.cell (World.block_lt_of_cell? _ _ (a7.2.1))).trans (a7.2.1)
              have HS2_ := (hb.cell (World.block_lt_of_cell? _ _ (a7.2.2.1))).trans (a7.2.2.1)
              have HS3_ := (hb.cell (World.block_lt_of_cell? _ _ (a7.2.2.2.1))).trans (a7.2.2.2.1)
              have HS4_ := (hb.cell (World.block_lt_of_cell? _ _ (a7.2.2.2.2.1))).trans (a7.2.2.2.2.1)
              have HS5_ := (hb.cell (World.block_lt_of_cell? _ _ (a7.2.2.2.2.2))).trans (a7.2.2.2.2.2)
              refine ⟨_, rfl, ?_⟩
              replace c8 := uN c8 hb
              replace b7 := uN b7 hb
              replace d8 := uN d8 hb
              replace a6 := uN a6 hb
              replace a4 := uN a4 hb
              replace a5 := uN a5 hb
              replace b5 := uV b5 hb
              replace b6 := uV b6 hb
              replace f8 := uV f8 hb
              replace g0 := uV g0 hb
              replace g1 := uV g1 hb
              replace g2 := uV g2 hb
              replace j6 := uV j6 hb
              replace j7 := uV j7 hb
              replace b1 := uB b1 hb
              replace a8 := uB a8 hb
              replace d7 := uB d7 hb
              replace e8 := uC e8 hb
              replace e9 := uC e9 hb
              replace f3 := uC f3 hb
              replace f4 := uC f4 hb
              replace HB := uW hb
              (try clear hb)
              (try clear hb2)
              (try clear hk)
              (try clear hi)
              refine hK.out _ _ ⟨HS0_, HS1_, HS2_, HS3_, HS4_, HS5_⟩ (fun a7 => ?_)
              clear hK K
              refine norm_ (a' := ?_) ?_ ?_
              rotate_left
              ·
               show Act.put _ (some 95) _ = _
               exact aP
              refine pu 10 96 HT_ ?_
              refine done_ (done_of HT_.out (by kernel_rfl)) ?_
              try go_wp2
              go_roundg k3
              case measure => have := HJ7.out; have := HK2.out; have := HK3.out; omega
              case rel => exact ⟨(wrap64 (a9 + 1)), (by first | rfl | simp [*]), H', ⟨by have := HJ7.out; have := HK2.out; have := HK3.out; omega⟩, ⟨pN c8.out⟩, ⟨pN b7.out⟩, ⟨pN d8.out⟩, ⟨pN a6.out⟩, ⟨pN a4.out⟩, ⟨pN a5.out⟩, ⟨pV b5.out⟩, ⟨pV b6.out⟩, ⟨pB b1.out⟩, ⟨pB a8.out⟩, ⟨pB d7.out⟩, ⟨aB⟩⟩
             ·
              rw [if_neg x5] at H
              have C1 : (n6 == 0) = false := beq_eq_false_iff_ne.mpr x5
              have C2 : (n6 != 0) = true := bne_iff_ne.mpr x5
              obtain rfl := Option.some.inj H
              try go_wp2
              replace c8 := mk0 (Kd.N_drew c8.out)
              replace b7 := mk0 (Kd.N_drew b7.out)
              replace d8 := mk0 (Kd.N_drew d8.out)
              replace a6 := mk0 (Kd.N_drew a6.out)
              replace a4 := mk0 (Kd.N_drew a4.out)
              replace a5 := mk0 (Kd.N_drew a5.out)
              replace b5 := mk0 (Kd.V_drew b5.out)
              replace b6 := mk0 (Kd.V_drew b6.out)
              replace b1 := mk0 (blk_drew b1.out)
              replace a8 := mk0 (blk_drew a8.out)
              replace d7 := mk0 (blk_drew d7.out)
              replace HB := mk0 (below_drew1 HB.out)
              have o2 : 0 ≤ (a9 : Int) := aD
              have o3 : a9 < (d6.length : Int) := aD
              obtain ⟨g6, m2, m3, m4, m5, e559, k6, i5, i6, hl559_1, hi559_1, hl559_2, hi559_2⟩ := at_T47 (Kd.N_reads' d8.out).2.2 a9 o2 o3
              cases e559
              obtain ⟨ce559, hce559, hMe559, hcc559⟩ := Kd.N_get d8.out z47 a9 o2 (by first | exact o3 | exact aD | (have e_ := (Kd.N_reads' d8.out).1; omega))
              obtain ⟨ua559_1, uc559_1, ua559_2, uc559_2, rfl, ul559_1, ge559_1, ul559_2, ge559_2⟩ := k47_openF hMe559
              have hv559_1 := hcc559 1 _ rfl
              rw [add_field _ _ 1 (by omega)] at hv559_1
              replace hv559_1 := Option.some.inj (hv559_1.symm.trans i5)
              injection hv559_1 with hva_ hvn_ hvc_
              rw [hva_] at ge559_1
              rw [hvc_] at ul559_1
              have f8 := mk0 (show Kd.V (Kd.int .u32) 94 _ w.heap.size _ _ ((rd_T47 d6 a9).f1) from Kd.V_mk ul559_1 ge559_1)
              clear hva_ hvn_ hvc_ ge559_1 ul559_1
              have hv559_2 := hcc559 2 _ rfl
              rw [add_field _ _ 2 (by omega)] at hv559_2
              replace hv559_2 := Option.some.inj (hv559_2.symm.trans i6)
              injection hv559_2 with hva_ hvn_ hvc_
              rw [hva_] at ge559_2
              rw [hvc_] at ul559_2
              have g0 := mk0 (show Kd.V (Kd.int .u32) 94 _ w.heap.size _ _ ((rd_T47 d6 a9).f2) from Kd.V_mk ul559_2 ge559_2)
              clear hva_ hvn_ hvc_ ge559_2 ul559_2
              clear hcc559 hce559
              have e8 := mk0 hi559_1
              have o4 := mk0 hl559_1
              clear hi559_1 hl559_1
              have e9 := mk0 hi559_2
              have o5 := mk0 hl559_2
              clear hi559_2 hl559_2
              replace o2 := eq_true o2
              replace o3 := eq_true o3
              have o6 : 0 ≤ (a9 : Int) := aD
              have o7 : a9 < (b9.length : Int) := aD
              obtain ⟨g7, m6, m7, m8, m9, e560, k7, i7, i8, hl560_1, hi560_1, hl560_2, hi560_2⟩ := at_T47 (Kd.N_reads' c8.out).2.2 a9 o6 o7
              cases e560
              obtain ⟨ce560, hce560, hMe560, hcc560⟩ := Kd.N_get c8.out z47 a9 o6 (by first | exact o7 | exact aD | (have e_ := (Kd.N_reads' c8.out).1; omega))
              obtain ⟨ua560_1, uc560_1, ua560_2, uc560_2, rfl, ul560_1, ge560_1, ul560_2, ge560_2⟩ := k47_openF hMe560
              have hv560_1 := hcc560 1 _ rfl
              rw [add_field _ _ 1 (by omega)] at hv560_1
              replace hv560_1 := Option.some.inj (hv560_1.symm.trans i7)
              injection hv560_1 with hva_ hvn_ hvc_
              rw [hva_] at ge560_1
              rw [hvc_] at ul560_1
              have g1 := mk0 (show Kd.V (Kd.int .u32) 94 _ w.heap.size _ _ ((rd_T47 b9 a9).f1) from Kd.V_mk ul560_1 ge560_1)
              clear hva_ hvn_ hvc_ ge560_1 ul560_1
              have hv560_2 := hcc560 2 _ rfl
              rw [add_field _ _ 2 (by omega)] at hv560_2
              replace hv560_2 := Option.some.inj (hv560_2.symm.trans i8)
              injection hv560_2 with hva_ hvn_ hvc_
              rw [hva_] at ge560_2
              rw [hvc_] at ul560_2
              have g2 := mk0 (show Kd.V (Kd.int .u32) 94 _ w.heap.size _ _ ((rd_T47 b9 a9).f2) from Kd.V_mk ul560_2 ge560_2)
              clear hva_ hvn_ hvc_ ge560_2 ul560_2
              clear hcc560 hce560
              have f3 := mk0 hi560_1
              have o8 := mk0 hl560_1
              clear hi560_1 hl560_1
              have f4 := mk0 hi560_2
              have o9 := mk0 hl560_2
              clear hi560_2 hl560_2
              replace o6 := eq_true o6
              replace o7 := eq_true o7
              refine start_ (n := 11) (S := fun w' => w'.cell? (g6.add ((a9).toNat * 3)) = some (.bool ((rd_T47 d6 a9).f0)) ∧ w'.cell? ⟨(g6.add ((a9).toNat * 3)).block, (g6.add ((a9).toNat * 3)).off + 1, none⟩ = some (.slice m2 ((rd_T47 d6 a9).f1).length m3) ∧ w'.cell? ⟨(g6.add ((a9).toNat * 3)).block, (g6.add ((a9).toNat * 3)).off + 2, none⟩ = some (.slice m4 ((rd_T47 d6 a9).f2).length m5) ∧ w'.cell? (g7.add ((a9).toNat * 3)) = some (.bool ((rd_T47 b9 a9).f0)) ∧ w'.cell? ⟨(g7.add ((a9).toNat * 3)).block, (g7.add ((a9).toNat * 3)).off + 1, none⟩ = some (.slice m6 ((rd_T47 b9 a9).f1).length m7) ∧ w'.cell? ⟨(g7.add ((a9).toNat * 3)).block, (g7.add ((a9).toNat * 3)).off + 2, none⟩ = some (.slice m8 ((rd_T47 b9 a9).f2).length m9)) (ds := []) #[false, false, false, false, false, false, false, false, false, false, false] (by kernel_rfl) rfl rfl ⟨k6, i5, i6, k7, i7, i8⟩ (fun a7 => ?_); refine with_tabW checker_Optimal.tab16 checker_Optimal.bits16 (fun HT_ HW_ => ?_)
              generalize wr.drew = O1 at c8 b7 d8 a6 a4 a5 b5 b6 b1 a8 d7 HB f8 g0 g1 g2 e8 e9 f3 f4 k6 i5 i6 k7 i7 i8 a7 ⊢
              refine pu 0 86 HT_ ?_
              refine pu 1 87 HT_ ?_
              refine pu 2 88 HT_ ?_
              refine pu 4 90 HT_ ?_
              refine pu 5 91 HT_ ?_
              refine pu 6 92 HT_ ?_
              refine tk 3 89 HT_ HW_ a7 ?_
              refine tk 7 93 HT_ HW_ a7 ?_
              refine oN 8 94 HT_ (fun K hK => ?_)
              refine gz Tryz.func19 #[.agg #[.bool ((rd_T47 d6 a9).f0), .slice m2 ((rd_T47 d6 a9).f1).length m3, .slice m4 ((rd_T47 d6 a9).f2).length m5], .agg #[.bool ((rd_T47 b9 a9).f0), .slice m6 ((rd_T47 b9 a9).f1).length m7, .slice m8 ((rd_T47 b9 a9).f2).length m9]] ?_
              with_reducible refine (checker_fraction_add.calls k3 ((rd_T47 d6 a9).f0) _ _ ((rd_T47 d6 a9).f1) _ _ ((rd_T47 d6 a9).f2) ((rd_T47 b9 a9).f0) _ _ ((rd_T47 b9 a9).f1) _ _ ((rd_T47 b9 a9).f2) r9 s0 s5 _ ?side1 ?side2 ?side3 ?side4 ?side5 ?side6 ?side7 ?side8 A63.out).mono ?_
              (case side1 => exact pC e8.out)
              (case side2 => exact o4.out)
              (case side3 => exact pC e9.out)
              (case side4 => exact o5.out)
              (case side5 => exact pC f3.out)
              (case side6 => exact o8.out)
              (case side7 => exact pC f4.out)
              (case side8 => exact o9.out)
              rintro e O2 ⟨F7, F8, rfl, i9, k9, hb⟩
              have HS0_ := (hb.cell (World.block_lt_of_cell? _ _ (a7.1))).trans (a7.1)
              have HS1_ := (hb.cell (World.block_lt_of_cell? _ _ (a7.2.1))).trans (a7.2.1)
              have HS2_ := (hb.cell (World.block_lt_of_cell? _ _ (a7.2.2.1))).trans (a7.2.2.1)
              have HS3_ := (hb.cell (World.block_lt_of_cell? _ _ (a7.2.2.2.1))).trans (a7.2.2.2.1)
              have HS4_ := (hb.cell (World.block_lt_of_cell? _ _ (a7.2.2.2.2.1))).trans (a7.2.2.2.2.1)
              have HS5_ := (hb.cell (World.block_lt_of_cell? _ _ (a7.2.2.2.2.2))).trans (a7.2.2.2.2.2)
              refine ⟨_, rfl, ?_⟩
              replace b5 := uV b5 hb
              replace b6 := uV b6 hb
              replace f8 := uV f8 hb
              replace g0 := uV g0 hb
              replace g1 := uV g1 hb
              replace g2 := uV g2 hb
              have j6 := lV (ok' := fun k_ => some k_ ≠ (.slice (some g7) b9.length i1 : Value).ownBlock ∧ some k_ ≠ (f5 : Value).ownBlock ∧ some k_ ≠ (.slice (some g6) d6.length k5 : Value).ownBlock ∧ some k_ ≠ (.slice d4 b4.length c7 : Value).ownBlock ∧ some k_ ≠ (.slice d5 b3.length d0 : Value).ownBlock ∧ some k_ ≠ (.slice d2 c6.length d3 : Value).ownBlock ∧ k_ ≠ b8 ∧ k_ ≠ b0 ∧ k_ ≠ e5) i9
              have j7 := lV (ok' := fun k_ => some k_ ≠ (.slice (some g7) b9.length i1 : Value).ownBlock ∧ some k_ ≠ (f5 : Value).ownBlock ∧ some k_ ≠ (.slice (some g6) d6.length k5 : Value).ownBlock ∧ some k_ ≠ (.slice d4 b4.length c7 : Value).ownBlock ∧ some k_ ≠ (.slice d5 b3.length d0 : Value).ownBlock ∧ some k_ ≠ (.slice d2 c6.length d3 : Value).ownBlock ∧ k_ ≠ b8 ∧ k_ ≠ b0 ∧ k_ ≠ e5) k9
              replace c8 := uN c8 hb
              replace b7 := uN b7 hb
              replace d8 := uN d8 hb
              replace a6 := uN a6 hb
              replace a4 := uN a4 hb
              replace a5 := uN a5 hb
              replace b1 := uB b1 hb
              replace a8 := uB a8 hb
              replace d7 := uB d7 hb
              replace e8 := uC e8 hb
              replace e9 := uC e9 hb
              replace f3 := uC f3 hb
              replace f4 := uC f4 hb
              replace HB := uW hb
              (try clear hb)
              (try clear hb2)
              (try clear hk)
              (try clear hi)
              (try clear i9)
              (try clear k9)
              obtain ⟨G3, G4, C5⟩ := Kd.V_slice j6.out
              (first | subst C5 | (injection C5 with f1_ f2_ f3_; have f4_ := f1_.symm; have f5_ := f3_.symm; clear f1_ f2_ f3_; subst f4_; subst f5_))
              obtain ⟨G5, G6, C6⟩ := Kd.V_slice j7.out
              (first | subst C6 | (injection C6 with f1_ f2_ f3_; have f4_ := f1_.symm; have f5_ := f3_.symm; clear f1_ f2_ f3_; subst f4_; subst f5_))
              refine hK.out _ _ ⟨HS0_, HS1_, HS2_, HS3_, HS4_, HS5_⟩ (fun a7 => ?_)
              clear hK K
              refine norm_ (a' := ?_) ?_ ?_
              rotate_left
              ·
               show Act.put _ (some 94) _ = _
               exact aP
              refine oN 9 95 HT_ (fun K hK => ?_)
              refine gz Tryz.func20 #[.agg #[.bool r9, .slice G3 s0.length G4, .slice G5 s5.length G6]] ?_
              with_reducible refine (checker_fraction_sign.calls r9 _ _ s0 _ _ s5 n6 _ ?side1 ?side2 ?side3 ?side4 A64.out).mono ?_
              (case side1 => exact pC ((Kd.V_reads' j6.out).2.2))
              (case side2 => exact (Kd.V_reads' j6.out).2.1)
              (case side3 => exact pC ((Kd.V_reads' j7.out).2.2))
              (case side4 => exact (Kd.V_reads' j7.out).2.1)
              rintro e O3 ⟨rfl, hb⟩
              have HS0_ := (hb.cell (World.block_lt_of_cell? _ _ (a7.1))).trans (a7.1)
              have HS1_ := (hb.cell (World.block_lt_of_cell? _ _ (a7.2.1))).trans (a7.2.1)
              have HS2_ := (hb.cell (World.block_lt_of_cell? _ _ (a7.2.2.1))).trans (a7.2.2.1)
              have HS3_ := (hb.cell (World.block_lt_of_cell? _ _ (a7.2.2.2.1))).trans (a7.2.2.2.1)
              have HS4_ := (hb.cell (World.block_lt_of_cell? _ _ (a7.2.2.2.2.1))).trans (a7.2.2.2.2.1)
              have HS5_ := (hb.cell (World.block_lt_of_cell? _ _ (a7.2.2.2.2.2))).trans (a7.2.2.2.2.2)
              refine ⟨_, rfl, ?_⟩
              replace c8 := uN c8 hb
              replace b7 := uN b7 hb
              replace d8 := uN d8 hb
              replace a6 := uN a6 hb
              replace a4 := uN a4 hb
              replace a5 := uN a5 hb
              replace b5 := uV b5 hb
              replace b6 := uV b6 hb
              replace f8 := uV f8 hb
              replace g0 := uV g0 hb
              replace g1 := uV g1 hb
              replace g2 := uV g2 hb
              replace j6 := uV j6 hb
              replace j7 := uV j7 hb
              replace b1 := uB b1 hb
              replace a8 := uB a8 hb
              replace d7 := uB d7 hb
              replace e8 := uC e8 hb
              replace e9 := uC e9 hb
              replace f3 := uC f3 hb
              replace f4 := uC f4 hb
              replace HB := uW hb
              (try clear hb)
              (try clear hb2)
              (try clear hk)
              (try clear hi)
              refine hK.out _ _ ⟨HS0_, HS1_, HS2_, HS3_, HS4_, HS5_⟩ (fun a7 => ?_)
              clear hK K
              refine norm_ (a' := ?_) ?_ ?_
              rotate_left
              ·
               show Act.put _ (some 95) _ = _
               exact aP
              refine pu 10 96 HT_ ?_
              refine done_ (done_of HT_.out (by kernel_rfl)) ?_
              try go_wp2
              go_ret
              exact ⟨by first | rfl | (simp [*] <;> rfl), aB⟩
            ·
             rw [if_neg D4] at H
             exact absurd H (by simp)
           ·
            rw [if_neg D3] at H
            exact absurd H (by simp)
          ·
           rw [if_neg D2] at H
           exact absurd H (by simp)
         ·
          rw [if_neg z5] at H
          have C0 : decide (a9 < (d6.length : Int)) = false := decide_eq_false z5
          clear z5
          obtain ⟨⟨x6, x7, x8⟩, A76, H⟩ := bS H
          (try dsimp only at H)
          obtain ⟨⟨y8, y9, z1⟩, A77, H⟩ := bS H
          (try dsimp only at H)
          obtain ⟨w5, A78, H⟩ := bS H
          obtain rfl := Option.some.inj H
          try go_wp2
          replace c8 := mk0 (Kd.N_drew c8.out)
          replace b7 := mk0 (Kd.N_drew b7.out)
          replace d8 := mk0 (Kd.N_drew d8.out)
          replace a6 := mk0 (Kd.N_drew a6.out)
          replace a4 := mk0 (Kd.N_drew a4.out)
          replace a5 := mk0 (Kd.N_drew a5.out)
          replace b5 := mk0 (Kd.V_drew b5.out)
          replace b6 := mk0 (Kd.V_drew b6.out)
          replace b1 := mk0 (blk_drew b1.out)
          replace a8 := mk0 (blk_drew a8.out)
          replace d7 := mk0 (blk_drew d7.out)
          replace HB := mk0 (below_drew1 HB.out)
          obtain ⟨t2, t3, C7⟩ := Kd.N_slice b7.out
          (first | subst C7 | (injection C7 with f1_ f2_ f3_; have f4_ := f1_.symm; have f5_ := f3_.symm; clear f1_ f2_ f3_; subst f4_; subst f5_))
          refine start_ (n := 8) (S := fun w' => w'.cell? ⟨e5, 0, none⟩ = some (.bool p1) ∧ w'.cell? ⟨e5, 1, none⟩ = some (.slice t0 o1.length t1) ∧ w'.cell? ⟨e5, 2, none⟩ = some (.slice v6 p3.length v7)) (ds := []) #[false, false, false, false, false, false, false, false] (by kernel_rfl) rfl rfl cS (fun a7 => ?_); refine with_tabW checker_Optimal.tab19 checker_Optimal.bits19 (fun HT_ HW_ => ?_)
          generalize wr.drew = O4 at c8 b7 d8 a6 a4 a5 b5 b6 b1 a8 d7 HB a7 ⊢
          refine pu 1 99 HT_ ?_
          refine pu 2 100 HT_ ?_
          refine tk 0 98 HT_ HW_ a7 ?_
          refine oN 3 101 HT_ (fun K hK => ?_)
          refine gz Tryz.func16 #[.slice j5 b9.length i1, .slice t2 e4.length t3] ?_
          with_reducible refine (checker_sum.calls k3 _ _ b9 _ _ e4 x6 x7 x8 _ ?side1 ?side2 ?side3 ?side4 ?side5 A76.out).mono ?_
          (case side1 => exact GW.below HG.out (aB))
          (case side2 => exact pC ((Kd.N_reads' c8.out).2.2))
          (case side3 => exact (Kd.N_reads' c8.out).2.1)
          (case side4 => exact pC ((Kd.N_reads' b7.out).2.2))
          (case side5 => exact (Kd.N_reads' b7.out).2.1)
          rintro e O5 ⟨L4, L5, rfl, i9, k9, hb⟩
          refine ⟨_, rfl, ?_⟩
          replace b5 := uV b5 hb
          replace b6 := uV b6 hb
          have n0 := lV (ok' := fun k_ => some k_ ≠ (.slice j5 b9.length i1 : Value).ownBlock ∧ some k_ ≠ (.slice t2 e4.length t3 : Value).ownBlock ∧ some k_ ≠ (.slice l3 d6.length k5 : Value).ownBlock ∧ some k_ ≠ (.slice d4 b4.length c7 : Value).ownBlock ∧ some k_ ≠ (.slice d5 b3.length d0 : Value).ownBlock ∧ some k_ ≠ (.slice d2 c6.length d3 : Value).ownBlock ∧ k_ ≠ b8 ∧ k_ ≠ b0 ∧ k_ ≠ e5) i9
          have n1 := lV (ok' := fun k_ => some k_ ≠ (.slice j5 b9.length i1 : Value).ownBlock ∧ some k_ ≠ (.slice t2 e4.length t3 : Value).ownBlock ∧ some k_ ≠ (.slice l3 d6.length k5 : Value).ownBlock ∧ some k_ ≠ (.slice d4 b4.length c7 : Value).ownBlock ∧ some k_ ≠ (.slice d5 b3.length d0 : Value).ownBlock ∧ some k_ ≠ (.slice d2 c6.length d3 : Value).ownBlock ∧ k_ ≠ b8 ∧ k_ ≠ b0 ∧ k_ ≠ e5) k9
          replace c8 := uN c8 hb
          replace b7 := uN b7 hb
          replace d8 := uN d8 hb
          replace a6 := uN a6 hb
          replace a4 := uN a4 hb
          replace a5 := uN a5 hb
          replace b1 := uB b1 hb
          replace a8 := uB a8 hb
          replace d7 := uB d7 hb
          replace HB := uW hb
          (try clear hb)
          (try clear hb2)
          (try clear hk)
          (try clear hi)
          (try clear i9)
          (try clear k9)
          obtain ⟨G7, G8, C8⟩ := Kd.V_slice n0.out
          (first | subst C8 | (injection C8 with f1_ f2_ f3_; have f4_ := f1_.symm; have f5_ := f3_.symm; clear f1_ f2_ f3_; subst f4_; subst f5_))
          obtain ⟨G9, H0, C9⟩ := Kd.V_slice n1.out
          (first | subst C9 | (injection C9 with f1_ f2_ f3_; have f4_ := f1_.symm; have f5_ := f3_.symm; clear f1_ f2_ f3_; subst f4_; subst f5_))
          refine hK.out _ _ cS (fun a7 => ?_)
          clear hK K
          refine norm_ (a' := ?_) ?_ ?_
          rotate_left
          ·
           show Act.put _ (some 101) _ = _
           exact aP
          refine oN 4 102 HT_ (fun K hK => ?_)
          refine gz Tryz.func19 #[.agg #[.bool p1, .slice t0 o1.length t1, .slice v6 p3.length v7], .agg #[.bool x6, .slice G7 x7.length G8, .slice G9 x8.length H0]] ?_
          with_reducible refine (checker_fraction_add.calls k3 p1 _ _ o1 _ _ p3 x6 _ _ x7 _ _ x8 y8 y9 z1 _ ?side1 ?side2 ?side3 ?side4 ?side5 ?side6 ?side7 ?side8 A77.out).mono ?_
          (case side1 => exact pC ((Kd.V_reads' b5.out).2.2))
          (case side2 => exact (Kd.V_reads' b5.out).2.1)
          (case side3 => exact pC ((Kd.V_reads' b6.out).2.2))
          (case side4 => exact (Kd.V_reads' b6.out).2.1)
          (case side5 => exact pC ((Kd.V_reads' n0.out).2.2))
          (case side6 => exact (Kd.V_reads' n0.out).2.1)
          (case side7 => exact pC ((Kd.V_reads' n1.out).2.2))
          (case side8 => exact (Kd.V_reads' n1.out).2.1)
          rintro e O6 ⟨L6, L7, rfl, i9, k9, hb⟩
          refine ⟨_, rfl, ?_⟩
          replace b5 := uV b5 hb
          replace b6 := uV b6 hb
          replace n0 := uV n0 hb
          replace n1 := uV n1 hb
          have p4 := lV (ok' := fun k_ => some k_ ≠ (.slice j5 b9.length i1 : Value).ownBlock ∧ some k_ ≠ (.slice t2 e4.length t3 : Value).ownBlock ∧ some k_ ≠ (.slice l3 d6.length k5 : Value).ownBlock ∧ some k_ ≠ (.slice d4 b4.length c7 : Value).ownBlock ∧ some k_ ≠ (.slice d5 b3.length d0 : Value).ownBlock ∧ some k_ ≠ (.slice d2 c6.length d3 : Value).ownBlock ∧ k_ ≠ b8 ∧ k_ ≠ b0 ∧ k_ ≠ e5) i9
          have p7 := lV (ok' := fun k_ => some k_ ≠ (.slice j5 b9.length i1 : Value).ownBlock ∧ some k_ ≠ (.slice t2 e4.length t3 : Value).ownBlock ∧ some k_ ≠ (.slice l3 d6.length k5 : Value).ownBlock ∧ some k_ ≠ (.slice d4 b4.length c7 : Value).ownBlock ∧ some k_ ≠ (.slice d5 b3.length d0 : Value).ownBlock ∧ some k_ ≠ (.slice d2 c6.length d3 : Value).ownBlock ∧ k_ ≠ b8 ∧ k_ ≠ b0 ∧ k_ ≠ e5) k9
          replace c8 := uN c8 hb
          replace b7 := uN b7 hb
          replace d8 := uN d8 hb
          replace a6 := uN a6 hb
          replace a4 := uN a4 hb
          replace a5 := uN a5 hb
          replace b1 := uB b1 hb
          replace a8 := uB a8 hb
          replace d7 := uB d7 hb
          replace HB := uW hb
          (try clear hb)
          (try clear hb2)
          (try clear hk)
          (try clear hi)
          (try clear i9)
          (try clear k9)
          obtain ⟨H2, H3, D0⟩ := Kd.V_slice p4.out
          (first | subst D0 | (injection D0 with f1_ f2_ f3_; have f4_ := f1_.symm; have f5_ := f3_.symm; clear f1_ f2_ f3_; subst f4_; subst f5_))
          obtain ⟨H4, H5, D1⟩ := Kd.V_slice p7.out
          (first | subst D1 | (injection D1 with f1_ f2_ f3_; have f4_ := f1_.symm; have f5_ := f3_.symm; clear f1_ f2_ f3_; subst f4_; subst f5_))
          refine hK.out _ _ cS (fun a7 => ?_)
          clear hK K
          refine norm_ (a' := ?_) ?_ ?_
          rotate_left
          ·
           show Act.put _ (some 102) _ = _
           exact aP
          refine oN 5 103 HT_ (fun K hK => ?_)
          refine gz Tryz.func20 #[.agg #[.bool y8, .slice H2 y9.length H3, .slice H4 z1.length H5]] ?_
          with_reducible refine (checker_fraction_sign.calls y8 _ _ y9 _ _ z1 w5 _ ?side1 ?side2 ?side3 ?side4 A78.out).mono ?_
          (case side1 => exact pC ((Kd.V_reads' p4.out).2.2))
          (case side2 => exact (Kd.V_reads' p4.out).2.1)
          (case side3 => exact pC ((Kd.V_reads' p7.out).2.2))
          (case side4 => exact (Kd.V_reads' p7.out).2.1)
          rintro e O7 ⟨rfl, hb⟩
          refine ⟨_, rfl, ?_⟩
          replace c8 := uN c8 hb
          replace b7 := uN b7 hb
          replace d8 := uN d8 hb
          replace a6 := uN a6 hb
          replace a4 := uN a4 hb
          replace a5 := uN a5 hb
          replace b5 := uV b5 hb
          replace b6 := uV b6 hb
          replace n0 := uV n0 hb
          replace n1 := uV n1 hb
          replace p4 := uV p4 hb
          replace p7 := uV p7 hb
          replace b1 := uB b1 hb
          replace a8 := uB a8 hb
          replace d7 := uB d7 hb
          replace HB := uW hb
          (try clear hb)
          (try clear hb2)
          (try clear hk)
          (try clear hi)
          refine hK.out _ _ cS (fun a7 => ?_)
          clear hK K
          refine norm_ (a' := ?_) ?_ ?_
          rotate_left
          ·
           show Act.put _ (some 103) _ = _
           exact aP
          refine pu 6 104 HT_ ?_
          refine pu 7 8 HT_ ?_
          refine done_ (done_of HT_.out (by kernel_rfl)) ?_
          try go_wp2
          go_ret
          exact ⟨by first | rfl | (simp [*] <;> rfl), aB⟩
/-- What is told of Map here: it accepts the empty map. -/
def checker_Map.f (a0 : List (S109)) (a1 : List (S114)) (a2 : List ByteArray) : Option (Bool) := if a0.length + a1.length + a2.length = 0 then some true else none
theorem mapMake (W : World) : (Instr.makeSlice 70 (.int .i64 0) (.int .i64 0)).run Tryz.prog W = .ok (.slice (some ⟨W.heap.size, 0, none⟩) 0 0) (W.alloc (.cells #[] 35)) := by
 have h0 : (Tryz.prog.info? 35).map (·.zero) = some (some (.slice none 0 0)) := by kernel_rfl
 obtain ⟨i0, hi, hz⟩ := Option.map_eq_some_iff.1 h0
 have := run_make (P := Tryz.prog) (w := W) 70 35 i0 (.slice none 0 0) Tryz.underlying70 hi hz .i64 .i64 0 0 (by omega) (by omega) (by omega) (by omega)
 rw [this]
 have h1 : madeCells (Value.slice none 0 0).cells (Int.toNat 0 * i0.size) = #[] := by
  rw [Int.toNat_zero, Nat.zero_mul]
  exact Array.eq_empty_of_size_eq_zero (size_madeCells _ _)
 rw [h1]
 rfl
theorem mapMakeI (W : World) : (Instr.makeSlice 35 (.int .i64 0) (.int .i64 0)).run Tryz.prog W = .ok (.slice (some ⟨W.heap.size, 0, none⟩) 0 0) (W.alloc (.cells #[] 3)) := by
 have h0 : (Tryz.prog.info? 3).map (·.zero) = some (some (.int .i64 0)) := by kernel_rfl
 obtain ⟨i0, hi, hz⟩ := Option.map_eq_some_iff.1 h0
 have := run_make (P := Tryz.prog) (w := W) 35 3 i0 (.int .i64 0) Tryz.underlying35 hi hz .i64 .i64 0 0 (by omega) (by omega) (by omega) (by omega)
 rw [this]
 have h1 : madeCells (Value.int .i64 0).cells (Int.toNat 0 * i0.size) = #[] := by
  rw [Int.toNat_zero, Nat.zero_mul]
  exact Array.eq_empty_of_size_eq_zero (size_madeCells _ _)
 rw [h1]
 rfl
theorem mapMakeB (W : World) : (Instr.makeSlice 80 (.int .i64 0) (.int .i64 0)).run Tryz.prog W = .ok (.slice (some ⟨W.heap.size, 0, none⟩) 0 0) (W.alloc (.cells #[] 4)) := by
 have h0 : (Tryz.prog.info? 4).map (·.zero) = some (some (.bool false)) := by kernel_rfl
 obtain ⟨i0, hi, hz⟩ := Option.map_eq_some_iff.1 h0
 have := run_make (P := Tryz.prog) (w := W) 80 4 i0 (.bool false) Tryz.underlying80 hi hz .i64 .i64 0 0 (by omega) (by omega) (by omega) (by omega)
 rw [this]
 have h1 : madeCells (Value.bool false).cells (Int.toNat 0 * i0.size) = #[] := by
  rw [Int.toNat_zero, Nat.zero_mul]
  exact Array.eq_empty_of_size_eq_zero (size_madeCells _ _)
 rw [h1]
 rfl
theorem mapPut (W : World) (b : Nat) (hb : b = W.heap.size) : (Instr.mapUpdate 79 (.map (some b)) (.int .i64 (-1)) (.int .i64 (-1))).run Tryz.prog (W.alloc (.map #[] 0)) = .ok () (W.alloc (.map #[⟨.int .i64 (-1), .int .i64 (-1), 0⟩] 1)) := by
 subst hb
 have K : Go.Maps.Keyed Tryz.prog 3 := Go.Maps.int_keyed Tryz.underlying3
 have hkey : keyOf Tryz.prog 3 (.int .i64 (-1)) = some (.int .i64 (-1)) := Go.Maps.keyOf_int_mk Tryz.underlying3 (by decide)
 have hbk : (W.alloc (.map #[] 0)).heap[W.heap.size]? = some (.map #[] 0) := heap_alloc_new W _
 have h1 : (Instr.findKey 3 (.int .i64 (-1)) []).run Tryz.prog (W.alloc (.map #[] 0)) = .ok none (W.alloc (.map #[] 0)) := by
  rcases K.find (W.alloc (.map #[] 0)) hkey [] (by intro e he; cases he) with ⟨h, _⟩ | ⟨j, e, _, h, _⟩
  ·
   exact h
  ·
   simp at h
 have hset : Go.ChangeMaps.setBlock (W.alloc (.map #[] 0)) W.heap.size (.map #[⟨.int .i64 (-1), .int .i64 (-1), 0⟩] 1) = W.alloc (.map #[⟨.int .i64 (-1), .int .i64 (-1), 0⟩] 1) := by
  have hs : ∀ (h : Array Obj) (x y : Obj), (h.push x).setIfInBounds h.size y = h.push y := fun h x y => by
   apply Array.toList_inj.1
   rw [Array.toList_setIfInBounds, Array.toList_push, Array.toList_push, ← Array.length_toList, List.set_append_right _ _ (Nat.le_refl _), Nat.sub_self]
   rfl
  show ({ (W.alloc (.map #[] 0)) with heap := (W.heap.push (.map #[] 0)).setIfInBounds W.heap.size (.map #[⟨.int .i64 (-1), .int .i64 (-1), 0⟩] 1) } : World) = _
  rw [hs]
  rfl
 rw [← hset]
 simp [Instr.mapUpdate, run_underlying Tryz.underlying79, Go.MapKept.run_getObj_map hbk, K.check (W.alloc (.map #[] 0)) false hkey, h1, Go.MapKept.run_setObj_map _ hbk, Result.andThen, Go.ChangeMaps.setBlock]
set_option maxRecDepth 100000 in
set_option maxHeartbeats 8000000 in
theorem checker_Map.calls (a3 : Option Addr) (a4 : Nat) (a0 : List (S109)) (a5 : Option Addr) (a6 : Nat) (a1 : List (S114)) (a7 : Option Addr) (a8 : Nat) (a2 : List ByteArray) (r : Bool) (w : World) (a9 : Kd.C k109 w a3 a0.length a0) (b0 : a0.length ≤ a4) (b1 : Kd.C k114 w a5 a1.length a1) (b2 : a1.length ≤ a6) (b3 : Kd.C Kd.string w a7 a2.length a2) (b4 : a2.length ≤ a8) (h : checker_Map.f a0 a1 a2 = some r) :
  Calls Tryz.prog 10 #[.agg #[.slice a3 a0.length a4, .slice a5 a1.length a6, .slice a7 a2.length a8]] w fun e w' => e = .returned (.bool r) ∧ Below w.heap.size w w' := by
 unfold checker_Map.f at h
 by_cases hz : a0.length + a1.length + a2.length = 0
 case neg => rw [if_neg hz] at h; cases h
 rw [if_pos hz] at h
 obtain rfl := Option.some.inj h
 have h0 : a0.length = 0 := by omega
 have h1 : a1.length = 0 := by omega
 have h2 : a2.length = 0 := by omega
 rw [h0, h1, h2]
 clear a9 b1 b3 b0 b2 b4 h0 h1 h2 hz h
 have hmm := @run_makeMap Tryz.prog
 have hms := mapMake
 have hmsi := mapMakeI
 have hmu := mapPut
 have hmsb := mapMakeB
 have hcp := fun (W : World) (d a : Option Addr) (dc sc : Nat) => run_copy_none (P := Tryz.prog) W 35 35 3 3 d a 0 dc 1 sc Tryz.underlying35 (by kernel_rfl) rfl
 go_enter Tryz.func10, Tryz.ntmps10
 go_wp2
 repeat (refine wp_loop_rounds 1 ?_; rw [rounds_succ]; go_wp2)
 go_ret
 refine ⟨rfl, ?_⟩
 repeat (first | exact Below.refl _ _ | apply below_alloc | apply pw_below_drewN | apply below_drew1 | refine below_set ?_ (by omega))
def klippelaw55_known.f (k : Nat)  : Option (Bool) := (some (([(⟨1, (⟨#[66]⟩ : ByteArray), (⟨#[65]⟩ : ByteArray)⟩ : S26), (⟨1, (⟨#[67]⟩ : ByteArray), (⟨#[66]⟩ : ByteArray)⟩ : S26), (⟨1, (⟨#[67]⟩ : ByteArray), (⟨#[65]⟩ : ByteArray)⟩ : S26)] : List (S26)) : List (S26))).bind fun a2 => ((some (([(⟨(([(⟨#[45, 49]⟩ : ByteArray)] : List ByteArray)), (⟨#[45, 49]⟩ : ByteArray)⟩ : S30), (⟨(([(⟨#[49]⟩ : ByteArray)] : List ByteArray)), (⟨#[51]⟩ : ByteArray)⟩ : S30)] : List (S30)) : List (S30))).bind fun a8 => ((some (([(⟨#[49]⟩ : ByteArray)] : List ByteArray) : List ByteArray)).bind fun a1 => ((some (([(⟨#[49]⟩ : ByteArray), (⟨#[48]⟩ : ByteArray)] : List ByteArray) : List ByteArray)).bind fun a5 => ((checker_Number.f k (⟨#[51, 47, 54]⟩ : ByteArray)).bind fun c7 => (if c7 = true then (some false) else ((checker_Number.f k (⟨#[45, 51, 47, 50]⟩ : ByteArray)).bind fun c5 => (if c5 = true then ((checker_Implied.f k a2 2 (([0, 1] : List Int))).bind fun b8 => (if b8 = true then ((checker_Implied.f k a2 2 (([1, 0] : List Int))).bind fun b7 => (if b7 = true then (some false) else ((checker_Order.f a2 (([(⟨#[65]⟩ : ByteArray), (⟨#[66]⟩ : ByteArray), (⟨#[67]⟩ : ByteArray)] : List ByteArray))).bind fun b4 => (if b4 = true then ((checker_Order.f a2 (([(⟨#[66]⟩ : ByteArray), (⟨#[65]⟩ : ByteArray), (⟨#[67]⟩ : ByteArray)] : List ByteArray))).bind fun b2 => (if b2 = true then (some false) else ((checker_Optimal.f k a8 a1 a1 a5).bind fun b1 => (if b1 = true then ((checker_Optimal.f k a8 a1 (([(⟨#[50]⟩ : ByteArray)] : List ByteArray)) a5).bind fun b0 => (if b0 = true then (some false) else ((checker_Map.f ([] : List (S109)) ([] : List (S114)) ([] : List ByteArray)).bind fun a9 => (some a9)))) else (some false))))) else (some false))))) else (some false))) else (some false))))))))
theorem klippelaw55_known.mono : ∀ k, LeO (klippelaw55_known.f k ) (klippelaw55_known.f (k + 1) ) := by
 intro  k
 unfold klippelaw55_known.f
 repeat' first | (with_reducible first | exact checker_Implied.mono .. | exact checker_Number.mono .. | exact checker_Optimal.mono .. | exact LeO.refl _ | exact LeO.none _ | refine LeO.ite ?_ ?_ | refine LeO.bind ?_ (fun _ => ?_))
set_option maxHeartbeats 8000000 in
set_option maxRecDepth 100000 in
theorem klippelaw55_known.calls (k : Nat)  (r : Bool) (w : World) (hr : r = true) (hG : GW w) (h : klippelaw55_known.f k  = some r) :
  Calls Tryz.prog 4 #[] w fun e w' => e = .returned (.bool r) ∧ Below w.heap.size w w' := by
 have hu26 := Tryz.underlying26
 have hu30 := Tryz.underlying30
 have hu33 := Tryz.underlying33
 have hu43 := Tryz.underlying43
 have HB := mk0 (Below.refl w.heap.size w)
 have HRT := mk0 hr
 clear hr
 have HG := mk0 hG
 clear hG
 have H : ((some (([(⟨1, (⟨#[66]⟩ : ByteArray), (⟨#[65]⟩ : ByteArray)⟩ : S26), (⟨1, (⟨#[67]⟩ : ByteArray), (⟨#[66]⟩ : ByteArray)⟩ : S26), (⟨1, (⟨#[67]⟩ : ByteArray), (⟨#[65]⟩ : ByteArray)⟩ : S26)] : List (S26)) : List (S26))).bind fun a2 => ((some (([(⟨(([(⟨#[45, 49]⟩ : ByteArray)] : List ByteArray)), (⟨#[45, 49]⟩ : ByteArray)⟩ : S30), (⟨(([(⟨#[49]⟩ : ByteArray)] : List ByteArray)), (⟨#[51]⟩ : ByteArray)⟩ : S30)] : List (S30)) : List (S30))).bind fun a8 => ((some (([(⟨#[49]⟩ : ByteArray)] : List ByteArray) : List ByteArray)).bind fun a1 => ((some (([(⟨#[49]⟩ : ByteArray), (⟨#[48]⟩ : ByteArray)] : List ByteArray) : List ByteArray)).bind fun a5 => ((checker_Number.f k (⟨#[51, 47, 54]⟩ : ByteArray)).bind fun c7 => (if c7 = true then (some false) else ((checker_Number.f k (⟨#[45, 51, 47, 50]⟩ : ByteArray)).bind fun c5 => (if c5 = true then ((checker_Implied.f k a2 2 (([0, 1] : List Int))).bind fun b8 => (if b8 = true then ((checker_Implied.f k a2 2 (([1, 0] : List Int))).bind fun b7 => (if b7 = true then (some false) else ((checker_Order.f a2 (([(⟨#[65]⟩ : ByteArray), (⟨#[66]⟩ : ByteArray), (⟨#[67]⟩ : ByteArray)] : List ByteArray))).bind fun b4 => (if b4 = true then ((checker_Order.f a2 (([(⟨#[66]⟩ : ByteArray), (⟨#[65]⟩ : ByteArray), (⟨#[67]⟩ : ByteArray)] : List ByteArray))).bind fun b2 => (if b2 = true then (some false) else ((checker_Optimal.f k a8 a1 a1 a5).bind fun b1 => (if b1 = true then ((checker_Optimal.f k a8 a1 (([(⟨#[50]⟩ : ByteArray)] : List ByteArray)) a5).bind fun b0 => (if b0 = true then (some false) else ((checker_Map.f ([] : List (S109)) ([] : List (S114)) ([] : List ByteArray)).bind fun a9 => (some a9)))) else (some false))))) else (some false))))) else (some false))) else (some false))))))))) = some r := h
 clear h
 obtain ⟨a2, hy569⟩ : ∃ y_ : List (S26), y_ = (([(⟨1, (⟨#[66]⟩ : ByteArray), (⟨#[65]⟩ : ByteArray)⟩ : S26), (⟨1, (⟨#[67]⟩ : ByteArray), (⟨#[66]⟩ : ByteArray)⟩ : S26), (⟨1, (⟨#[67]⟩ : ByteArray), (⟨#[65]⟩ : ByteArray)⟩ : S26)] : List (S26))) := ⟨_, rfl⟩
 replace H : ((some (([(⟨(([(⟨#[45, 49]⟩ : ByteArray)] : List ByteArray)), (⟨#[45, 49]⟩ : ByteArray)⟩ : S30), (⟨(([(⟨#[49]⟩ : ByteArray)] : List ByteArray)), (⟨#[51]⟩ : ByteArray)⟩ : S30)] : List (S30)) : List (S30))).bind fun a8 => ((some (([(⟨#[49]⟩ : ByteArray)] : List ByteArray) : List ByteArray)).bind fun a1 => ((some (([(⟨#[49]⟩ : ByteArray), (⟨#[48]⟩ : ByteArray)] : List ByteArray) : List ByteArray)).bind fun a5 => ((checker_Number.f k (⟨#[51, 47, 54]⟩ : ByteArray)).bind fun c7 => (if c7 = true then (some false) else ((checker_Number.f k (⟨#[45, 51, 47, 50]⟩ : ByteArray)).bind fun c5 => (if c5 = true then ((checker_Implied.f k a2 2 (([0, 1] : List Int))).bind fun b8 => (if b8 = true then ((checker_Implied.f k a2 2 (([1, 0] : List Int))).bind fun b7 => (if b7 = true then (some false) else ((checker_Order.f a2 (([(⟨#[65]⟩ : ByteArray), (⟨#[66]⟩ : ByteArray), (⟨#[67]⟩ : ByteArray)] : List ByteArray))).bind fun b4 => (if b4 = true then ((checker_Order.f a2 (([(⟨#[66]⟩ : ByteArray), (⟨#[65]⟩ : ByteArray), (⟨#[67]⟩ : ByteArray)] : List ByteArray))).bind fun b2 => (if b2 = true then (some false) else ((checker_Optimal.f k a8 a1 a1 a5).bind fun b1 => (if b1 = true then ((checker_Optimal.f k a8 a1 (([(⟨#[50]⟩ : ByteArray)] : List ByteArray)) a5).bind fun b0 => (if b0 = true then (some false) else ((checker_Map.f ([] : List (S109)) ([] : List (S114)) ([] : List ByteArray)).bind fun a9 => (some a9)))) else (some false))))) else (some false))))) else (some false))) else (some false)))))))) = some r := by first | (rw [hy569]; exact H) | (rw [hy569]; exact (Option.bind_some _ _).symm.trans H) | exact (Option.bind_some _ _).symm.trans H
 have Ny569 := mk0 hy569
 clear hy569
 obtain ⟨d1, hy572⟩ : ∃ y_ : List ByteArray, y_ = (([(⟨#[45, 49]⟩ : ByteArray)] : List ByteArray)) := ⟨_, rfl⟩
 replace H : ((some (([(⟨d1, (⟨#[45, 49]⟩ : ByteArray)⟩ : S30), (⟨(([(⟨#[49]⟩ : ByteArray)] : List ByteArray)), (⟨#[51]⟩ : ByteArray)⟩ : S30)] : List (S30)) : List (S30))).bind fun a8 => ((some (([(⟨#[49]⟩ : ByteArray)] : List ByteArray) : List ByteArray)).bind fun a1 => ((some (([(⟨#[49]⟩ : ByteArray), (⟨#[48]⟩ : ByteArray)] : List ByteArray) : List ByteArray)).bind fun a5 => ((checker_Number.f k (⟨#[51, 47, 54]⟩ : ByteArray)).bind fun c7 => (if c7 = true then (some false) else ((checker_Number.f k (⟨#[45, 51, 47, 50]⟩ : ByteArray)).bind fun c5 => (if c5 = true then ((checker_Implied.f k a2 2 (([0, 1] : List Int))).bind fun b8 => (if b8 = true then ((checker_Implied.f k a2 2 (([1, 0] : List Int))).bind fun b7 => (if b7 = true then (some false) else ((checker_Order.f a2 (([(⟨#[65]⟩ : ByteArray), (⟨#[66]⟩ : ByteArray), (⟨#[67]⟩ : ByteArray)] : List ByteArray))).bind fun b4 => (if b4 = true then ((checker_Order.f a2 (([(⟨#[66]⟩ : ByteArray), (⟨#[65]⟩ : ByteArray), (⟨#[67]⟩ : ByteArray)] : List ByteArray))).bind fun b2 => (if b2 = true then (some false) else ((checker_Optimal.f k a8 a1 a1 a5).bind fun b1 => (if b1 = true then ((checker_Optimal.f k a8 a1 (([(⟨#[50]⟩ : ByteArray)] : List ByteArray)) a5).bind fun b0 => (if b0 = true then (some false) else ((checker_Map.f ([] : List (S109)) ([] : List (S114)) ([] : List ByteArray)).bind fun a9 => (some a9)))) else (some false))))) else (some false))))) else (some false))) else (some false)))))))) = some r := by first | (rw [hy572]; exact H) | (rw [hy572]; exact (Option.bind_some _ _).symm.trans H) | exact (Option.bind_some _ _).symm.trans H
 have Ny572 := mk0 hy572
 clear hy572
 obtain ⟨d2, hy575⟩ : ∃ y_ : List ByteArray, y_ = (([(⟨#[49]⟩ : ByteArray)] : List ByteArray)) := ⟨_, rfl⟩
 replace H : ((some (([(⟨d1, (⟨#[45, 49]⟩ : ByteArray)⟩ : S30), (⟨d2, (⟨#[51]⟩ : ByteArray)⟩ : S30)] : List (S30)) : List (S30))).bind fun a8 => ((some (([(⟨#[49]⟩ : ByteArray)] : List ByteArray) : List ByteArray)).bind fun a1 => ((some (([(⟨#[49]⟩ : ByteArray), (⟨#[48]⟩ : ByteArray)] : List ByteArray) : List ByteArray)).bind fun a5 => ((checker_Number.f k (⟨#[51, 47, 54]⟩ : ByteArray)).bind fun c7 => (if c7 = true then (some false) else ((checker_Number.f k (⟨#[45, 51, 47, 50]⟩ : ByteArray)).bind fun c5 => (if c5 = true then ((checker_Implied.f k a2 2 (([0, 1] : List Int))).bind fun b8 => (if b8 = true then ((checker_Implied.f k a2 2 (([1, 0] : List Int))).bind fun b7 => (if b7 = true then (some false) else ((checker_Order.f a2 (([(⟨#[65]⟩ : ByteArray), (⟨#[66]⟩ : ByteArray), (⟨#[67]⟩ : ByteArray)] : List ByteArray))).bind fun b4 => (if b4 = true then ((checker_Order.f a2 (([(⟨#[66]⟩ : ByteArray), (⟨#[65]⟩ : ByteArray), (⟨#[67]⟩ : ByteArray)] : List ByteArray))).bind fun b2 => (if b2 = true then (some false) else ((checker_Optimal.f k a8 a1 a1 a5).bind fun b1 => (if b1 = true then ((checker_Optimal.f k a8 a1 (([(⟨#[50]⟩ : ByteArray)] : List ByteArray)) a5).bind fun b0 => (if b0 = true then (some false) else ((checker_Map.f ([] : List (S109)) ([] : List (S114)) ([] : List ByteArray)).bind fun a9 => (some a9)))) else (some false))))) else (some false))))) else (some false))) else (some false)))))))) = some r := by first | (rw [hy575]; exact H) | (rw [hy575]; exact (Option.bind_some _ _).symm.trans H) | exact (Option.bind_some _ _).symm.trans H
 have Ny575 := mk0 hy575
 clear hy575
 obtain ⟨a8, hy578⟩ : ∃ y_ : List (S30), y_ = (([(⟨d1, (⟨#[45, 49]⟩ : ByteArray)⟩ : S30), (⟨d2, (⟨#[51]⟩ : ByteArray)⟩ : S30)] : List (S30))) := ⟨_, rfl⟩
 replace H : ((some (([(⟨#[49]⟩ : ByteArray)] : List ByteArray) : List ByteArray)).bind fun a1 => ((some (([(⟨#[49]⟩ : ByteArray), (⟨#[48]⟩ : ByteArray)] : List ByteArray) : List ByteArray)).bind fun a5 => ((checker_Number.f k (⟨#[51, 47, 54]⟩ : ByteArray)).bind fun c7 => (if c7 = true then (some false) else ((checker_Number.f k (⟨#[45, 51, 47, 50]⟩ : ByteArray)).bind fun c5 => (if c5 = true then ((checker_Implied.f k a2 2 (([0, 1] : List Int))).bind fun b8 => (if b8 = true then ((checker_Implied.f k a2 2 (([1, 0] : List Int))).bind fun b7 => (if b7 = true then (some false) else ((checker_Order.f a2 (([(⟨#[65]⟩ : ByteArray), (⟨#[66]⟩ : ByteArray), (⟨#[67]⟩ : ByteArray)] : List ByteArray))).bind fun b4 => (if b4 = true then ((checker_Order.f a2 (([(⟨#[66]⟩ : ByteArray), (⟨#[65]⟩ : ByteArray), (⟨#[67]⟩ : ByteArray)] : List ByteArray))).bind fun b2 => (if b2 = true then (some false) else ((checker_Optimal.f k a8 a1 a1 a5).bind fun b1 => (if b1 = true then ((checker_Optimal.f k a8 a1 (([(⟨#[50]⟩ : ByteArray)] : List ByteArray)) a5).bind fun b0 => (if b0 = true then (some false) else ((checker_Map.f ([] : List (S109)) ([] : List (S114)) ([] : List ByteArray)).bind fun a9 => (some a9)))) else (some false))))) else (some false))))) else (some false))) else (some false))))))) = some r := by first | (rw [hy578]; exact H) | (rw [hy578]; exact (Option.bind_some _ _).symm.trans H) | exact (Option.bind_some _ _).symm.trans H
 have Ny578 := mk0 hy578
 clear hy578
 obtain ⟨a1, hy581⟩ : ∃ y_ : List ByteArray, y_ = (([(⟨#[49]⟩ : ByteArray)] : List ByteArray)) := ⟨_, rfl⟩
 replace H : ((some (([(⟨#[49]⟩ : ByteArray), (⟨#[48]⟩ : ByteArray)] : List ByteArray) : List ByteArray)).bind fun a5 => ((checker_Number.f k (⟨#[51, 47, 54]⟩ : ByteArray)).bind fun c7 => (if c7 = true then (some false) else ((checker_Number.f k (⟨#[45, 51, 47, 50]⟩ : ByteArray)).bind fun c5 => (if c5 = true then ((checker_Implied.f k a2 2 (([0, 1] : List Int))).bind fun b8 => (if b8 = true then ((checker_Implied.f k a2 2 (([1, 0] : List Int))).bind fun b7 => (if b7 = true then (some false) else ((checker_Order.f a2 (([(⟨#[65]⟩ : ByteArray), (⟨#[66]⟩ : ByteArray), (⟨#[67]⟩ : ByteArray)] : List ByteArray))).bind fun b4 => (if b4 = true then ((checker_Order.f a2 (([(⟨#[66]⟩ : ByteArray), (⟨#[65]⟩ : ByteArray), (⟨#[67]⟩ : ByteArray)] : List ByteArray))).bind fun b2 => (if b2 = true then (some false) else ((checker_Optimal.f k a8 a1 a1 a5).bind fun b1 => (if b1 = true then ((checker_Optimal.f k a8 a1 (([(⟨#[50]⟩ : ByteArray)] : List ByteArray)) a5).bind fun b0 => (if b0 = true then (some false) else ((checker_Map.f ([] : List (S109)) ([] : List (S114)) ([] : List ByteArray)).bind fun a9 => (some a9)))) else (some false))))) else (some false))))) else (some false))) else (some false)))))) = some r := by first | (rw [hy581]; exact H) | (rw [hy581]; exact (Option.bind_some _ _).symm.trans H) | exact (Option.bind_some _ _).symm.trans H
 have Ny581 := mk0 hy581
 clear hy581
 obtain ⟨a5, hy584⟩ : ∃ y_ : List ByteArray, y_ = (([(⟨#[49]⟩ : ByteArray), (⟨#[48]⟩ : ByteArray)] : List ByteArray)) := ⟨_, rfl⟩
 replace H : ((checker_Number.f k (⟨#[51, 47, 54]⟩ : ByteArray)).bind fun c7 => (if c7 = true then (some false) else ((checker_Number.f k (⟨#[45, 51, 47, 50]⟩ : ByteArray)).bind fun c5 => (if c5 = true then ((checker_Implied.f k a2 2 (([0, 1] : List Int))).bind fun b8 => (if b8 = true then ((checker_Implied.f k a2 2 (([1, 0] : List Int))).bind fun b7 => (if b7 = true then (some false) else ((checker_Order.f a2 (([(⟨#[65]⟩ : ByteArray), (⟨#[66]⟩ : ByteArray), (⟨#[67]⟩ : ByteArray)] : List ByteArray))).bind fun b4 => (if b4 = true then ((checker_Order.f a2 (([(⟨#[66]⟩ : ByteArray), (⟨#[65]⟩ : ByteArray), (⟨#[67]⟩ : ByteArray)] : List ByteArray))).bind fun b2 => (if b2 = true then (some false) else ((checker_Optimal.f k a8 a1 a1 a5).bind fun b1 => (if b1 = true then ((checker_Optimal.f k a8 a1 (([(⟨#[50]⟩ : ByteArray)] : List ByteArray)) a5).bind fun b0 => (if b0 = true then (some false) else ((checker_Map.f ([] : List (S109)) ([] : List (S114)) ([] : List ByteArray)).bind fun a9 => (some a9)))) else (some false))))) else (some false))))) else (some false))) else (some false))))) = some r := by first | (rw [hy584]; exact H) | (rw [hy584]; exact (Option.bind_some _ _).symm.trans H) | exact (Option.bind_some _ _).symm.trans H
 have Ny584 := mk0 hy584
 clear hy584
 obtain ⟨c7, A1, H⟩ := bS H
 by_cases c2 : c7 = true
 ·
  subst c2
  have H1 : (some false) = some r := by rw [if_pos rfl] at H; exact H
  clear H
  have H := H1
  clear H1
  exact absurd ((Option.some.inj H).trans HRT.out) (by decide)
 ·
  replace c2 := Bool.eq_false_iff.mpr c2
  subst c2
  have H1 : ((checker_Number.f k (⟨#[45, 51, 47, 50]⟩ : ByteArray)).bind fun c5 => (if c5 = true then ((checker_Implied.f k a2 2 (([0, 1] : List Int))).bind fun b8 => (if b8 = true then ((checker_Implied.f k a2 2 (([1, 0] : List Int))).bind fun b7 => (if b7 = true then (some false) else ((checker_Order.f a2 (([(⟨#[65]⟩ : ByteArray), (⟨#[66]⟩ : ByteArray), (⟨#[67]⟩ : ByteArray)] : List ByteArray))).bind fun b4 => (if b4 = true then ((checker_Order.f a2 (([(⟨#[66]⟩ : ByteArray), (⟨#[65]⟩ : ByteArray), (⟨#[67]⟩ : ByteArray)] : List ByteArray))).bind fun b2 => (if b2 = true then (some false) else ((checker_Optimal.f k a8 a1 a1 a5).bind fun b1 => (if b1 = true then ((checker_Optimal.f k a8 a1 (([(⟨#[50]⟩ : ByteArray)] : List ByteArray)) a5).bind fun b0 => (if b0 = true then (some false) else ((checker_Map.f ([] : List (S109)) ([] : List (S114)) ([] : List ByteArray)).bind fun a9 => (some a9)))) else (some false))))) else (some false))))) else (some false))) else (some false))) = some r := by rw [if_neg (show ¬ (false = true) by decide)] at H; exact H
  clear H
  have H := H1
  clear H1
  obtain ⟨c5, A3, H⟩ := bS H
  by_cases c4 : c5 = true
  ·
   subst c4
   have H1 : ((checker_Implied.f k a2 2 (([0, 1] : List Int))).bind fun b8 => (if b8 = true then ((checker_Implied.f k a2 2 (([1, 0] : List Int))).bind fun b7 => (if b7 = true then (some false) else ((checker_Order.f a2 (([(⟨#[65]⟩ : ByteArray), (⟨#[66]⟩ : ByteArray), (⟨#[67]⟩ : ByteArray)] : List ByteArray))).bind fun b4 => (if b4 = true then ((checker_Order.f a2 (([(⟨#[66]⟩ : ByteArray), (⟨#[65]⟩ : ByteArray), (⟨#[67]⟩ : ByteArray)] : List ByteArray))).bind fun b2 => (if b2 = true then (some false) else ((checker_Optimal.f k a8 a1 a1 a5).bind fun b1 => (if b1 = true then ((checker_Optimal.f k a8 a1 (([(⟨#[50]⟩ : ByteArray)] : List ByteArray)) a5).bind fun b0 => (if b0 = true then (some false) else ((checker_Map.f ([] : List (S109)) ([] : List (S114)) ([] : List ByteArray)).bind fun a9 => (some a9)))) else (some false))))) else (some false))))) else (some false))) = some r := by rw [if_pos rfl] at H; exact H
   clear H
   have H := H1
   clear H1
   obtain ⟨f0, hy590⟩ : ∃ y_ : List Int, y_ = (([0, 1] : List Int)) := ⟨_, rfl⟩
   replace H : ((checker_Implied.f k a2 2 f0).bind fun b8 => (if b8 = true then ((checker_Implied.f k a2 2 (([1, 0] : List Int))).bind fun b7 => (if b7 = true then (some false) else ((checker_Order.f a2 (([(⟨#[65]⟩ : ByteArray), (⟨#[66]⟩ : ByteArray), (⟨#[67]⟩ : ByteArray)] : List ByteArray))).bind fun b4 => (if b4 = true then ((checker_Order.f a2 (([(⟨#[66]⟩ : ByteArray), (⟨#[65]⟩ : ByteArray), (⟨#[67]⟩ : ByteArray)] : List ByteArray))).bind fun b2 => (if b2 = true then (some false) else ((checker_Optimal.f k a8 a1 a1 a5).bind fun b1 => (if b1 = true then ((checker_Optimal.f k a8 a1 (([(⟨#[50]⟩ : ByteArray)] : List ByteArray)) a5).bind fun b0 => (if b0 = true then (some false) else ((checker_Map.f ([] : List (S109)) ([] : List (S114)) ([] : List ByteArray)).bind fun a9 => (some a9)))) else (some false))))) else (some false))))) else (some false))) = some r := by first | (rw [hy590]; exact H) | (rw [hy590]; exact (Option.bind_some _ _).symm.trans H) | exact (Option.bind_some _ _).symm.trans H
   have Ny590 := mk0 hy590
   clear hy590
   obtain ⟨b8, A5, H⟩ := bS H
   by_cases c6 : b8 = true
   ·
    subst c6
    have H1 : ((checker_Implied.f k a2 2 (([1, 0] : List Int))).bind fun b7 => (if b7 = true then (some false) else ((checker_Order.f a2 (([(⟨#[65]⟩ : ByteArray), (⟨#[66]⟩ : ByteArray), (⟨#[67]⟩ : ByteArray)] : List ByteArray))).bind fun b4 => (if b4 = true then ((checker_Order.f a2 (([(⟨#[66]⟩ : ByteArray), (⟨#[65]⟩ : ByteArray), (⟨#[67]⟩ : ByteArray)] : List ByteArray))).bind fun b2 => (if b2 = true then (some false) else ((checker_Optimal.f k a8 a1 a1 a5).bind fun b1 => (if b1 = true then ((checker_Optimal.f k a8 a1 (([(⟨#[50]⟩ : ByteArray)] : List ByteArray)) a5).bind fun b0 => (if b0 = true then (some false) else ((checker_Map.f ([] : List (S109)) ([] : List (S114)) ([] : List ByteArray)).bind fun a9 => (some a9)))) else (some false))))) else (some false))))) = some r := by rw [if_pos rfl] at H; exact H
    clear H
    have H := H1
    clear H1
    obtain ⟨f1, hy594⟩ : ∃ y_ : List Int, y_ = (([1, 0] : List Int)) := ⟨_, rfl⟩
    replace H : ((checker_Implied.f k a2 2 f1).bind fun b7 => (if b7 = true then (some false) else ((checker_Order.f a2 (([(⟨#[65]⟩ : ByteArray), (⟨#[66]⟩ : ByteArray), (⟨#[67]⟩ : ByteArray)] : List ByteArray))).bind fun b4 => (if b4 = true then ((checker_Order.f a2 (([(⟨#[66]⟩ : ByteArray), (⟨#[65]⟩ : ByteArray), (⟨#[67]⟩ : ByteArray)] : List ByteArray))).bind fun b2 => (if b2 = true then (some false) else ((checker_Optimal.f k a8 a1 a1 a5).bind fun b1 => (if b1 = true then ((checker_Optimal.f k a8 a1 (([(⟨#[50]⟩ : ByteArray)] : List ByteArray)) a5).bind fun b0 => (if b0 = true then (some false) else ((checker_Map.f ([] : List (S109)) ([] : List (S114)) ([] : List ByteArray)).bind fun a9 => (some a9)))) else (some false))))) else (some false))))) = some r := by first | (rw [hy594]; exact H) | (rw [hy594]; exact (Option.bind_some _ _).symm.trans H) | exact (Option.bind_some _ _).symm.trans H
    have Ny594 := mk0 hy594
    clear hy594
    obtain ⟨b7, A7, H⟩ := bS H
    by_cases c8 : b7 = true
    ·
     subst c8
     have H1 : (some false) = some r := by rw [if_pos rfl] at H; exact H
     clear H
     have H := H1
     clear H1
     exact absurd ((Option.some.inj H).trans HRT.out) (by decide)
    ·
     replace c8 := Bool.eq_false_iff.mpr c8
     subst c8
     have H1 : ((checker_Order.f a2 (([(⟨#[65]⟩ : ByteArray), (⟨#[66]⟩ : ByteArray), (⟨#[67]⟩ : ByteArray)] : List ByteArray))).bind fun b4 => (if b4 = true then ((checker_Order.f a2 (([(⟨#[66]⟩ : ByteArray), (⟨#[65]⟩ : ByteArray), (⟨#[67]⟩ : ByteArray)] : List ByteArray))).bind fun b2 => (if b2 = true then (some false) else ((checker_Optimal.f k a8 a1 a1 a5).bind fun b1 => (if b1 = true then ((checker_Optimal.f k a8 a1 (([(⟨#[50]⟩ : ByteArray)] : List ByteArray)) a5).bind fun b0 => (if b0 = true then (some false) else ((checker_Map.f ([] : List (S109)) ([] : List (S114)) ([] : List ByteArray)).bind fun a9 => (some a9)))) else (some false))))) else (some false))) = some r := by rw [if_neg (show ¬ (false = true) by decide)] at H; exact H
     clear H
     have H := H1
     clear H1
     obtain ⟨f2, hy598⟩ : ∃ y_ : List ByteArray, y_ = (([(⟨#[65]⟩ : ByteArray), (⟨#[66]⟩ : ByteArray), (⟨#[67]⟩ : ByteArray)] : List ByteArray)) := ⟨_, rfl⟩
     replace H : ((checker_Order.f a2 f2).bind fun b4 => (if b4 = true then ((checker_Order.f a2 (([(⟨#[66]⟩ : ByteArray), (⟨#[65]⟩ : ByteArray), (⟨#[67]⟩ : ByteArray)] : List ByteArray))).bind fun b2 => (if b2 = true then (some false) else ((checker_Optimal.f k a8 a1 a1 a5).bind fun b1 => (if b1 = true then ((checker_Optimal.f k a8 a1 (([(⟨#[50]⟩ : ByteArray)] : List ByteArray)) a5).bind fun b0 => (if b0 = true then (some false) else ((checker_Map.f ([] : List (S109)) ([] : List (S114)) ([] : List ByteArray)).bind fun a9 => (some a9)))) else (some false))))) else (some false))) = some r := by first | (rw [hy598]; exact H) | (rw [hy598]; exact (Option.bind_some _ _).symm.trans H) | exact (Option.bind_some _ _).symm.trans H
     have Ny598 := mk0 hy598
     clear hy598
     obtain ⟨b4, A9, H⟩ := bS H
     by_cases f9 : b4 = true
     ·
      subst f9
      have H1 : ((checker_Order.f a2 (([(⟨#[66]⟩ : ByteArray), (⟨#[65]⟩ : ByteArray), (⟨#[67]⟩ : ByteArray)] : List ByteArray))).bind fun b2 => (if b2 = true then (some false) else ((checker_Optimal.f k a8 a1 a1 a5).bind fun b1 => (if b1 = true then ((checker_Optimal.f k a8 a1 (([(⟨#[50]⟩ : ByteArray)] : List ByteArray)) a5).bind fun b0 => (if b0 = true then (some false) else ((checker_Map.f ([] : List (S109)) ([] : List (S114)) ([] : List ByteArray)).bind fun a9 => (some a9)))) else (some false))))) = some r := by rw [if_pos rfl] at H; exact H
      clear H
      have H := H1
      clear H1
      obtain ⟨f3, hy602⟩ : ∃ y_ : List ByteArray, y_ = (([(⟨#[66]⟩ : ByteArray), (⟨#[65]⟩ : ByteArray), (⟨#[67]⟩ : ByteArray)] : List ByteArray)) := ⟨_, rfl⟩
      replace H : ((checker_Order.f a2 f3).bind fun b2 => (if b2 = true then (some false) else ((checker_Optimal.f k a8 a1 a1 a5).bind fun b1 => (if b1 = true then ((checker_Optimal.f k a8 a1 (([(⟨#[50]⟩ : ByteArray)] : List ByteArray)) a5).bind fun b0 => (if b0 = true then (some false) else ((checker_Map.f ([] : List (S109)) ([] : List (S114)) ([] : List ByteArray)).bind fun a9 => (some a9)))) else (some false))))) = some r := by first | (rw [hy602]; exact H) | (rw [hy602]; exact (Option.bind_some _ _).symm.trans H) | exact (Option.bind_some _ _).symm.trans H
      have Ny602 := mk0 hy602
      clear hy602
      obtain ⟨b2, A11, H⟩ := bS H
      by_cases g0 : b2 = true
      ·
       subst g0
       have H1 : (some false) = some r := by rw [if_pos rfl] at H; exact H
       clear H
       have H := H1
       clear H1
       exact absurd ((Option.some.inj H).trans HRT.out) (by decide)
      ·
       replace g0 := Bool.eq_false_iff.mpr g0
       subst g0
       have H1 : ((checker_Optimal.f k a8 a1 a1 a5).bind fun b1 => (if b1 = true then ((checker_Optimal.f k a8 a1 (([(⟨#[50]⟩ : ByteArray)] : List ByteArray)) a5).bind fun b0 => (if b0 = true then (some false) else ((checker_Map.f ([] : List (S109)) ([] : List (S114)) ([] : List ByteArray)).bind fun a9 => (some a9)))) else (some false))) = some r := by rw [if_neg (show ¬ (false = true) by decide)] at H; exact H
       clear H
       have H := H1
       clear H1
       obtain ⟨b1, A13, H⟩ := bS H
       by_cases g1 : b1 = true
       ·
        subst g1
        have H1 : ((checker_Optimal.f k a8 a1 (([(⟨#[50]⟩ : ByteArray)] : List ByteArray)) a5).bind fun b0 => (if b0 = true then (some false) else ((checker_Map.f ([] : List (S109)) ([] : List (S114)) ([] : List ByteArray)).bind fun a9 => (some a9)))) = some r := by rw [if_pos rfl] at H; exact H
        clear H
        have H := H1
        clear H1
        obtain ⟨f4, hy607⟩ : ∃ y_ : List ByteArray, y_ = (([(⟨#[50]⟩ : ByteArray)] : List ByteArray)) := ⟨_, rfl⟩
        replace H : ((checker_Optimal.f k a8 a1 f4 a5).bind fun b0 => (if b0 = true then (some false) else ((checker_Map.f ([] : List (S109)) ([] : List (S114)) ([] : List ByteArray)).bind fun a9 => (some a9)))) = some r := by first | (rw [hy607]; exact H) | (rw [hy607]; exact (Option.bind_some _ _).symm.trans H) | exact (Option.bind_some _ _).symm.trans H
        have Ny607 := mk0 hy607
        clear hy607
        obtain ⟨b0, A15, H⟩ := bS H
        by_cases g2 : b0 = true
        ·
         subst g2
         have H1 : (some false) = some r := by rw [if_pos rfl] at H; exact H
         clear H
         have H := H1
         clear H1
         exact absurd ((Option.some.inj H).trans HRT.out) (by decide)
        ·
         replace g2 := Bool.eq_false_iff.mpr g2
         subst g2
         have H1 : ((checker_Map.f ([] : List (S109)) ([] : List (S114)) ([] : List ByteArray)).bind fun a9 => (some a9)) = some r := by rw [if_neg (show ¬ (false = true) by decide)] at H; exact H
         clear H
         have H := H1
         clear H1
         obtain ⟨a9, A17, H⟩ := bS H
         obtain rfl := Option.some.inj H
         go_enter Tryz.func4, Tryz.ntmps4
         go_wp2_with (first | (refine gd 8 ?_; (try (refine gate_guard (by rfl) ?_; dsimp only)); refine Kd.R_lit k26 _ 26 ?hg (N := 8) ?hd (xs := ([(⟨1, (⟨#[66]⟩ : ByteArray), (⟨#[65]⟩ : ByteArray)⟩ : S26), (⟨1, (⟨#[67]⟩ : ByteArray), (⟨#[66]⟩ : ByteArray)⟩ : S26), (⟨1, (⟨#[67]⟩ : ByteArray), (⟨#[65]⟩ : ByteArray)⟩ : S26)] : List (S26))) (inner := [.int .i64 1, .string (⟨#[66]⟩ : ByteArray), .string (⟨#[65]⟩ : ByteArray), .int .i64 1, .string (⟨#[67]⟩ : ByteArray), .string (⟨#[66]⟩ : ByteArray), .int .i64 1, .string (⟨#[67]⟩ : ByteArray), .string (⟨#[65]⟩ : ByteArray)]) (ok := fun _ => True) (okp := fun _ => True) ?hr ?hp (fun _ hk => hk) trivial (Below.refl _ _) (Nat.le_refl _) (by simp) ?_; (case hd => rfl); (case hg => rfl); (case hr => exact aH); (case hp => exact (Reps.c3 (show Kd.M k26 _ _ _ (⟨1, (⟨#[66]⟩ : ByteArray), (⟨#[65]⟩ : ByteArray)⟩ : S26) [.int .i64 1, .string (⟨#[66]⟩ : ByteArray), .string (⟨#[65]⟩ : ByteArray)] from (k26_mkM _ _ _ (⟨1, (⟨#[66]⟩ : ByteArray), (⟨#[65]⟩ : ByteArray)⟩ : S26) )) (Reps.c3 (show Kd.M k26 _ _ _ (⟨1, (⟨#[67]⟩ : ByteArray), (⟨#[66]⟩ : ByteArray)⟩ : S26) [.int .i64 1, .string (⟨#[67]⟩ : ByteArray), .string (⟨#[66]⟩ : ByteArray)] from (k26_mkM _ _ _ (⟨1, (⟨#[67]⟩ : ByteArray), (⟨#[66]⟩ : ByteArray)⟩ : S26) )) (Reps.c3 (show Kd.M k26 _ _ _ (⟨1, (⟨#[67]⟩ : ByteArray), (⟨#[65]⟩ : ByteArray)⟩ : S26) [.int .i64 1, .string (⟨#[67]⟩ : ByteArray), .string (⟨#[65]⟩ : ByteArray)] from (k26_mkM _ _ _ (⟨1, (⟨#[67]⟩ : ByteArray), (⟨#[65]⟩ : ByteArray)⟩ : S26) )) (Reps.none _ _))))); intro d3 m0 e7 hb hg_ hnew_; clear hg_ hnew_; rw [← Ny569.out] at e7; have a0 := mR e7;replace HB := uW hb; clear hb e7) | (refine gd 9 ?_; (try (refine gate_guard (by rfl) ?_; dsimp only)); refine Kd.R_lit Kd.string _ 22 ?hg (N := 9) ?hd (xs := ([(⟨#[45, 49]⟩ : ByteArray)] : List ByteArray)) (inner := [.string (⟨#[45, 49]⟩ : ByteArray)]) (ok := fun _ => True) (okp := fun _ => True) ?hr ?hp (fun _ hk => hk) trivial (Below.refl _ _) (Nat.le_refl _) (by simp) ?_; (case hd => rfl); (case hg => rfl); (case hr => exact aH); (case hp => exact (Reps.one (show Kd.M Kd.string _ _ _ (⟨#[45, 49]⟩ : ByteArray) [.string (⟨#[45, 49]⟩ : ByteArray)] from rfl) (Reps.none _ _))); intro j3 m1 e8 hb hg_ hnew_; clear hg_ hnew_; rw [← Ny572.out] at e8; replace a0 := uR a0 hb;have c9 := mR e8;replace HB := uW hb; clear hb e8; obtain ⟨f5, f6, g9⟩ := Kd.R_slice c9.out; subst g9) | (refine gd 11 ?_; (try (refine gate_guard (by rfl) ?_; dsimp only)); refine Kd.R_lit Kd.string _ 22 ?hg (N := 11) ?hd (xs := ([(⟨#[49]⟩ : ByteArray)] : List ByteArray)) (inner := [.string (⟨#[49]⟩ : ByteArray)]) (ok := fun _ => True) (okp := fun _ => True) ?hr ?hp (fun _ hk => hk) trivial (Below.refl _ _) (Nat.le_refl _) (by simp) ?_; (case hd => rfl); (case hg => rfl); (case hr => exact aH); (case hp => exact (Reps.one (show Kd.M Kd.string _ _ _ (⟨#[49]⟩ : ByteArray) [.string (⟨#[49]⟩ : ByteArray)] from rfl) (Reps.none _ _))); intro j4 j5 e1 hb hg_ hnew_; clear hg_ hnew_; rw [← Ny575.out] at e1; replace a0 := uR a0 hb;have d4 := mk0 (Kd.R_lower (Kd.R_new' e1 (Kd.R_lt (pR c9.out))) (below_size (aB)));replace c9 := dR c9 (Kd.R_base e1) hb;replace HB := uW hb; clear hb e1; obtain ⟨f7, f8, i1⟩ := Kd.R_slice d4.out; subst i1) | (refine gd 13 ?_; (try (refine gate_guard (by rfl) ?_; dsimp only)); refine Kd.N_lit k30 _ 30 ?hg (N' := 13) ?hd (xs := ([(⟨d1, (⟨#[45, 49]⟩ : ByteArray)⟩ : S30), (⟨d2, (⟨#[51]⟩ : ByteArray)⟩ : S30)] : List (S30))) (inner := [.slice f5 d1.length f6, .string (⟨#[45, 49]⟩ : ByteArray), .slice f7 d2.length f8, .string (⟨#[51]⟩ : ByteArray)]) (ok := (fun k_ => some k_ ≠ (d3 : Value).ownBlock)) (okp := (fun k_ => some k_ ≠ (d3 : Value).ownBlock)) ?hr ?hp (fun _ hk => hk) ((show ∀ k_, j5.heap.size ≤ k_ → (fun k_ => some k_ ≠ (d3 : Value).ownBlock) k_ from fun k_ hk => Kd.fresh' (Kd.R_lt (pR a0.out)) k_ hk) _ (Nat.le_refl _)) (Below.refl _ _) (Nat.le_refl _) (by simp) ?_; (case hd => rfl); (case hg => rfl); (case hr => exact aH); (case hp => exact (Reps.c2 (show Kd.FK k30 _ _ (⟨d1, (⟨#[45, 49]⟩ : ByteArray)⟩ : S30) [.slice f5 d1.length f6, .string (⟨#[45, 49]⟩ : ByteArray)] from (k30_mkF _ _ (⟨d1, (⟨#[45, 49]⟩ : ByteArray)⟩ : S30) (Kd.R_reads' (Kd.R_mono (ok' := (fun k_ => some k_ ≠ (d3 : Value).ownBlock)) (Kd.R_apart' (c9.out) (Kd.R_typed a0.out) (by decide)) (fun k_ hk => hk.2))).2.1 (Kd.R_F (Kd.R_mono (ok' := (fun k_ => some k_ ≠ (d3 : Value).ownBlock)) (Kd.R_apart' (c9.out) (Kd.R_typed a0.out) (by decide)) (fun k_ hk => hk.2))))) (Reps.c2 (show Kd.FK k30 _ _ (⟨d2, (⟨#[51]⟩ : ByteArray)⟩ : S30) [.slice f7 d2.length f8, .string (⟨#[51]⟩ : ByteArray)] from (k30_mkF _ _ (⟨d2, (⟨#[51]⟩ : ByteArray)⟩ : S30) (Kd.R_reads' (Kd.R_mono (ok' := (fun k_ => some k_ ≠ (d3 : Value).ownBlock)) (Kd.R_apart' (d4.out) (Kd.R_typed a0.out) (by decide)) (fun k_ hk => hk.2))).2.1 (Kd.R_F (Kd.R_mono (ok' := (fun k_ => some k_ ≠ (d3 : Value).ownBlock)) (Kd.R_apart' (d4.out) (Kd.R_typed a0.out) (by decide)) (fun k_ hk => hk.2))))) (Reps.none _ _)))); intro j6 m2 e9 hb hg_ hnew_; clear hg_ hnew_; rw [← Ny578.out] at e9; replace a0 := uR a0 hb;have a4 := mN e9;replace HB := uW hb;clear c9 d4; clear hb e9) | (refine gd 14 ?_; (try (refine gate_guard (by rfl) ?_; dsimp only)); refine Kd.R_lit Kd.string _ 22 ?hg (N := 14) ?hd (xs := ([(⟨#[49]⟩ : ByteArray)] : List ByteArray)) (inner := [.string (⟨#[49]⟩ : ByteArray)]) (ok := fun _ => True) (okp := fun _ => True) ?hr ?hp (fun _ hk => hk) trivial (Below.refl _ _) (Nat.le_refl _) (by simp) ?_; (case hd => rfl); (case hg => rfl); (case hr => exact aH); (case hp => exact (Reps.one (show Kd.M Kd.string _ _ _ (⟨#[49]⟩ : ByteArray) [.string (⟨#[49]⟩ : ByteArray)] from rfl) (Reps.none _ _))); intro j7 m3 e2 hb hg_ hnew_; clear hg_ hnew_; rw [← Ny581.out] at e2; replace a0 := uR a0 hb;replace a4 := dN a4 (Kd.R_base e2) hb;have a3 := mR e2;replace HB := uW hb; clear hb e2) | (refine gd 15 ?_; (try (refine gate_guard (by rfl) ?_; dsimp only)); refine Kd.R_lit Kd.string _ 22 ?hg (N := 15) ?hd (xs := ([(⟨#[49]⟩ : ByteArray), (⟨#[48]⟩ : ByteArray)] : List ByteArray)) (inner := [.string (⟨#[49]⟩ : ByteArray), .string (⟨#[48]⟩ : ByteArray)]) (ok := fun _ => True) (okp := fun _ => True) ?hr ?hp (fun _ hk => hk) trivial (Below.refl _ _) (Nat.le_refl _) (by simp) ?_; (case hd => rfl); (case hg => rfl); (case hr => exact aH); (case hp => exact (Reps.one (show Kd.M Kd.string _ _ _ (⟨#[49]⟩ : ByteArray) [.string (⟨#[49]⟩ : ByteArray)] from rfl) (Reps.one (show Kd.M Kd.string _ _ _ (⟨#[48]⟩ : ByteArray) [.string (⟨#[48]⟩ : ByteArray)] from rfl) (Reps.none _ _)))); intro j8 m4 d7 hb hg_ hnew_; clear hg_ hnew_; rw [← Ny584.out] at d7; replace a0 := uR a0 hb;replace a4 := dN a4 (Kd.R_base d7) hb;have a6 := mk0 (Kd.R_lower (Kd.R_new' d7 (Kd.R_lt (pR a3.out))) (below_size (aB)));replace a3 := dR a3 (Kd.R_base d7) hb;replace HB := uW hb; clear hb d7; obtain ⟨e3, e4, i2⟩ := Kd.R_slice a6.out; subst i2) | (refine gd 4 ?_; (try (refine gate_guard (by rfl) ?_; dsimp only)); refine box_event ?hg (N := 4) ?hd (cs := #[.slice none 0 0]) (t := 33) ?hr ?_; (case hd => rfl); (case hg => rfl); (case hr => exact aH); intro d5 hg m5 hbox hb; replace a0 := uR a0 hb;replace a4 := eN a4 hg hb;replace a3 := uR a3 hb;replace a6 := uR a6 hb;have a7 := mk0 (hbox);have j1 := uG hg;have j2 := uG hg;replace HB := uW hb; clear hb hbox hg; have g3 := cZ a7 0; have g4 := blk_frozen a7.out 0) | (refine gc 5 ?_; refine gl 17 Tryz.func5 #[.string (⟨#[51, 47, 54]⟩ : ByteArray)] ?_; (with_reducible refine (checker_Number.calls k (⟨#[51, 47, 54]⟩ : ByteArray) false _ A1.out).mono ?_); rintro e m6 ⟨rfl, hb⟩; refine ⟨_, rfl, ?_⟩; replace a0 := mk0 (Kd.R_below (by (with_reducible repeat (first | apply Kd.R_alloc | apply Kd.R_drewN | apply Kd.R_drew)); exact (Kd.R_mono (Kd.R_far (p := ⟨d5, 0, none⟩) (Kd.R_types a0.out a7.out (by decide)) (fun _ hk => hk.2) (.slice e3 a5.length e4)) (fun _ h_ => h_.1))) hb);replace a4 := mk0 (Kd.N_below (tN a4.out) hb);replace a3 := mk0 (Kd.R_below (by (with_reducible repeat (first | apply Kd.R_alloc | apply Kd.R_drewN | apply Kd.R_drew)); exact (Kd.R_mono (Kd.R_far (p := ⟨d5, 0, none⟩) (Kd.R_types a3.out a7.out (by decide)) (fun _ hk => hk.2) (.slice e3 a5.length e4)) (fun _ h_ => h_.1))) hb);replace a6 := mk0 (Kd.R_below (by (with_reducible repeat (first | apply Kd.R_alloc | apply Kd.R_drewN | apply Kd.R_drew)); exact (Kd.R_mono (Kd.R_far (p := ⟨d5, 0, none⟩) (Kd.R_types a6.out a7.out (by decide)) (fun _ hk => hk.2) (.slice e3 a5.length e4)) (fun _ h_ => h_.1))) hb);replace a7 := mk0 (blk_below (g := d5) (o := .cells #[.slice e3 a5.length e4] 33 (0, 0)) sB hb);replace HB := uW hb; (try clear hb); (try clear hb2); (try clear hk); (try clear hi)) | (go_at_call 5; (with_reducible refine (checker_Number.calls k (⟨#[45, 51, 47, 50]⟩ : ByteArray) true _ A3.out).mono ?_); rintro e m7 ⟨rfl, hb⟩; replace a0 := uR a0 hb;replace a4 := uN a4 hb;replace a3 := uR a3 hb;replace a6 := uR a6 hb;replace a7 := uB a7 hb;replace HB := uW hb; (try clear hb); (try clear hb2); (try clear hk); (try clear hi)) | (refine gd 24 ?_; (try (refine gate_guard (by rfl) ?_; dsimp only)); refine Kd.R_lit (Kd.int .i64) _ 3 ?hg (N := 24) ?hd (xs := ([0, 1] : List Int)) (inner := [.int .i64 0, .int .i64 1]) (ok := fun _ => True) (okp := fun _ => True) ?hr ?hp (fun _ hk => hk) trivial (Below.refl _ _) (Nat.le_refl _) (by simp) ?_; (case hd => rfl); (case hg => rfl); (case hr => exact aH); (case hp => exact (Reps.one (show Kd.M (Kd.int .i64) _ _ _ 0 [.int .i64 0] from rfl) (Reps.one (show Kd.M (Kd.int .i64) _ _ _ 1 [.int .i64 1] from rfl) (Reps.none _ _)))); intro j9 m8 e5 hb hg_ hnew_; clear hg_ hnew_; rw [← Ny590.out] at e5; replace a0 := uR a0 hb;replace a4 := dN a4 (Kd.R_base e5) hb;replace a3 := uR a3 hb;replace a6 := uR a6 hb;have b3 := mR e5;replace a7 := uB a7 hb;replace HB := uW hb; clear hb e5; obtain ⟨k0, k1, i3⟩ := Kd.R_slice a0.out; subst i3; obtain ⟨k2, k3, i4⟩ := Kd.R_slice b3.out; subst i4) | (go_at_call 7; (with_reducible refine (checker_Implied.calls k _ _ a2 2 _ _ f0 true _ ?side1 ?side2 ?side3 ?side4 A5.out).mono ?_); (case side1 => exact pC ((Kd.R_reads' a0.out).2.2)); (case side2 => exact (Kd.R_reads' a0.out).2.1); (case side3 => exact pC ((Kd.R_reads' b3.out).2.2)); (case side4 => exact (Kd.R_reads' b3.out).2.1); rintro e w' ⟨rfl, ⟨nd, rfl⟩⟩) | (refine gd 29 ?_; (try (refine gate_guard (by rfl) ?_; dsimp only)); refine Kd.R_lit (Kd.int .i64) _ 3 ?hg (N := 29) ?hd (xs := ([1, 0] : List Int)) (inner := [.int .i64 1, .int .i64 0]) (ok := fun _ => True) (okp := fun _ => True) ?hr ?hp (fun _ hk => hk) trivial (Below.refl _ _) (Nat.le_refl _) (by simp) ?_; (case hd => rfl); (case hg => rfl); (case hr => exact aH); (case hp => exact (Reps.one (show Kd.M (Kd.int .i64) _ _ _ 1 [.int .i64 1] from rfl) (Reps.one (show Kd.M (Kd.int .i64) _ _ _ 0 [.int .i64 0] from rfl) (Reps.none _ _)))); intro k4 m9 d8 hb hg_ hnew_; clear hg_ hnew_; rw [← Ny594.out] at d8; replace a0 := uR a0 hb;replace a4 := dN a4 (Kd.R_base d8) hb;replace a3 := uR a3 hb;replace a6 := uR a6 hb;have b5 := mk0 (Kd.R_lower (Kd.R_new' d8 (Kd.R_lt (pR b3.out))) (below_size (aB)));replace b3 := dR b3 (Kd.R_base d8) hb;replace a7 := uB a7 hb;replace HB := uW hb; clear hb d8; obtain ⟨k5, k6, i5⟩ := Kd.R_slice b5.out; subst i5) | (go_at_call 7; (with_reducible refine (checker_Implied.calls k _ _ a2 2 _ _ f1 false _ ?side1 ?side2 ?side3 ?side4 A7.out).mono ?_); (case side1 => exact pC ((Kd.R_reads' a0.out).2.2)); (case side2 => exact (Kd.R_reads' a0.out).2.1); (case side3 => exact pC ((Kd.R_reads' b5.out).2.2)); (case side4 => exact (Kd.R_reads' b5.out).2.1); rintro e w' ⟨rfl, ⟨nd, rfl⟩⟩) | (refine gd 35 ?_; (try (refine gate_guard (by rfl) ?_; dsimp only)); refine Kd.R_lit Kd.string _ 9 ?hg (N := 35) ?hd (xs := ([(⟨#[65]⟩ : ByteArray), (⟨#[66]⟩ : ByteArray), (⟨#[67]⟩ : ByteArray)] : List ByteArray)) (inner := [.string (⟨#[65]⟩ : ByteArray), .string (⟨#[66]⟩ : ByteArray), .string (⟨#[67]⟩ : ByteArray)]) (ok := fun _ => True) (okp := fun _ => True) ?hr ?hp (fun _ hk => hk) trivial (Below.refl _ _) (Nat.le_refl _) (by simp) ?_; (case hd => rfl); (case hg => rfl); (case hr => exact aH); (case hp => exact (Reps.one (show Kd.M Kd.string _ _ _ (⟨#[65]⟩ : ByteArray) [.string (⟨#[65]⟩ : ByteArray)] from rfl) (Reps.one (show Kd.M Kd.string _ _ _ (⟨#[66]⟩ : ByteArray) [.string (⟨#[66]⟩ : ByteArray)] from rfl) (Reps.one (show Kd.M Kd.string _ _ _ (⟨#[67]⟩ : ByteArray) [.string (⟨#[67]⟩ : ByteArray)] from rfl) (Reps.none _ _))))); intro k7 n0 e6 hb hg_ hnew_; clear hg_ hnew_; rw [← Ny598.out] at e6; replace a0 := uR a0 hb;replace a4 := dN a4 (Kd.R_base e6) hb;replace a3 := uR a3 hb;replace a6 := uR a6 hb;replace b3 := uR b3 hb;replace b5 := uR b5 hb;have b6 := mR e6;replace a7 := uB a7 hb;replace HB := uW hb; clear hb e6; obtain ⟨k8, k9, i6⟩ := Kd.R_slice b6.out; subst i6) | (go_at_call 8; (with_reducible refine (checker_Order.calls _ _ a2 _ _ f2 true _ ?side1 ?side2 ?side3 ?side4 A9.out).mono ?_); (case side1 => exact pC ((Kd.R_reads' a0.out).2.2)); (case side2 => exact (Kd.R_reads' a0.out).2.1); (case side3 => exact pC ((Kd.R_reads' b6.out).2.2)); (case side4 => exact (Kd.R_reads' b6.out).2.1); rintro e n1 ⟨rfl, hb⟩; replace a0 := uR a0 hb;replace a4 := uN a4 hb;replace a3 := uR a3 hb;replace a6 := uR a6 hb;replace b3 := uR b3 hb;replace b5 := uR b5 hb;replace b6 := uR b6 hb;replace a7 := uB a7 hb;replace HB := uW hb; (try clear hb); (try clear hb2); (try clear hk); (try clear hi)) | (refine gd 40 ?_; (try (refine gate_guard (by rfl) ?_; dsimp only)); refine Kd.R_lit Kd.string _ 9 ?hg (N := 40) ?hd (xs := ([(⟨#[66]⟩ : ByteArray), (⟨#[65]⟩ : ByteArray), (⟨#[67]⟩ : ByteArray)] : List ByteArray)) (inner := [.string (⟨#[66]⟩ : ByteArray), .string (⟨#[65]⟩ : ByteArray), .string (⟨#[67]⟩ : ByteArray)]) (ok := fun _ => True) (okp := fun _ => True) ?hr ?hp (fun _ hk => hk) trivial (Below.refl _ _) (Nat.le_refl _) (by simp) ?_; (case hd => rfl); (case hg => rfl); (case hr => exact aH); (case hp => exact (Reps.one (show Kd.M Kd.string _ _ _ (⟨#[66]⟩ : ByteArray) [.string (⟨#[66]⟩ : ByteArray)] from rfl) (Reps.one (show Kd.M Kd.string _ _ _ (⟨#[65]⟩ : ByteArray) [.string (⟨#[65]⟩ : ByteArray)] from rfl) (Reps.one (show Kd.M Kd.string _ _ _ (⟨#[67]⟩ : ByteArray) [.string (⟨#[67]⟩ : ByteArray)] from rfl) (Reps.none _ _))))); intro l0 n2 d9 hb hg_ hnew_; clear hg_ hnew_; rw [← Ny602.out] at d9; replace a0 := uR a0 hb;replace a4 := dN a4 (Kd.R_base d9) hb;replace a3 := uR a3 hb;replace a6 := uR a6 hb;replace b3 := uR b3 hb;replace b5 := uR b5 hb;have b9 := mk0 (Kd.R_lower (Kd.R_new' d9 (Kd.R_lt (pR b6.out))) (below_size (aB)));replace b6 := dR b6 (Kd.R_base d9) hb;replace a7 := uB a7 hb;replace HB := uW hb; clear hb d9; obtain ⟨l1, l2, i7⟩ := Kd.R_slice b9.out; subst i7) | (go_at_call 8; (with_reducible refine (checker_Order.calls _ _ a2 _ _ f3 false _ ?side1 ?side2 ?side3 ?side4 A11.out).mono ?_); (case side1 => exact pC ((Kd.R_reads' a0.out).2.2)); (case side2 => exact (Kd.R_reads' a0.out).2.1); (case side3 => exact pC ((Kd.R_reads' b9.out).2.2)); (case side4 => exact (Kd.R_reads' b9.out).2.1); rintro e n3 ⟨rfl, hb⟩; replace a0 := uR a0 hb;replace a4 := uN a4 hb;replace a3 := uR a3 hb;replace a6 := uR a6 hb;replace b3 := uR b3 hb;replace b5 := uR b5 hb;replace b6 := uR b6 hb;replace b9 := uR b9 hb;replace a7 := uB a7 hb;replace HB := uW hb; (try clear hb); (try clear hb2); (try clear hk); (try clear hi); have g5 := cZ a7 0; have g6 := blk_frozen a7.out 0; obtain ⟨l3, l4, i8⟩ := Kd.N_slice a4.out; subst i8; obtain ⟨l5, l6, i9⟩ := Kd.R_slice a3.out; subst i9) | (go_at_call 9; (with_reducible refine (checker_Optimal.calls k _ _ a8 _ _ a1 _ _ a1 _ _ a5 true _ ?side1 ?side2 ?side3 ?side4 ?side5 ?side6 ?side7 ?side8 ?side9 A13.out).mono ?_); (case side1 => exact GW.below HG.out (aB)); (case side2 => exact pC ((Kd.N_reads' a4.out).2.2)); (case side3 => exact (Kd.N_reads' a4.out).2.1); (case side4 => exact pC ((Kd.R_reads' a3.out).2.2)); (case side5 => exact (Kd.R_reads' a3.out).2.1); (case side6 => exact pC ((Kd.R_reads' a3.out).2.2)); (case side7 => exact (Kd.R_reads' a3.out).2.1); (case side8 => exact pC ((Kd.R_reads' a6.out).2.2)); (case side9 => exact (Kd.R_reads' a6.out).2.1); rintro e n4 ⟨rfl, hb⟩; replace a0 := uR a0 hb;replace a4 := uN a4 hb;replace a3 := uR a3 hb;replace a6 := uR a6 hb;replace b3 := uR b3 hb;replace b5 := uR b5 hb;replace b6 := uR b6 hb;replace b9 := uR b9 hb;replace a7 := uB a7 hb;replace HB := uW hb; (try clear hb); (try clear hb2); (try clear hk); (try clear hi)) | (refine gd 54 ?_; (try (refine gate_guard (by rfl) ?_; dsimp only)); refine Kd.R_lit Kd.string _ 22 ?hg (N := 54) ?hd (xs := ([(⟨#[50]⟩ : ByteArray)] : List ByteArray)) (inner := [.string (⟨#[50]⟩ : ByteArray)]) (ok := fun _ => True) (okp := fun _ => True) ?hr ?hp (fun _ hk => hk) trivial (Below.refl _ _) (Nat.le_refl _) (by simp) ?_; (case hd => rfl); (case hg => rfl); (case hr => exact aH); (case hp => exact (Reps.one (show Kd.M Kd.string _ _ _ (⟨#[50]⟩ : ByteArray) [.string (⟨#[50]⟩ : ByteArray)] from rfl) (Reps.none _ _))); intro l7 n5 d6 hb hg_ hnew_; clear hg_ hnew_; rw [← Ny607.out] at d6; replace a0 := uR a0 hb;replace a4 := dN a4 (Kd.R_base d6) hb;replace b3 := uR b3 hb;replace b5 := uR b5 hb;replace b6 := uR b6 hb;replace b9 := uR b9 hb;have d0 := mk0 (Kd.R_lower (Kd.R_new' (Kd.R_new' d6 (Kd.R_lt (pR a3.out))) (Kd.R_lt (pR a6.out))) (below_size (aB)));replace a3 := dR a3 (Kd.R_base d6) hb;replace a6 := dR a6 (Kd.R_base d6) hb;replace a7 := uB a7 hb;replace HB := uW hb; clear hb d6; have g7 := cZ a7 0; have g8 := blk_frozen a7.out 0; obtain ⟨l8, l9, j0⟩ := Kd.R_slice d0.out; subst j0) | (go_at_call 9; (with_reducible refine (checker_Optimal.calls k _ _ a8 _ _ a1 _ _ f4 _ _ a5 false _ ?side1 ?side2 ?side3 ?side4 ?side5 ?side6 ?side7 ?side8 ?side9 A15.out).mono ?_); (case side1 => exact GW.below HG.out (aB)); (case side2 => exact pC ((Kd.N_reads' a4.out).2.2)); (case side3 => exact (Kd.N_reads' a4.out).2.1); (case side4 => exact pC ((Kd.R_reads' a3.out).2.2)); (case side5 => exact (Kd.R_reads' a3.out).2.1); (case side6 => exact pC ((Kd.R_reads' d0.out).2.2)); (case side7 => exact (Kd.R_reads' d0.out).2.1); (case side8 => exact pC ((Kd.R_reads' a6.out).2.2)); (case side9 => exact (Kd.R_reads' a6.out).2.1); rintro e n6 ⟨rfl, hb⟩; replace a0 := uR a0 hb;replace a4 := uN a4 hb;replace a3 := uR a3 hb;replace a6 := uR a6 hb;replace b3 := uR b3 hb;replace b5 := uR b5 hb;replace b6 := uR b6 hb;replace b9 := uR b9 hb;replace d0 := uR d0 hb;replace a7 := uB a7 hb;replace HB := uW hb; (try clear hb); (try clear hb2); (try clear hk); (try clear hi)) | (go_at_call 10; (refine (checker_Map.calls _ _ ([] : List (S109)) _ _ ([] : List (S114)) _ _ ([] : List ByteArray) a9 _ ?side1 ?side2 ?side3 ?side4 ?side5 ?side6 A17.out).mono ?_); (case side1 => exact Kd.C_nil _ _); (case side2 => exact Nat.le_refl _); (case side3 => exact Kd.C_nil _ _); (case side4 => exact Nat.le_refl _); (case side5 => exact Kd.C_nil _ _); (case side6 => exact Nat.le_refl _); rintro e n7 ⟨rfl, hb⟩; replace a0 := uR a0 hb;replace a4 := uN a4 hb;replace a3 := uR a3 hb;replace a6 := uR a6 hb;replace b3 := uR b3 hb;replace b5 := uR b5 hb;replace b6 := uR b6 hb;replace b9 := uR b9 hb;replace d0 := uR d0 hb;replace a7 := uB a7 hb;replace HB := uW hb; (try clear hb); (try clear hb2); (try clear hk); (try clear hi)))
         go_ret
         exact ⟨by first | rfl | (simp [*] <;> rfl), aB⟩
       ·
        replace g1 := Bool.eq_false_iff.mpr g1
        subst g1
        have H1 : (some false) = some r := by rw [if_neg (show ¬ (false = true) by decide)] at H; exact H
        clear H
        have H := H1
        clear H1
        exact absurd ((Option.some.inj H).trans HRT.out) (by decide)
     ·
      replace f9 := Bool.eq_false_iff.mpr f9
      subst f9
      have H1 : (some false) = some r := by rw [if_neg (show ¬ (false = true) by decide)] at H; exact H
      clear H
      have H := H1
      clear H1
      exact absurd ((Option.some.inj H).trans HRT.out) (by decide)
   ·
    replace c6 := Bool.eq_false_iff.mpr c6
    subst c6
    have H1 : (some false) = some r := by rw [if_neg (show ¬ (false = true) by decide)] at H; exact H
    clear H
    have H := H1
    clear H1
    exact absurd ((Option.some.inj H).trans HRT.out) (by decide)
  ·
   replace c4 := Bool.eq_false_iff.mpr c4
   subst c4
   have H1 : (some false) = some r := by rw [if_neg (show ¬ (false = true) by decide)] at H; exact H
   clear H
   have H := H1
   clear H1
   exact absurd ((Option.some.inj H).trans HRT.out) (by decide)
def klippelaw55_knownT.f : Option (Bool) := some true
set_option maxRecDepth 1000000 in
theorem klippelaw55_known.yes : klippelaw55_known.f 400 = some true := by kernel_rfl
theorem klippelaw55_knownT.calls (r : Bool) (w : World) (hG : GW w) (h : klippelaw55_knownT.f = some r) :
  Calls Tryz.prog 4 #[] w fun e w' => e = .returned (.bool r) ∧ Below w.heap.size w w' := by
 obtain rfl := Option.some.inj h
 exact klippelaw55_known.calls 400 true w rfl hG klippelaw55_known.yes
def stringslite_IndexByte.f (a0 : ByteArray) (a1 : Int) : Option (Int) := some (Lib.indexByte a0.data.toList a1.toNat.toUInt8)
theorem stringslite_IndexByte.calls (a0 : ByteArray) (a1 : Int) (r : Int) (w : World) (h : stringslite_IndexByte.f a0 a1 = some r) :
  Calls Tryz.prog 70 #[.string a0, .int .u8 a1] w fun e w' => e = .returned (.int .i64 r) ∧ Drawn0 w w' := by
 obtain rfl := Option.some.inj h
 refine (Tryz.stringslite_IndexByte a0 a1 w).mono ?_
 rintro e w' ⟨rfl, rfl⟩
 exact ⟨rfl, Drawn0.refl _⟩
def strings_IndexByte.f (a0 : ByteArray) (a1 : Int) : Option (Int) := (stringslite_IndexByte.f a0 a1).bind fun a2 => (some a2)
set_option maxHeartbeats 8000000 in
set_option maxRecDepth 100000 in
theorem strings_IndexByte.calls (a0 : ByteArray) (a1 : Int) (r : Int) (w : World) (h : strings_IndexByte.f a0 a1 = some r) :
  Calls Tryz.prog 35 #[.string a0, .int .u8 a1] w fun e w' => e = .returned (.int .i64 r) ∧ Drawn0 w w' := by
 have H : ((stringslite_IndexByte.f a0 a1).bind fun a2 => (some a2)) = some r := h
 clear h
 obtain ⟨a2, A3, H⟩ := bS H
 obtain rfl := Option.some.inj H
 go_enter Tryz.func35, Tryz.ntmps35
 go_wp2_with (first | (refine gc 70 ?_; refine gl 7 Tryz.func70 #[.string a0, .int .u8 a1] ?_; (with_reducible refine (stringslite_IndexByte.calls a0 a1 a2 _ A3.out).mono ?_); rintro e w' ⟨rfl, ⟨nd, rfl⟩⟩; refine ⟨_, rfl, ?_⟩))
 go_ret
 exact ⟨by first | rfl | simp [*], by repeat (first | exact Drawn0.refl _ | apply Drawn0.step)⟩
def klipperef02_Parts.f (a0 : ByteArray) : Option (ByteArray × ByteArray) := (strings_IndexByte.f a0 47).bind fun a1 => (if a1 < 0 then (some (a0, (⟨#[49]⟩ : ByteArray))) else (if 0 ≤ a1 then (if a1 ≤ (a0.size : Int) then (if 0 ≤ (wrap64 (a1 + 1)) then (if (wrap64 (a1 + 1)) ≤ (a0.size : Int) then (some (a0.extract 0 (a1 : Int).toNat, a0.extract ((wrap64 (a1 + 1)) : Int).toNat a0.size)) else (none)) else (none)) else (none)) else (none)))
set_option maxHeartbeats 8000000 in
set_option maxRecDepth 100000 in
theorem klipperef02_Parts.calls (a0 : ByteArray) (r1 : ByteArray) (r2 : ByteArray) (w : World) (h : klipperef02_Parts.f a0 = some (r1, r2)) :
  Calls Tryz.prog 33 #[.string a0] w fun e w' => e = .returned (.tuple #[.string r1, .string r2]) ∧ Drawn0 w w' := by
 have H : ((strings_IndexByte.f a0 47).bind fun a1 => (if a1 < 0 then (some (a0, (⟨#[49]⟩ : ByteArray))) else (if 0 ≤ a1 then (if a1 ≤ (a0.size : Int) then (if 0 ≤ (wrap64 (a1 + 1)) then (if (wrap64 (a1 + 1)) ≤ (a0.size : Int) then (some (a0.extract 0 (a1 : Int).toNat, a0.extract ((wrap64 (a1 + 1)) : Int).toNat a0.size)) else (none)) else (none)) else (none)) else (none)))) = some (r1, r2) := h
 clear h
 obtain ⟨a1, A2, H⟩ := bS H
 by_cases c3 : a1 < 0
 ·
  rw [if_pos c3] at H
  have a2 : decide (a1 < 0) = true := decide_eq_true c3
  clear c3
  simp only [Option.some.injEq, Prod.mk.injEq] at H
  obtain ⟨rfl, rfl⟩ := H
  go_enter Tryz.func33, Tryz.ntmps33
  go_wp2_with (first | (go_at_call 35; (with_reducible refine (strings_IndexByte.calls a0 47 a1 _ A2.out).mono ?_); rintro e w' ⟨rfl, ⟨nd, rfl⟩⟩; (try first | exact ⟨rfl, _, World.drewN_drewN _ _ _⟩ | exact ⟨rfl, _, Eq.trans (World.drewN_drewN _ _ _) (congrArg (World.drewN _) (Nat.add_assoc _ _ _))⟩)))
  repeat (go_quiet (first | (go_at_call 35; (with_reducible refine (strings_IndexByte.calls a0 47 a1 _ A2.out).mono ?_); rintro e w' ⟨rfl, ⟨nd, rfl⟩⟩; (try first | exact ⟨rfl, _, World.drewN_drewN _ _ _⟩ | exact ⟨rfl, _, Eq.trans (World.drewN_drewN _ _ _) (congrArg (World.drewN _) (Nat.add_assoc _ _ _))⟩))); try go_wp2_with (first | (go_at_call 35; (with_reducible refine (strings_IndexByte.calls a0 47 a1 _ A2.out).mono ?_); rintro e w' ⟨rfl, ⟨nd, rfl⟩⟩; (try first | exact ⟨rfl, _, World.drewN_drewN _ _ _⟩ | exact ⟨rfl, _, Eq.trans (World.drewN_drewN _ _ _) (congrArg (World.drewN _) (Nat.add_assoc _ _ _))⟩))))
  go_ret2
  exact ⟨by first | rfl | simp [*], by repeat (first | exact Drawn0.refl _ | apply Drawn0.step)⟩
 ·
  rw [if_neg c3] at H
  have a2 : decide (a1 < 0) = false := decide_eq_false c3
  clear c3
  by_cases c4 : 0 ≤ a1
  ·
   rw [if_pos c4] at H
   have a3 := eq_true c4
   have a4 : decide (0 ≤ a1) = true := decide_eq_true c4
   clear c4
   by_cases c5 : a1 ≤ (a0.size : Int)
   ·
    rw [if_pos c5] at H
    have a5 := eq_true c5
    have a6 : decide (a1 ≤ (a0.size : Int)) = true := decide_eq_true c5
    clear c5
    obtain ⟨ji6, hji6⟩ : ∃ j_ : Int, (wrap64 (a1 + 1)) = j_ := ⟨_, rfl⟩
    replace H : (if 0 ≤ (ji6) then (if (ji6) ≤ (a0.size : Int) then (some (a0.extract 0 (a1 : Int).toNat, a0.extract ((ji6) : Int).toNat a0.size)) else (none)) else (none)) = some (r1, r2) := by first | (rw [hji6] at H; exact H) | (simp only [hji6] at H ⊢; exact H)
    (try rw [hji6] at A2)
    have hji6w : (IntKind.i64.wrap (a1 + 1)) = ji6 := (i64_w _).trans hji6
    by_cases c7 : 0 ≤ (ji6)
    ·
     rw [if_pos c7] at H
     have a7 := eq_true c7
     have a8 : decide (0 ≤ (ji6)) = true := decide_eq_true c7
     clear c7
     by_cases c8 : (ji6) ≤ (a0.size : Int)
     ·
      rw [if_pos c8] at H
      have a9 := eq_true c8
      have b0 : decide ((ji6) ≤ (a0.size : Int)) = true := decide_eq_true c8
      clear c8
      simp only [Option.some.injEq, Prod.mk.injEq] at H
      obtain ⟨rfl, rfl⟩ := H
      go_enter Tryz.func33, Tryz.ntmps33
      go_wp2_with (first | (go_at_call 35; (with_reducible refine (strings_IndexByte.calls a0 47 a1 _ A2.out).mono ?_); rintro e w' ⟨rfl, ⟨nd, rfl⟩⟩; (try first | exact ⟨rfl, _, World.drewN_drewN _ _ _⟩ | exact ⟨rfl, _, Eq.trans (World.drewN_drewN _ _ _) (congrArg (World.drewN _) (Nat.add_assoc _ _ _))⟩)))
      repeat (go_quiet (first | (go_at_call 35; (with_reducible refine (strings_IndexByte.calls a0 47 a1 _ A2.out).mono ?_); rintro e w' ⟨rfl, ⟨nd, rfl⟩⟩; (try first | exact ⟨rfl, _, World.drewN_drewN _ _ _⟩ | exact ⟨rfl, _, Eq.trans (World.drewN_drewN _ _ _) (congrArg (World.drewN _) (Nat.add_assoc _ _ _))⟩))); try go_wp2_with (first | (go_at_call 35; (with_reducible refine (strings_IndexByte.calls a0 47 a1 _ A2.out).mono ?_); rintro e w' ⟨rfl, ⟨nd, rfl⟩⟩; (try first | exact ⟨rfl, _, World.drewN_drewN _ _ _⟩ | exact ⟨rfl, _, Eq.trans (World.drewN_drewN _ _ _) (congrArg (World.drewN _) (Nat.add_assoc _ _ _))⟩))))
      go_ret2
      exact ⟨by first | rfl | (simp; done) | (simp only [← hji6] <;> (first | rfl | simp)) | (simp [*]; done), by repeat (first | exact Drawn0.refl _ | apply Drawn0.step)⟩
     ·
      rw [if_neg c8] at H
      exact absurd H (by simp)
    ·
     rw [if_neg c7] at H
     exact absurd H (by simp)
   ·
    rw [if_neg c5] at H
    exact absurd H (by simp)
  ·
   rw [if_neg c4] at H
   exact absurd H (by simp)
def klipperef01_Split.f (a0 : ByteArray) : Option (Bool × ByteArray) := if (a0.size : Int) > 0 then (if 0 < (a0.size : Int) then (if (bt a0 0) = 45 then (if 1 ≤ (a0.size : Int) then (some (true, a0.extract 1 a0.size)) else (none)) else (some (false, a0))) else (none)) else (some (false, a0))
set_option maxHeartbeats 8000000 in
set_option maxRecDepth 100000 in
theorem klipperef01_Split.calls (a0 : ByteArray) (r1 : Bool) (r2 : ByteArray) (w : World) (h : klipperef01_Split.f a0 = some (r1, r2)) :
  Calls Tryz.prog 68 #[.string a0] w fun e w' => e = .returned (.tuple #[.bool r1, .string r2]) ∧ Drawn0 w w' := by
 have H : (if (a0.size : Int) > 0 then (if 0 < (a0.size : Int) then (if (bt a0 0) = 45 then (if 1 ≤ (a0.size : Int) then (some (true, a0.extract 1 a0.size)) else (none)) else (some (false, a0))) else (none)) else (some (false, a0))) = some (r1, r2) := h
 clear h
 by_cases c2 : (a0.size : Int) > 0
 ·
  rw [if_pos c2] at H
  have a1 : decide (0 < (a0.size : Int)) = true := decide_eq_true c2
  have a2 : decide (0 < a0.size) = true := decide_eq_true (by omega)
  clear c2
  by_cases c3 : 0 < (a0.size : Int)
  ·
   rw [if_pos c3] at H
   have a5 : decide (0 < (a0.size : Int)) = true := decide_eq_true c3
   have a6 : decide (0 < a0.size) = true := decide_eq_true (by omega)
   clear c3
   by_cases c5 : (bt a0 0) = 45
   ·
    rw [if_pos c5] at H
    have a3 : ((bt a0 0) == 45) = true := beq_iff_eq.mpr c5
    have a4 : ((bt a0 0) != 45) = false := bne_eq_false_iff_eq.mpr c5
    clear c5
    by_cases c6 : 1 ≤ (a0.size : Int)
    ·
     rw [if_pos c6] at H
     have a7 := eq_true c6
     have a8 : decide (1 ≤ (a0.size : Int)) = true := decide_eq_true c6
     clear c6
     simp only [Option.some.injEq, Prod.mk.injEq] at H
     obtain ⟨rfl, rfl⟩ := H
     have p4 : 0 ≤ (0 : Int) := (by omega)
     have q4 : 0 < a0.size := (by have : (0 : Int) < (a0.size : Int) := aD; omega)
     have hx4 : ∀ h : 0 < a0.size, ((a0[0]'h).toNat : Int) = bt a0 0 := bt_at a0 0
     clear p4
     have qi4 : (0 < (a0.size : Int)) = True := eq_true (aD)
     replace q4 := eq_true q4
     go_enter Tryz.func68, Tryz.ntmps68
     go_wp2
     repeat (go_quiet (fail); try go_wp2)
     go_ret2
     exact ⟨by first | rfl | simp [*], by repeat (first | exact Drawn0.refl _ | apply Drawn0.step)⟩
    ·
     rw [if_neg c6] at H
     exact absurd H (by simp)
   ·
    rw [if_neg c5] at H
    have a3 : ((bt a0 0) == 45) = false := beq_eq_false_iff_ne.mpr c5
    have a4 : ((bt a0 0) != 45) = true := bne_iff_ne.mpr c5
    simp only [Option.some.injEq, Prod.mk.injEq] at H
    obtain ⟨rfl, rfl⟩ := H
    have p4 : 0 ≤ (0 : Int) := (by omega)
    have q4 : 0 < a0.size := (by have : (0 : Int) < (a0.size : Int) := aD; omega)
    have hx4 : ∀ h : 0 < a0.size, ((a0[0]'h).toNat : Int) = bt a0 0 := bt_at a0 0
    clear p4
    have qi4 : (0 < (a0.size : Int)) = True := eq_true (aD)
    replace q4 := eq_true q4
    go_enter Tryz.func68, Tryz.ntmps68
    go_wp2
    repeat (go_quiet (fail); try go_wp2)
    go_ret2
    exact ⟨by first | rfl | simp [*], by repeat (first | exact Drawn0.refl _ | apply Drawn0.step)⟩
  ·
   rw [if_neg c3] at H
   exact absurd H (by simp)
 ·
  rw [if_neg c2] at H
  have a1 : decide (0 < (a0.size : Int)) = false := decide_eq_false c2
  have a2 : decide (0 < a0.size) = false := decide_eq_false (by omega)
  clear c2
  simp only [Option.some.injEq, Prod.mk.injEq] at H
  obtain ⟨rfl, rfl⟩ := H
  go_enter Tryz.func68, Tryz.ntmps68
  go_wp2
  repeat (go_quiet (fail); try go_wp2)
  go_ret2
  exact ⟨by first | rfl | simp [*], by repeat (first | exact Drawn0.refl _ | apply Drawn0.step)⟩
def klipperef01_Canonical.l0 : Nat → Bool → ByteArray → Int → Option (Bool)
 | 0, _, _, _ => none
 | k + 1, x3, x4, x5 => if x5 < (x4.size : Int) then (if 0 ≤ x5 then (if (bt x4 x5) < 48 then (some false) else (if (bt x4 x5) > 57 then (some false) else (klipperef01_Canonical.l0 k x3 x4 (wrap64 (x5 + 1))))) else (none)) else (if (x4.size : Int) = 0 then (some false) else (if 0 < (x4.size : Int) then (if (bt x4 0) = 48 then (if x3 = true then (some false) else (if (x4.size : Int) > 1 then (some false) else (some true))) else (some true)) else (none)))
def klipperef01_Canonical.f (k : Nat) (a0 : ByteArray) : Option (Bool) := (klipperef01_Split.f a0).bind fun a3 => (klipperef01_Canonical.l0 k a3.1 a3.2 0)
theorem klipperef01_Canonical.mono_l : ∀ k, (∀ y0 y1 y2, LeO (klipperef01_Canonical.l0 k y0 y1 y2) (klipperef01_Canonical.l0 (k + 1) y0 y1 y2))
 | 0 => fun _ _ _ r h => by simp [klipperef01_Canonical.l0] at h
 | k + 1 => by
  have ih0 := klipperef01_Canonical.mono_l k
  ·
   intro y0 y1 y2
   unfold klipperef01_Canonical.l0
   repeat' first | (with_reducible first | exact ih0 .. | exact LeO.refl _ | exact LeO.none _ | refine LeO.ite ?_ ?_ | refine LeO.bind ?_ (fun _ => ?_))
theorem klipperef01_Canonical.mono : ∀ a0 k, LeO (klipperef01_Canonical.f k a0) (klipperef01_Canonical.f (k + 1) a0) := by
 intro a0 k
 have ih0 := klipperef01_Canonical.mono_l k
 unfold klipperef01_Canonical.f
 repeat' first | (with_reducible first | exact ih0 .. | exact LeO.refl _ | exact LeO.none _ | refine LeO.ite ?_ ?_ | refine LeO.bind ?_ (fun _ => ?_))
set_option maxHeartbeats 8000000 in
set_option maxRecDepth 100000 in
theorem klipperef01_Canonical.calls (k : Nat) (a0 : ByteArray) (r : Bool) (w : World) (h : klipperef01_Canonical.f k a0 = some r) :
  Calls Tryz.prog 69 #[.string a0] w fun e w' => e = .returned (.bool r) ∧ Drawn0 w w' := by
 have H : ((klipperef01_Split.f a0).bind fun a3 => (klipperef01_Canonical.l0 k a3.1 a3.2 0)) = some r := h
 clear h
 obtain ⟨⟨a5, a1⟩, A2, H⟩ := bS H
 (try dsimp only at H)
 have H' := mk0 H
 clear H
 go_enter Tryz.func69, Tryz.ntmps69
 go_wp2_with (first | (refine gc 68 ?_; refine gl 8 Tryz.func68 #[.string a0] ?_; (with_reducible refine (klipperef01_Split.calls a0 a5 a1 _ A2.out).mono ?_); rintro e w' ⟨rfl, ⟨nd, rfl⟩⟩; refine ⟨_, rfl, ?_⟩))
 go_loopg [5] k (fun kq v5 w' => ∃ (a2 : Int), v5 = .int .i64 a2 ∧ Aside0 (klipperef01_Canonical.l0 kq a5 a1 a2 = some r) ∧ Aside0 (kq ≤ k) ∧ Drawn0 w w')
 case atStart => exact ⟨(0), (by first | rfl | simp [*]), H', ⟨Nat.le_refl _⟩, by repeat (first | exact Drawn0.refl _ | apply Drawn0.step)⟩
 case round =>
  clear H'
  try clear p2
  obtain ⟨a2, rfl, HA, HK1, ⟨m1, rfl⟩⟩ := hrel
  cases gk with
  | zero => exact absurd HA.out (by simp [klipperef01_Canonical.l0])
  | succ k1 =>
   have H := HA.out
   clear HA
   simp only [klipperef01_Canonical.l0] at H
   by_cases c3 : a2 < (a1.size : Int)
   ·
    rw [if_pos c3] at H
    have b5 : decide (a2 < (a1.size : Int)) = true := decide_eq_true c3
    clear c3
    by_cases c4 : 0 ≤ a2
    ·
     rw [if_pos c4] at H
     have d0 : decide (0 ≤ a2) = true := decide_eq_true c4
     clear c4
     by_cases c6 : (bt a1 a2) < 48
     ·
      rw [if_pos c6] at H
      have b6 : decide ((bt a1 a2) < 48) = true := decide_eq_true c6
      clear c6
      obtain rfl := Option.some.inj H
      have p5 : 0 ≤ (a2 : Int) := aD
      have q5 : a2 < (a1.size : Int) := aD
      have hx5 := bt_at a1 a2
      replace p5 := eq_true p5
      replace q5 := eq_true q5
      go_wp2
      go_ret
      exact ⟨by first | rfl | simp [*], by repeat (first | exact Drawn0.refl _ | apply Drawn0.step)⟩
     ·
      rw [if_neg c6] at H
      have b6 : decide ((bt a1 a2) < 48) = false := decide_eq_false c6
      clear c6
      by_cases c8 : (bt a1 a2) > 57
      ·
       rw [if_pos c8] at H
       have b7 : decide (57 < (bt a1 a2)) = true := decide_eq_true c8
       clear c8
       obtain rfl := Option.some.inj H
       have p5 : 0 ≤ (a2 : Int) := aD
       have q5 : a2 < (a1.size : Int) := aD
       have hx5 := bt_at a1 a2
       replace p5 := eq_true p5
       replace q5 := eq_true q5
       have p7 : 0 ≤ (a2 : Int) := aD
       have q7 : a2 < (a1.size : Int) := aD
       have hx7 := bt_at a1 a2
       replace p7 := eq_true p7
       replace q7 := eq_true q7
       go_wp2
       go_ret
       exact ⟨by first | rfl | simp [*], by repeat (first | exact Drawn0.refl _ | apply Drawn0.step)⟩
      ·
       rw [if_neg c8] at H
       have b7 : decide (57 < (bt a1 a2)) = false := decide_eq_false c8
       clear c8
       have H' := mk0 H
       clear H
       have p5 : 0 ≤ (a2 : Int) := aD
       have q5 : a2 < (a1.size : Int) := aD
       have hx5 := bt_at a1 a2
       replace p5 := eq_true p5
       replace q5 := eq_true q5
       have p7 : 0 ≤ (a2 : Int) := aD
       have q7 : a2 < (a1.size : Int) := aD
       have hx7 := bt_at a1 a2
       replace p7 := eq_true p7
       replace q7 := eq_true q7
       go_wp2
       go_roundg k1
       case measure => have := HK1.out; omega
       case rel => exact ⟨(wrap64 (a2 + 1)), (by first | rfl | simp [*]), H', ⟨by have := HK1.out; omega⟩, by repeat (first | exact Drawn0.refl _ | apply Drawn0.step)⟩
    ·
     rw [if_neg c4] at H
     exact absurd H (by simp)
   ·
    rw [if_neg c3] at H
    have b5 : decide (a2 < (a1.size : Int)) = false := decide_eq_false c3
    clear c3
    by_cases c9 : (a1.size : Int) = 0
    ·
     rw [if_pos c9] at H
     have b8 : ((a1.size : Int) == 0) = true := beq_iff_eq.mpr c9
     have b9 : ((a1.size : Int) != 0) = false := bne_eq_false_iff_eq.mpr c9
     clear c9
     obtain rfl := Option.some.inj H
     go_wp2
     go_ret
     exact ⟨by first | rfl | simp [*], by repeat (first | exact Drawn0.refl _ | apply Drawn0.step)⟩
    ·
     rw [if_neg c9] at H
     have b8 : ((a1.size : Int) == 0) = false := beq_eq_false_iff_ne.mpr c9
     have b9 : ((a1.size : Int) != 0) = true := bne_iff_ne.mpr c9
     by_cases b3 : 0 < (a1.size : Int)
     ·
      rw [if_pos b3] at H
      have c5 : decide (0 < (a1.size : Int)) = true := decide_eq_true b3
      have c7 : decide (0 < a1.size) = true := decide_eq_true (by omega)
      clear b3
      by_cases a6 : (bt a1 0) = 48
      ·
       rw [if_pos a6] at H
       have a9 : ((bt a1 0) == 48) = true := beq_iff_eq.mpr a6
       have b0 : ((bt a1 0) != 48) = false := bne_eq_false_iff_eq.mpr a6
       clear a6
       by_cases b4 : a5 = true
       ·
        subst b4
        have H1 : (some false) = some r := by rw [if_pos rfl] at H; exact H
        clear H
        have H := H1
        clear H1
        obtain rfl := Option.some.inj H
        have a7 : 0 ≤ (0 : Int) := (by omega)
        have a4 : 0 < a1.size := (by have : (0 : Int) < (a1.size : Int) := aD; omega)
        have hx11 : ∀ h : 0 < a1.size, ((a1[0]'h).toNat : Int) = bt a1 0 := bt_at a1 0
        clear a7
        have qi11 : (0 < (a1.size : Int)) = True := eq_true (aD)
        replace a4 := eq_true a4
        go_wp2
        go_ret
        exact ⟨by first | rfl | simp [*], by repeat (first | exact Drawn0.refl _ | apply Drawn0.step)⟩
       ·
        replace b4 := Bool.eq_false_iff.mpr b4
        subst b4
        have H1 : (if (a1.size : Int) > 1 then (some false) else (some true)) = some r := by rw [if_neg (show ¬ (false = true) by decide)] at H; exact H
        clear H
        have H := H1
        clear H1
        by_cases a8 : (a1.size : Int) > 1
        ·
         rw [if_pos a8] at H
         have b1 : decide (1 < (a1.size : Int)) = true := decide_eq_true a8
         have b2 : decide (1 < a1.size) = true := decide_eq_true (by omega)
         clear a8
         obtain rfl := Option.some.inj H
         have a7 : 0 ≤ (0 : Int) := (by omega)
         have a4 : 0 < a1.size := (by have : (0 : Int) < (a1.size : Int) := aD; omega)
         have hx11 : ∀ h : 0 < a1.size, ((a1[0]'h).toNat : Int) = bt a1 0 := bt_at a1 0
         clear a7
         have qi11 : (0 < (a1.size : Int)) = True := eq_true (aD)
         replace a4 := eq_true a4
         go_wp2
         go_ret
         exact ⟨by first | rfl | simp [*], by repeat (first | exact Drawn0.refl _ | apply Drawn0.step)⟩
        ·
         rw [if_neg a8] at H
         have b1 : decide (1 < (a1.size : Int)) = false := decide_eq_false a8
         have b2 : decide (1 < a1.size) = false := decide_eq_false (by omega)
         clear a8
         obtain rfl := Option.some.inj H
         have a7 : 0 ≤ (0 : Int) := (by omega)
         have a4 : 0 < a1.size := (by have : (0 : Int) < (a1.size : Int) := aD; omega)
         have hx11 : ∀ h : 0 < a1.size, ((a1[0]'h).toNat : Int) = bt a1 0 := bt_at a1 0
         clear a7
         have qi11 : (0 < (a1.size : Int)) = True := eq_true (aD)
         replace a4 := eq_true a4
         go_wp2
         go_ret
         exact ⟨by first | rfl | simp [*], by repeat (first | exact Drawn0.refl _ | apply Drawn0.step)⟩
      ·
       rw [if_neg a6] at H
       have a9 : ((bt a1 0) == 48) = false := beq_eq_false_iff_ne.mpr a6
       have b0 : ((bt a1 0) != 48) = true := bne_iff_ne.mpr a6
       obtain rfl := Option.some.inj H
       have a7 : 0 ≤ (0 : Int) := (by omega)
       have a4 : 0 < a1.size := (by have : (0 : Int) < (a1.size : Int) := aD; omega)
       have hx11 : ∀ h : 0 < a1.size, ((a1[0]'h).toNat : Int) = bt a1 0 := bt_at a1 0
       clear a7
       have qi11 : (0 < (a1.size : Int)) = True := eq_true (aD)
       replace a4 := eq_true a4
       go_wp2
       go_ret
       exact ⟨by first | rfl | simp [*], by repeat (first | exact Drawn0.refl _ | apply Drawn0.step)⟩
     ·
      rw [if_neg b3] at H
      exact absurd H (by simp)
def klipperef01_Right.f (k : Nat) (a0 : ByteArray) : Option (Bool) := (klipperef01_Split.f a0).bind fun a1 => ((klipperef01_Canonical.f k a0).bind fun a2 => (if a2 = true then (some (decide ((a1.2.size : Int) ≤ 200))) else (some false)))
theorem klipperef01_Right.mono : ∀ a0 k, LeO (klipperef01_Right.f k a0) (klipperef01_Right.f (k + 1) a0) := by
 intro a0 k
 unfold klipperef01_Right.f
 repeat' first | (with_reducible first | exact klipperef01_Canonical.mono .. | exact LeO.refl _ | exact LeO.none _ | refine LeO.ite ?_ ?_ | refine LeO.bind ?_ (fun _ => ?_))
set_option maxHeartbeats 8000000 in
set_option maxRecDepth 100000 in
theorem klipperef01_Right.calls (k : Nat) (a0 : ByteArray) (r : Bool) (w : World) (h : klipperef01_Right.f k a0 = some r) :
  Calls Tryz.prog 34 #[.string a0] w fun e w' => e = .returned (.bool r) ∧ Drawn0 w w' := by
 have H : ((klipperef01_Split.f a0).bind fun a1 => ((klipperef01_Canonical.f k a0).bind fun a2 => (if a2 = true then (some (decide ((a1.2.size : Int) ≤ 200))) else (some false)))) = some r := h
 clear h
 obtain ⟨⟨a4, a3⟩, A2, H⟩ := bS H
 (try dsimp only at H)
 obtain ⟨a2, A3, H⟩ := bS H
 by_cases c4 : a2 = true
 ·
  subst c4
  have H1 : (some (decide ((a3.size : Int) ≤ 200))) = some r := by rw [if_pos rfl] at H; exact H
  clear H
  have H := H1
  clear H1
  obtain rfl := Option.some.inj H
  go_enter Tryz.func34, Tryz.ntmps34
  go_wp2_with (first | (refine gc 68 ?_; refine gl 7 Tryz.func68 #[.string a0] ?_; (with_reducible refine (klipperef01_Split.calls a0 a4 a3 _ A2.out).mono ?_); rintro e w' ⟨rfl, ⟨nd, rfl⟩⟩; refine ⟨_, rfl, ?_⟩) | (refine gc 69 ?_; refine gl 11 Tryz.func69 #[.string a0] ?_; (with_reducible refine (klipperef01_Canonical.calls k a0 true _ A3.out).mono ?_); rintro e w' ⟨rfl, ⟨nd, rfl⟩⟩; refine ⟨_, rfl, ?_⟩))
  go_ret
  exact ⟨by first | rfl | simp [*], by repeat (first | exact Drawn0.refl _ | apply Drawn0.step)⟩
 ·
  replace c4 := Bool.eq_false_iff.mpr c4
  subst c4
  have H1 : (some false) = some r := by rw [if_neg (show ¬ (false = true) by decide)] at H; exact H
  clear H
  have H := H1
  clear H1
  obtain rfl := Option.some.inj H
  go_enter Tryz.func34, Tryz.ntmps34
  go_wp2_with (first | (refine gc 68 ?_; refine gl 7 Tryz.func68 #[.string a0] ?_; (with_reducible refine (klipperef01_Split.calls a0 a4 a3 _ A2.out).mono ?_); rintro e w' ⟨rfl, ⟨nd, rfl⟩⟩; refine ⟨_, rfl, ?_⟩) | (refine gc 69 ?_; refine gl 11 Tryz.func69 #[.string a0] ?_; (with_reducible refine (klipperef01_Canonical.calls k a0 false _ A3.out).mono ?_); rintro e w' ⟨rfl, ⟨nd, rfl⟩⟩; refine ⟨_, rfl, ?_⟩))
  go_ret
  exact ⟨by first | rfl | simp [*], by repeat (first | exact Drawn0.refl _ | apply Drawn0.step)⟩
def klipperef01_Sign.f (a0 : ByteArray) : Option (Int) := (klipperef01_Split.f a0).bind fun a1 => (if a1.1 = true then (some (-1)) else (if a0.toList = ([48] : List UInt8) then (some 0) else (some 1)))
set_option maxHeartbeats 8000000 in
set_option maxRecDepth 100000 in
theorem klipperef01_Sign.calls (a0 : ByteArray) (r : Int) (w : World) (h : klipperef01_Sign.f a0 = some r) :
  Calls Tryz.prog 71 #[.string a0] w fun e w' => e = .returned (.int .i64 r) ∧ Drawn0 w w' := by
 have H : ((klipperef01_Split.f a0).bind fun a1 => (if a1.1 = true then (some (-1)) else (if a0.toList = ([48] : List UInt8) then (some 0) else (some 1)))) = some r := h
 clear h
 obtain ⟨⟨a3, a2⟩, A2, H⟩ := bS H
 (try dsimp only at H)
 by_cases c3 : a3 = true
 ·
  subst c3
  have H1 : (some (-1)) = some r := by rw [if_pos rfl] at H; exact H
  clear H
  have H := H1
  clear H1
  obtain rfl := Option.some.inj H
  go_enter Tryz.func71, Tryz.ntmps71
  go_wp2_with (first | (refine gc 68 ?_; refine gl 7 Tryz.func68 #[.string a0] ?_; (with_reducible refine (klipperef01_Split.calls a0 true a2 _ A2.out).mono ?_); rintro e w' ⟨rfl, ⟨nd, rfl⟩⟩; refine ⟨_, rfl, ?_⟩))
  go_ret
  exact ⟨by first | rfl | simp [*], by repeat (first | exact Drawn0.refl _ | apply Drawn0.step)⟩
 ·
  replace c3 := Bool.eq_false_iff.mpr c3
  subst c3
  have H1 : (if a0.toList = ([48] : List UInt8) then (some 0) else (some 1)) = some r := by rw [if_neg (show ¬ (false = true) by decide)] at H; exact H
  clear H
  have H := H1
  clear H1
  by_cases c4 : a0.toList = ([48] : List UInt8)
  ·
   rw [if_pos c4] at H
   have a4 : (a0.toList == ([48] : List UInt8)) = true := beq_iff_eq.mpr c4
   have a5 : (a0.toList != ([48] : List UInt8)) = false := bne_eq_false_iff_eq.mpr c4
   clear c4
   obtain rfl := Option.some.inj H
   go_enter Tryz.func71, Tryz.ntmps71
   go_wp2_with (first | (refine gc 68 ?_; refine gl 7 Tryz.func68 #[.string a0] ?_; (with_reducible refine (klipperef01_Split.calls a0 false a2 _ A2.out).mono ?_); rintro e w' ⟨rfl, ⟨nd, rfl⟩⟩; refine ⟨_, rfl, ?_⟩))
   go_ret
   exact ⟨by first | rfl | simp [*], by repeat (first | exact Drawn0.refl _ | apply Drawn0.step)⟩
  ·
   rw [if_neg c4] at H
   have a4 : (a0.toList == ([48] : List UInt8)) = false := beq_eq_false_iff_ne.mpr c4
   have a5 : (a0.toList != ([48] : List UInt8)) = true := bne_iff_ne.mpr c4
   obtain rfl := Option.some.inj H
   go_enter Tryz.func71, Tryz.ntmps71
   go_wp2_with (first | (refine gc 68 ?_; refine gl 7 Tryz.func68 #[.string a0] ?_; (with_reducible refine (klipperef01_Split.calls a0 false a2 _ A2.out).mono ?_); rintro e w' ⟨rfl, ⟨nd, rfl⟩⟩; refine ⟨_, rfl, ?_⟩))
   go_ret
   exact ⟨by first | rfl | simp [*], by repeat (first | exact Drawn0.refl _ | apply Drawn0.step)⟩
def klipperef01_Small.l0 : Nat → Bool → ByteArray → Int → Int → Option (Int × Bool)
 | 0, _, _, _, _ => none
 | k + 1, x4, x5, x6, x7 => if x7 < (x5.size : Int) then (if 0 ≤ x7 then (if x6 < (wrap64 (Int.tdiv (wrap64 ((-9223372036854775808) + (wrap64 ((wrap64 (bt x5 x7)) - 48)))) 10)) then (some (0, false)) else (klipperef01_Small.l0 k x4 x5 (wrap64 ((wrap64 (10 * x6)) - (wrap64 ((wrap64 (bt x5 x7)) - 48)))) (wrap64 (x7 + 1)))) else (none)) else (if x4 = true then (some (x6, true)) else (if x6 = (-9223372036854775808) then (some (0, false)) else (some (wrap64 (-x6), true))))
def klipperef01_Small.f (k : Nat) (a0 : ByteArray) : Option (Int × Bool) := (klipperef01_Split.f a0).bind fun a4 => (if (a4.2.size : Int) > 19 then (some (0, false)) else (klipperef01_Small.l0 k a4.1 a4.2 0 0))
theorem klipperef01_Small.mono_l : ∀ k, (∀ y0 y1 y2 y3, LeO (klipperef01_Small.l0 k y0 y1 y2 y3) (klipperef01_Small.l0 (k + 1) y0 y1 y2 y3))
 | 0 => fun _ _ _ _ r h => by simp [klipperef01_Small.l0] at h
 | k + 1 => by
  have ih0 := klipperef01_Small.mono_l k
  ·
   intro y0 y1 y2 y3
   unfold klipperef01_Small.l0
   repeat' first | (with_reducible first | exact ih0 .. | exact LeO.refl _ | exact LeO.none _ | refine LeO.ite ?_ ?_ | refine LeO.bind ?_ (fun _ => ?_))
theorem klipperef01_Small.mono : ∀ a0 k, LeO (klipperef01_Small.f k a0) (klipperef01_Small.f (k + 1) a0) := by
 intro a0 k
 have ih0 := klipperef01_Small.mono_l k
 unfold klipperef01_Small.f
 repeat' first | (with_reducible first | exact ih0 .. | exact LeO.refl _ | exact LeO.none _ | refine LeO.ite ?_ ?_ | refine LeO.bind ?_ (fun _ => ?_))
set_option maxHeartbeats 8000000 in
set_option maxRecDepth 100000 in
theorem klipperef01_Small.calls (k : Nat) (a0 : ByteArray) (r1 : Int) (r2 : Bool) (w : World) (h : klipperef01_Small.f k a0 = some (r1, r2)) :
  Calls Tryz.prog 115 #[.string a0] w fun e w' => e = .returned (.tuple #[.int .i64 r1, .bool r2]) ∧ Drawn0 w w' := by
 have H : ((klipperef01_Split.f a0).bind fun a4 => (if (a4.2.size : Int) > 19 then (some (0, false)) else (klipperef01_Small.l0 k a4.1 a4.2 0 0))) = some (r1, r2) := h
 clear h
 obtain ⟨⟨a5, a1⟩, A2, H⟩ := bS H
 (try dsimp only at H)
 by_cases c3 : (a1.size : Int) > 19
 ·
  rw [if_pos c3] at H
  have a6 : decide (19 < (a1.size : Int)) = true := decide_eq_true c3
  have a7 : decide (19 < a1.size) = true := decide_eq_true (by omega)
  clear c3
  simp only [Option.some.injEq, Prod.mk.injEq] at H
  obtain ⟨rfl, rfl⟩ := H
  go_enter Tryz.func115, Tryz.ntmps115
  go_wp2_with (first | (refine gc 68 ?_; refine gl 11 Tryz.func68 #[.string a0] ?_; (with_reducible refine (klipperef01_Split.calls a0 a5 a1 _ A2.out).mono ?_); rintro e w' ⟨rfl, ⟨nd, rfl⟩⟩; refine ⟨_, rfl, ?_⟩))
  go_ret2
  exact ⟨by first | rfl | simp [*], by repeat (first | exact Drawn0.refl _ | apply Drawn0.step)⟩
 ·
  rw [if_neg c3] at H
  have a6 : decide (19 < (a1.size : Int)) = false := decide_eq_false c3
  have a7 : decide (19 < a1.size) = false := decide_eq_false (by omega)
  clear c3
  have H' := mk0 H
  clear H
  go_enter Tryz.func115, Tryz.ntmps115
  go_wp2_with (first | (refine gc 68 ?_; refine gl 11 Tryz.func68 #[.string a0] ?_; (with_reducible refine (klipperef01_Split.calls a0 a5 a1 _ A2.out).mono ?_); rintro e w' ⟨rfl, ⟨nd, rfl⟩⟩; refine ⟨_, rfl, ?_⟩))
  go_loopg [6, 7] k (fun kq v6 v7 w' => ∃ (a3 : Int) (a2 : Int), v6 = .int .i64 a3 ∧ v7 = .int .i64 a2 ∧ Aside0 (klipperef01_Small.l0 kq a5 a1 a3 a2 = some (r1, r2)) ∧ Aside0 (kq ≤ k) ∧ Drawn0 w w')
  case atStart => exact ⟨(0), (0), (by first | rfl | simp [*]), (by first | rfl | simp [*]), H', ⟨Nat.le_refl _⟩, by repeat (first | exact Drawn0.refl _ | apply Drawn0.step)⟩
  case round =>
   clear H'
   try clear c1
   try clear p2
   try clear c3
   try clear a6
   try clear a7
   obtain ⟨a3, a2, rfl, rfl, HA, HK1, ⟨m1, rfl⟩⟩ := hrel
   cases gk with
   | zero => exact absurd HA.out (by simp [klipperef01_Small.l0])
   | succ k1 =>
    have H := HA.out
    clear HA
    simp only [klipperef01_Small.l0] at H
    by_cases c4 : a2 < (a1.size : Int)
    ·
     rw [if_pos c4] at H
     have a8 : decide (a2 < (a1.size : Int)) = true := decide_eq_true c4
     clear c4
     by_cases c5 : 0 ≤ a2
     ·
      rw [if_pos c5] at H
      have b2 : decide (0 ≤ a2) = true := decide_eq_true c5
      clear c5
      by_cases c7 : a3 < (wrap64 (Int.tdiv (wrap64 ((-9223372036854775808) + (wrap64 ((wrap64 (bt a1 a2)) - 48)))) 10))
      ·
       rw [if_pos c7] at H
       have a9 : decide (a3 < (wrap64 (Int.tdiv (wrap64 ((-9223372036854775808) + (wrap64 ((wrap64 (bt a1 a2)) - 48)))) 10))) = true := decide_eq_true c7
       clear c7
       simp only [Option.some.injEq, Prod.mk.injEq] at H
       obtain ⟨rfl, rfl⟩ := H
       have p6 : 0 ≤ (a2 : Int) := aD
       have q6 : a2 < (a1.size : Int) := aD
       have hx6 := bt_at a1 a2
       replace p6 := eq_true p6
       replace q6 := eq_true q6
       go_wp2
       go_ret2
       exact ⟨by first | rfl | simp [*], by repeat (first | exact Drawn0.refl _ | apply Drawn0.step)⟩
      ·
       rw [if_neg c7] at H
       have a9 : decide (a3 < (wrap64 (Int.tdiv (wrap64 ((-9223372036854775808) + (wrap64 ((wrap64 (bt a1 a2)) - 48)))) 10))) = false := decide_eq_false c7
       clear c7
       have H' := mk0 H
       clear H
       have p6 : 0 ≤ (a2 : Int) := aD
       have q6 : a2 < (a1.size : Int) := aD
       have hx6 := bt_at a1 a2
       replace p6 := eq_true p6
       replace q6 := eq_true q6
       go_wp2
       go_roundg k1
       case measure => have := HK1.out; omega
       case rel => exact ⟨(wrap64 ((wrap64 (10 * a3)) - (wrap64 ((wrap64 (bt a1 a2)) - 48)))), (wrap64 (a2 + 1)), (by first | rfl | simp [*]), (by first | rfl | simp [*]), H', ⟨by have := HK1.out; omega⟩, by repeat (first | exact Drawn0.refl _ | apply Drawn0.step)⟩
     ·
      rw [if_neg c5] at H
      exact absurd H (by simp)
    ·
     rw [if_neg c4] at H
     have a8 : decide (a2 < (a1.size : Int)) = false := decide_eq_false c4
     clear c4
     by_cases c8 : a5 = true
     ·
      subst c8
      have H1 : (some (a3, true)) = some (r1, r2) := by rw [if_pos rfl] at H; exact H
      clear H
      have H := H1
      clear H1
      simp only [Option.some.injEq, Prod.mk.injEq] at H
      obtain ⟨rfl, rfl⟩ := H
      go_wp2
      go_ret2
      exact ⟨by first | rfl | simp [*], by repeat (first | exact Drawn0.refl _ | apply Drawn0.step)⟩
     ·
      replace c8 := Bool.eq_false_iff.mpr c8
      subst c8
      have H1 : (if a3 = (-9223372036854775808) then (some (0, false)) else (some (wrap64 (-a3), true))) = some (r1, r2) := by rw [if_neg (show ¬ (false = true) by decide)] at H; exact H
      clear H
      have H := H1
      clear H1
      by_cases c9 : a3 = (-9223372036854775808)
      ·
       rw [if_pos c9] at H
       have b0 : (a3 == (-9223372036854775808)) = true := beq_iff_eq.mpr c9
       have b1 : (a3 != (-9223372036854775808)) = false := bne_eq_false_iff_eq.mpr c9
       clear c9
       simp only [Option.some.injEq, Prod.mk.injEq] at H
       obtain ⟨rfl, rfl⟩ := H
       go_wp2
       go_ret2
       exact ⟨by first | rfl | simp [*], by repeat (first | exact Drawn0.refl _ | apply Drawn0.step)⟩
      ·
       rw [if_neg c9] at H
       have b0 : (a3 == (-9223372036854775808)) = false := beq_eq_false_iff_ne.mpr c9
       have b1 : (a3 != (-9223372036854775808)) = true := bne_iff_ne.mpr c9
       simp only [Option.some.injEq, Prod.mk.injEq] at H
       obtain ⟨rfl, rfl⟩ := H
       go_wp2
       go_ret2
       exact ⟨by first | rfl | simp [*], by repeat (first | exact Drawn0.refl _ | apply Drawn0.step)⟩
def klipperef01_brief.f (k : Nat) (a0 : ByteArray) : Option (Int × Bool) := (klipperef01_Split.f a0).bind fun a3 => (if (a3.2.size : Int) > 17 then (some (0, false)) else ((klipperef01_Small.f k a0).bind fun a1 => (some (a1.1, a1.2))))
theorem klipperef01_brief.mono : ∀ a0 k, LeO (klipperef01_brief.f k a0) (klipperef01_brief.f (k + 1) a0) := by
 intro a0 k
 unfold klipperef01_brief.f
 repeat' first | (with_reducible first | exact klipperef01_Small.mono .. | exact LeO.refl _ | exact LeO.none _ | refine LeO.ite ?_ ?_ | refine LeO.bind ?_ (fun _ => ?_))
set_option maxHeartbeats 8000000 in
set_option maxRecDepth 100000 in
theorem klipperef01_brief.calls (k : Nat) (a0 : ByteArray) (r1 : Int) (r2 : Bool) (w : World) (h : klipperef01_brief.f k a0 = some (r1, r2)) :
  Calls Tryz.prog 92 #[.string a0] w fun e w' => e = .returned (.tuple #[.int .i64 r1, .bool r2]) ∧ Drawn0 w w' := by
 have H : ((klipperef01_Split.f a0).bind fun a3 => (if (a3.2.size : Int) > 17 then (some (0, false)) else ((klipperef01_Small.f k a0).bind fun a1 => (some (a1.1, a1.2))))) = some (r1, r2) := h
 clear h
 obtain ⟨⟨a4, a2⟩, A2, H⟩ := bS H
 (try dsimp only at H)
 by_cases c3 : (a2.size : Int) > 17
 ·
  rw [if_pos c3] at H
  have a5 : decide (17 < (a2.size : Int)) = true := decide_eq_true c3
  have a6 : decide (17 < a2.size) = true := decide_eq_true (by omega)
  clear c3
  simp only [Option.some.injEq, Prod.mk.injEq] at H
  obtain ⟨rfl, rfl⟩ := H
  go_enter Tryz.func92, Tryz.ntmps92
  go_wp2_with (first | (refine gc 68 ?_; refine gl 8 Tryz.func68 #[.string a0] ?_; (with_reducible refine (klipperef01_Split.calls a0 a4 a2 _ A2.out).mono ?_); rintro e w' ⟨rfl, ⟨nd, rfl⟩⟩; refine ⟨_, rfl, ?_⟩))
  go_ret2
  exact ⟨by first | rfl | simp [*], by repeat (first | exact Drawn0.refl _ | apply Drawn0.step)⟩
 ·
  rw [if_neg c3] at H
  have a5 : decide (17 < (a2.size : Int)) = false := decide_eq_false c3
  have a6 : decide (17 < a2.size) = false := decide_eq_false (by omega)
  clear c3
  obtain ⟨⟨a7, a8⟩, A4, H⟩ := bS H
  (try dsimp only at H)
  simp only [Option.some.injEq, Prod.mk.injEq] at H
  obtain ⟨rfl, rfl⟩ := H
  go_enter Tryz.func92, Tryz.ntmps92
  go_wp2_with (first | (refine gc 68 ?_; refine gl 8 Tryz.func68 #[.string a0] ?_; (with_reducible refine (klipperef01_Split.calls a0 a4 a2 _ A2.out).mono ?_); rintro e w' ⟨rfl, ⟨nd, rfl⟩⟩; refine ⟨_, rfl, ?_⟩) | (refine gc 115 ?_; refine gl 15 Tryz.func115 #[.string a0] ?_; (with_reducible refine (klipperef01_Small.calls k a0 a7 a8 _ A4.out).mono ?_); rintro e w' ⟨rfl, ⟨nd, rfl⟩⟩; refine ⟨_, rfl, ?_⟩))
  go_ret2
  exact ⟨by first | rfl | simp [*], by repeat (first | exact Drawn0.refl _ | apply Drawn0.step)⟩
def klipperef01_Of.f (a0 : Int) : Option (ByteArray) := (strconv_Itoa.f a0).bind fun a1 => (some a1)
set_option maxHeartbeats 8000000 in
set_option maxRecDepth 100000 in
theorem klipperef01_Of.calls (a0 : Int) (r : ByteArray) (w : World) (hG : GW w) (h : klipperef01_Of.f a0 = some r) :
  Calls Tryz.prog 93 #[.int .i64 a0] w fun e w' => e = .returned (.string r) ∧ Below w.heap.size w w' := by
 have HB := mk0 (Below.refl w.heap.size w)
 have HG := mk0 hG
 clear hG
 have H : ((strconv_Itoa.f a0).bind fun a1 => (some a1)) = some r := h
 clear h
 obtain ⟨a1, A2, H⟩ := bS H
 obtain rfl := Option.some.inj H
 go_enter Tryz.func93, Tryz.ntmps93
 go_wp2_with (first | (refine gc 76 ?_; refine gl 4 Tryz.func76 #[.int .i64 a0] ?_; (with_reducible refine (strconv_Itoa.calls a0 a1 _ ?side1 A2.out).mono ?_); (case side1 => exact GW.below HG.out (aB)); rintro e w3 ⟨rfl, hb⟩; refine ⟨_, rfl, ?_⟩; replace HB := uW hb; (try clear hb); (try clear hb2); (try clear hk); (try clear hi)))
 go_ret
 exact ⟨by first | rfl | (simp [*] <;> rfl), aB⟩
def klipperef01_cut.l0 : Nat → List Int → Option (List Int)
 | 0, _ => none
 | k + 1, x0 => if (x0.length : Int) > 0 then (if 0 ≤ (wrap64 ((x0.length : Int) - 1)) then (if (wrap64 ((x0.length : Int) - 1)) < (x0.length : Int) then (if (rd x0 (wrap64 ((x0.length : Int) - 1))) = 0 then (if (wrap64 ((x0.length : Int) - 1)) ≤ (x0.length : Int) then (klipperef01_cut.l0 k (x0.take ((wrap64 ((x0.length : Int) - 1)) : Int).toNat)) else (none)) else (some x0)) else (none)) else (none)) else (some x0)
def klipperef01_cut.f (k : Nat) (l0 : List Int) : Option (List Int) := klipperef01_cut.l0 k l0
theorem klipperef01_cut.mono_l : ∀ k, (∀ y0, LeO (klipperef01_cut.l0 k y0) (klipperef01_cut.l0 (k + 1) y0))
 | 0 => fun _ r h => by simp [klipperef01_cut.l0] at h
 | k + 1 => by
  have ih0 := klipperef01_cut.mono_l k
  ·
   intro y0
   unfold klipperef01_cut.l0
   repeat' first | (with_reducible first | exact ih0 .. | exact LeO.refl _ | exact LeO.none _ | refine LeO.ite ?_ ?_ | refine LeO.bind ?_ (fun _ => ?_))
theorem klipperef01_cut.mono : ∀ a0 k, LeO (klipperef01_cut.f k a0) (klipperef01_cut.f (k + 1) a0) := by
 intro a0 k
 have ih0 := klipperef01_cut.mono_l k
 unfold klipperef01_cut.f
 repeat' first | (with_reducible first | exact ih0 .. | exact LeO.refl _ | exact LeO.none _ | refine LeO.ite ?_ ?_ | refine LeO.bind ?_ (fun _ => ?_))
set_option maxHeartbeats 8000000 in
set_option maxRecDepth 100000 in
theorem klipperef01_cut.calls (k : Nat) (a9 : Nat → Prop) (A0 : Option Addr) (c0 : Nat) (l0 : List Int) (r : List Int) (w : World) (hs0 : Kd.V (Kd.int .i64) 3 w w.heap.size (fun k_ => a9 k_) (.slice A0 l0.length c0) l0) (h : klipperef01_cut.f k l0 = some r) :
  Calls Tryz.prog 116 #[.slice A0 l0.length c0] w fun e w' => ∃ v0_ : Value, e = .returned (v0_) ∧ Kd.V (Kd.int .i64) 3 w' w.heap.size (fun k_ => (a9 k_ ∨ w.heap.size ≤ k_)) v0_ r ∧ Below w.heap.size w w' := by
 have b9 := mk0 (show Kd.V (Kd.int .i64) 3 w w.heap.size (fun k_ => (a9 k_ ∨ w.heap.size ≤ k_)) (.slice A0 l0.length c0) l0 from Kd.V_mono hs0 (fun k_ hk => .inl hk))
 have HB := mk0 (Below.refl w.heap.size w)
 have H : (klipperef01_cut.l0 k l0) = some r := h
 clear h
 have H' := mk0 H
 clear H
 go_enter Tryz.func116, Tryz.ntmps116
 go_wp2
 go_loopg [0] k (fun kq v0 w' => ∃ (a1 : List Int), Aside0 (klipperef01_cut.l0 kq a1 = some r) ∧ Aside0 (kq ≤ k) ∧ Aside0 (Kd.V (Kd.int .i64) 3 w' w.heap.size (fun k_ => (a9 k_ ∨ w.heap.size ≤ k_)) v0 a1) ∧ Aside0 (Below w.heap.size w w'))
 case atStart => exact ⟨(l0), H', ⟨Nat.le_refl _⟩, ⟨pV b9.out⟩, ⟨aB⟩⟩
 case round =>
  clear H'
  try clear c1
  obtain ⟨a1, HA, HK1, a2, HB⟩ := hrel
  cases gk with
  | zero => exact absurd HA.out (by simp [klipperef01_cut.l0])
  | succ k1 =>
   have H := HA.out
   clear HA
   simp only [klipperef01_cut.l0] at H
   by_cases c2 : (a1.length : Int) > 0
   ·
    rw [if_pos c2] at H
    have b1 : decide (0 < (a1.length : Int)) = true := decide_eq_true c2
    have b2 : decide (0 < a1.length) = true := decide_eq_true (by omega)
    clear c2
    obtain ⟨ji3, hji3⟩ : ∃ j_ : Int, (wrap64 ((a1.length : Int) - 1)) = j_ := ⟨_, rfl⟩
    replace H : (if 0 ≤ (ji3) then (if (ji3) < (a1.length : Int) then (if (rd a1 (ji3)) = 0 then (if (ji3) ≤ (a1.length : Int) then (klipperef01_cut.l0 k1 (a1.take ((ji3) : Int).toNat)) else (none)) else (some a1)) else (none)) else (none)) = some r := by first | (rw [hji3] at H; exact H) | (simp only [hji3] at H ⊢; exact H)
    have hji3w : (IntKind.i64.wrap ((a1.length : Int) - 1)) = ji3 := (i64_w _).trans hji3
    by_cases c4 : 0 ≤ (ji3)
    ·
     rw [if_pos c4] at H
     have c7 : decide (0 ≤ (ji3)) = true := decide_eq_true c4
     clear c4
     by_cases c5 : (ji3) < (a1.length : Int)
     ·
      rw [if_pos c5] at H
      have c9 : decide ((ji3) < (a1.length : Int)) = true := decide_eq_true c5
      clear c5
      by_cases c6 : (rd a1 (ji3)) = 0
      ·
       rw [if_pos c6] at H
       have b3 : ((rd a1 (ji3)) == 0) = true := beq_iff_eq.mpr c6
       have b4 : ((rd a1 (ji3)) != 0) = false := bne_eq_false_iff_eq.mpr c6
       clear c6
       have d0 := eq_true (aD : 0 ≤ (ji3))
       by_cases c8 : (ji3) ≤ (a1.length : Int)
       ·
        rw [if_pos c8] at H
        have d1 := eq_true c8
        have d2 : decide ((ji3) ≤ (a1.length : Int)) = true := decide_eq_true c8
        clear c8
        obtain ⟨a6, hy629⟩ : ∃ y_ : List Int, y_ = (a1.take ((ji3) : Int).toNat) := ⟨_, rfl⟩
        replace H : (klipperef01_cut.l0 k1 a6) = some r := by first | (rw [hy629]; exact H) | (rw [hy629]; exact (Option.bind_some _ _).symm.trans H) | exact (Option.bind_some _ _).symm.trans H
        have Ny629 := mk0 hy629
        clear hy629
        have H' := mk0 H
        clear H
        obtain ⟨d8, b0, d3⟩ := Kd.V_slice a2.out
        subst d3
        have a3 : 0 ≤ ((ji3) : Int) := aD
        have a4 : (ji3) < (a1.length : Int) := aD
        obtain ⟨a5, e628, a7⟩ := Kd.at_int (Kd.V_reads' a2.out).2.2 (ji3) a3 a4
        cases e628
        replace a3 := eq_true a3
        replace a4 := eq_true a4
        have b5 : ((ji3) : Int) ≤ ((a1.length : Int) : Int) := aD
        obtain ⟨i010, hi010, _, hsz10, _⟩ := info_parts info3
        have hroom10 : a1.length ≤ b0 := (Kd.V_reads' a2.out).2.1
        have hC10 : Kd.F (Kd.int .i64) _ _ (some a5) a1.length a1 := (Kd.V_at (base := w.heap.size) a2.out).2.2
        have hcut10 := cut_to (P := Tryz.prog) 35 3 .i64 Tryz.underlying35 hi010 (some a5) a1.length b0 (ji3) (aD) b5 hroom10
        have hr10 := Kd.F_take (m := ((ji3) : Int).toNat) hC10 (by omega)
        have hy10 : a6.length = ((ji3) : Int).toNat := (by rw [Ny629.out, List.length_take]; omega)
        rw [← Ny629.out] at hr10
        rw [← hy10] at hcut10
        have a8 := mk0 (show Kd.V (Kd.int .i64) 3 _ w.heap.size _ (.slice (some a5) a6.length b0) a6 from Kd.V_mk (by omega) hr10)
        have b8 := mk0 (show a6.length ≤ b0 from by omega)
        clear hr10 hC10 hroom10 hi010 hsz10
        have KY10 := mk0 hy10
        clear hy10
        replace b5 := eq_true b5
        go_wp2
        go_roundg k1
        case measure => have := HK1.out; omega
        case rel => exact ⟨(a6), H', ⟨by have := HK1.out; omega⟩, ⟨pV a8.out⟩, ⟨aB⟩⟩
       ·
        rw [if_neg c8] at H
        exact absurd H (by simp)
      ·
       rw [if_neg c6] at H
       have b3 : ((rd a1 (ji3)) == 0) = false := beq_eq_false_iff_ne.mpr c6
       have b4 : ((rd a1 (ji3)) != 0) = true := bne_iff_ne.mpr c6
       obtain rfl := Option.some.inj H
       obtain ⟨d4, d5, b6⟩ := Kd.V_slice a2.out
       subst b6
       have a3 : 0 ≤ ((ji3) : Int) := aD
       have a4 : (ji3) < (a1.length : Int) := aD
       obtain ⟨a5, e628, a7⟩ := Kd.at_int (Kd.V_reads' a2.out).2.2 (ji3) a3 a4
       cases e628
       replace a3 := eq_true a3
       replace a4 := eq_true a4
       go_wp2
       go_ret
       exact ⟨_, by first | rfl | (simp [errW_none, errW_some] <;> rfl) | (simp only [← hji3]; first | rfl | (simp [errW_none, errW_some] <;> rfl)) | (simp [*, errW_none, errW_some] <;> rfl), pV a2.out, aB⟩
     ·
      rw [if_neg c5] at H
      exact absurd H (by simp)
    ·
     rw [if_neg c4] at H
     exact absurd H (by simp)
   ·
    rw [if_neg c2] at H
    have b1 : decide (0 < (a1.length : Int)) = false := decide_eq_false c2
    have b2 : decide (0 < a1.length) = false := decide_eq_false (by omega)
    clear c2
    obtain rfl := Option.some.inj H
    obtain ⟨d6, d7, b7⟩ := Kd.V_slice a2.out
    subst b7
    go_wp2
    go_ret
    exact ⟨_, by first | rfl | (simp [*] <;> rfl), pV a2.out, aB⟩
mutual
def klipperef01_take.l0 : Nat → ByteArray → List Int → Int → Option (List Int)
 | 0, _, _, _ => none
 | k + 1, x0, x3, x4 => if x4 > 0 then (klipperef01_take.l1 k x0 x3 x4 0 (mx 0 (wrap64 (x4 - 4)))) else ((klipperef01_cut.f k x3).bind fun a6 => (some a6))
def klipperef01_take.l1 : Nat → ByteArray → List Int → Int → Int → Int → Option (List Int)
 | 0, _, _, _, _, _ => none
 | k + 1, x0, x3, x4, x5, x6 => if x6 < x4 then (if 0 ≤ x6 then (if x6 < (x0.size : Int) then (klipperef01_take.l1 k x0 x3 x4 (wrap64 ((wrap64 ((wrap64 (10 * x5)) + (wrap64 (bt x0 x6)))) - 48)) (wrap64 (x6 + 1))) else (none)) else (none)) else (if x3.length < 17592186044416 then (klipperef01_take.l0 k x0 (x3 ++ [x5]) (wrap64 (x4 - 4))) else (none))
end
def klipperef01_take.f (k : Nat) (a0 : ByteArray) : Option (List Int) := klipperef01_take.l0 k a0 ([] : List Int) (a0.size : Int)
theorem klipperef01_take.mono_l : ∀ k, (∀ y0 y1 y2, LeO (klipperef01_take.l0 k y0 y1 y2) (klipperef01_take.l0 (k + 1) y0 y1 y2)) ∧ (∀ y0 y1 y2 y3 y4, LeO (klipperef01_take.l1 k y0 y1 y2 y3 y4) (klipperef01_take.l1 (k + 1) y0 y1 y2 y3 y4))
 | 0 => ⟨fun _ _ _ r h => by simp [klipperef01_take.l0] at h, fun _ _ _ _ _ r h => by simp [klipperef01_take.l1] at h⟩
 | k + 1 => by
  obtain ⟨ih0, ih1⟩ := klipperef01_take.mono_l k
  refine ⟨?_, ?_⟩
  ·
   intro y0 y1 y2
   unfold klipperef01_take.l0
   repeat' first | (with_reducible first | exact ih0 .. | exact ih1 .. | exact klipperef01_cut.mono .. | exact LeO.refl _ | exact LeO.none _ | refine LeO.ite ?_ ?_ | refine LeO.bind ?_ (fun _ => ?_))
  ·
   intro y0 y1 y2 y3 y4
   unfold klipperef01_take.l1
   repeat' first | (with_reducible first | exact ih0 .. | exact ih1 .. | exact klipperef01_cut.mono .. | exact LeO.refl _ | exact LeO.none _ | refine LeO.ite ?_ ?_ | refine LeO.bind ?_ (fun _ => ?_))
theorem klipperef01_take.mono : ∀ a0 k, LeO (klipperef01_take.f k a0) (klipperef01_take.f (k + 1) a0) := by
 intro a0 k
 obtain ⟨ih0, ih1⟩ := klipperef01_take.mono_l k
 unfold klipperef01_take.f
 repeat' first | (with_reducible first | exact ih0 .. | exact ih1 .. | exact klipperef01_cut.mono .. | exact LeO.refl _ | exact LeO.none _ | refine LeO.ite ?_ ?_ | refine LeO.bind ?_ (fun _ => ?_))
set_option maxHeartbeats 8000000 in
set_option maxRecDepth 100000 in
theorem klipperef01_take.calls (k : Nat) (a0 : ByteArray) (r : List Int) (w : World) (h : klipperef01_take.f k a0 = some r) :
  Calls Tryz.prog 95 #[.string a0] w fun e w' => ∃ v0_ : Value, e = .returned (v0_) ∧ Kd.V (Kd.int .i64) 3 w' w.heap.size (fun k_ => (w.heap.size ≤ k_)) v0_ r ∧ Below w.heap.size w w' := by
 have HB := mk0 (Below.refl w.heap.size w)
 have H : (klipperef01_take.l0 k a0 ([] : List Int) (a0.size : Int)) = some r := h
 clear h
 have H' := mk0 H
 clear H
 go_enter Tryz.func95, Tryz.ntmps95
 go_wp2
 go_loopg [3, 4] k (fun kq v3 v4 w' => ∃ (a3 : List Int) (a1 : Int), v4 = .int .i64 a1 ∧ Aside0 (klipperef01_take.l0 kq a0 a3 a1 = some r) ∧ Aside0 (kq ≤ k) ∧ Aside0 (Kd.R (Kd.int .i64) 3 w' w.heap.size (fun k_ => (w.heap.size ≤ k_)) v3 a3) ∧ Aside0 (Below w.heap.size w w'))
 case atStart => exact ⟨(([] : List Int)), ((a0.size : Int)), (by first | rfl | simp [*]), H', ⟨Nat.le_refl _⟩, ⟨by first | exact Kd.R_nil _ _ _ _ _ | exact Kd.N_nil _ _ _ _ _ | exact Kd.V_nil _ _ _ _ _ | exact Kd.Q_nil _ _ _ _ _ | exact Kd.S_nil _ _ _ _ _⟩, ⟨aB⟩⟩
 case round =>
  clear H'
  obtain ⟨a3, a1, rfl, HA, HK1, a4, HB⟩ := hrel
  cases gk with
  | zero => exact absurd HA.out (by simp [klipperef01_take.l0])
  | succ k1 =>
   have H := HA.out
   clear HA
   simp only [klipperef01_take.l0] at H
   by_cases c2 : a1 > 0
   ·
    rw [if_pos c2] at H
    have a7 : decide (0 < a1) = true := decide_eq_true c2
    clear c2
    obtain ⟨ji3, hji3⟩ : ∃ j_ : Int, (mx 0 (wrap64 (a1 - 4))) = j_ := ⟨_, rfl⟩
    replace H : (klipperef01_take.l1 k1 a0 a3 a1 0 ji3) = some r := by first | (rw [hji3] at H; exact H) | (simp only [hji3] at H ⊢; exact H)
    have hji3_ : (if 0 < (wrap64 (a1 - 4)) then (wrap64 (a1 - 4)) else 0) = ji3 := hji3
    have H' := mk0 H
    clear H
    go_wp2
    go_loopg [5, 6] k1 (fun kq v5 v6 w' => ∃ (a5 : Int) (a2 : Int), v5 = .int .i64 a5 ∧ v6 = .int .i64 a2 ∧ Aside0 (klipperef01_take.l1 kq a0 a3 a1 a5 a2 = some r) ∧ Aside0 (kq ≤ k1) ∧ Aside0 (Kd.R (Kd.int .i64) 3 w' w.heap.size (fun k_ => (w.heap.size ≤ k_)) u3 a3) ∧ Aside0 (Below w.heap.size w w'))
    case atStart => exact ⟨(0), (ji3), (by first | rfl | simp [*]), (by first | rfl | (simp; done) | (simp only [← hji3] <;> (first | rfl | simp)) | (simp [*]; done)), H', ⟨Nat.le_refl _⟩, ⟨pR a4.out⟩, ⟨aB⟩⟩
    case round =>
     clear H'
     try clear c2
     try clear a7
     try clear p2
     obtain ⟨a5, a2, rfl, rfl, HA, HK2, a4, HB⟩ := hrel
     cases gk with
     | zero => exact absurd HA.out (by simp [klipperef01_take.l1])
     | succ k2 =>
      have H := HA.out
      clear HA
      simp only [klipperef01_take.l1] at H
      by_cases c4 : a2 < a1
      ·
       rw [if_pos c4] at H
       have b3 : decide (a2 < a1) = true := decide_eq_true c4
       clear c4
       by_cases c5 : 0 ≤ a2
       ·
        rw [if_pos c5] at H
        have b7 : decide (0 ≤ a2) = true := decide_eq_true c5
        clear c5
        by_cases c6 : a2 < (a0.size : Int)
        ·
         rw [if_pos c6] at H
         have b8 : decide (a2 < (a0.size : Int)) = true := decide_eq_true c6
         clear c6
         have H' := mk0 H
         clear H
         have p7 : 0 ≤ (a2 : Int) := aD
         have q7 : a2 < (a0.size : Int) := aD
         have hx7 := bt_at a0 a2
         replace p7 := eq_true p7
         replace q7 := eq_true q7
         go_wp2
         go_roundg k2
         case measure => have := HK1.out; have := HK2.out; omega
         case rel => exact ⟨(wrap64 ((wrap64 ((wrap64 (10 * a5)) + (wrap64 (bt a0 a2)))) - 48)), (wrap64 (a2 + 1)), (by first | rfl | simp [*]), (by first | rfl | simp [*]), H', ⟨by have := HK1.out; have := HK2.out; omega⟩, ⟨pR a4.out⟩, ⟨aB⟩⟩
        ·
         rw [if_neg c6] at H
         exact absurd H (by simp)
       ·
        rw [if_neg c5] at H
        exact absurd H (by simp)
      ·
       rw [if_neg c4] at H
       have b3 : decide (a2 < a1) = false := decide_eq_false c4
       clear c4
       by_cases c8 : a3.length < 17592186044416
       ·
        rw [if_pos c8] at H
        have b4 := mk0 c8
        clear c8
        obtain ⟨a8, hy637⟩ : ∃ y_ : List Int, y_ = (a3 ++ [a5]) := ⟨_, rfl⟩
        replace H : (klipperef01_take.l0 k2 a0 a8 (wrap64 (a1 - 4))) = some r := by first | (rw [hy637]; exact H) | (rw [hy637]; exact (Option.bind_some _ _).symm.trans H) | exact (Option.bind_some _ _).symm.trans H
        have Ny637 := mk0 hy637
        clear hy637
        have H' := mk0 H
        clear H
        go_wp2_with (first | ((with_reducible refine gate_builtin (b := .append) (xs := #[.tmp 29, .tmp 31]) rfl ?_); at_builtin; refine Kd.R_append (Kd.int .i64) (w0 := w) w.heap.size rfl (.tmp 29) (.tmp 31) 35 3 (.int .i64 0) 8 rfl Tryz.underlying35 info3 rfl (by decide) (by omega) u3 a3 a5 [.int .i64 a5] (fun k_ => (w.heap.size ≤ k_)) (fun _ => False) rfl rfl ?aP (fun _ hk => hk.elim) ?aF ?aO ?aB ?aS ?aL ?_; (case aP => exact rfl); (case aB => exact (aB)); (case aF => exact (fun k_ hk => (Nat.le_trans (below_size (aB)) hk))); (case aO => exact (pR a4.out)); (case aS => exact (below_size (aB))); (case aL => have := b4.out; omega); intro b9 w9 ho hb hg hat; rw [← Ny637.out] at ho; replace HB := mk0 (hb);have a9 := mk0 (ho);clear a4; clear ho hb hg hat))
        go_roundg k2
        case measure => have := HK1.out; have := HK2.out; omega
        case rel => exact ⟨(a8), (wrap64 (a1 - 4)), (by first | rfl | simp [*]), H', ⟨by have := HK1.out; have := HK2.out; omega⟩, ⟨pR a9.out⟩, ⟨aB⟩⟩
       ·
        rw [if_neg c8] at H
        exact absurd H (by simp)
   ·
    rw [if_neg c2] at H
    have a7 : decide (0 < a1) = false := decide_eq_false c2
    clear c2
    obtain ⟨a6, A10, H⟩ := bS H
    obtain rfl := Option.some.inj H
    obtain ⟨b0, b1, b5⟩ := Kd.R_slice a4.out
    subst b5
    go_wp2_with (first | (refine gc 116 ?_; refine gl 34 Tryz.func116 #[.slice b0 a3.length b1] ?_; (with_reducible refine (klipperef01_cut.calls k1 (fun k_ => some k_ = (.slice b0 a3.length b1 : Value).ownBlock) _ _ a3 a6 _ ?side1 A10.out).mono ?_); (case side1 => exact Kd.R_V (Kd.R_tight rfl (a4.out))); rintro e c9 ⟨c7, rfl, b6, hb⟩; refine ⟨_, rfl, ?_⟩; have b2 := lV (ok' := fun k_ => (w.heap.size ≤ k_)) b6;replace a4 := uR a4 hb;replace HB := uW hb; (try clear hb); (try clear b6)))
    go_ret
    exact ⟨_, by first | rfl | (simp [*] <;> rfl), pV b2.out, aB⟩
end Go.Proofs.YtfhlmmmhcpkjnaaGreatDoor.PCheckerNumbers
