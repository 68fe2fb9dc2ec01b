/- Functions of the program as plain Lean functions, with proved contracts; printed by programs of this session. -/
import Derived.Test.YtbgmfgndldnmcaaGreatDoorPa
namespace Go.Proofs.YtbgmfgndldnmcaaGreatDoor.PCheckerNever
open Go.RowKit Go.Proofs.YtbgmfgndldnmcaaGreatDoorW.PrintWords Go.Proofs.YtbgmfgndldnmcaaGreatDoorW.PrintLast Go.Proofs.YtbgmfgndldnmcaaGreatDoorW.PrintMore Go.Proofs.YtbgmfgndldnmcaaGreatDoorW.Q
attribute [local go_sem] max2_int max_two
set_option linter.unusedVariables false
set_option linter.unusedSimpArgs false
mutual
def checker_Implied.j0 : Nat → List (S33) → Int → List Int → Bool → Option (Bool)
 | 0, _, _, _, _ => none
 | k + 1, x0, x1, x2, x18 => if x18 = true then (some false) else (if 0 ≤ x1 then (if x1 < (x0.length : Int) then (checker_Implied.l0 k x0 x1 ((rd_T33 x0 x1).f2) x2 (x2.length : Int) 0) else (none)) else (none))
def checker_Implied.l0 : Nat → List (S33) → Int → ByteArray → List Int → Int → Int → Option (Bool)
 | 0, _, _, _, _, _, _ => none
 | k + 1, x0, x1, x7, x24, x25, x26 => if x26 < x25 then (if 0 ≤ x26 then (if x26 < (x24.length : Int) then ((checker_arc.f x0 (rd x24 x26)).bind fun d1 => (if d1 = true then (if (rd x24 x26) = x1 then (some false) else (if 0 ≤ (rd x24 x26) then (if (rd x24 x26) < (x0.length : Int) then (if ((rd_T33 x0 (rd x24 x26)).f2).toList = x7.toList then (checker_Implied.l0 k x0 x1 ((rd_T33 x0 (rd x24 x26)).f1) x24 x25 (wrap64 (x26 + 1))) else (some false)) else (none)) else (none))) else (some false))) else (none)) else (none)) else (if 0 ≤ x1 then (if x1 < (x0.length : Int) then (some (x7.toList == ((rd_T33 x0 x1).f1).toList)) else (none)) else (none))
end
def checker_Implied.f (k : Nat) (l0 : List (S33)) (a1 : Int) (l2 : List Int) : Option (Bool) := (checker_arc.f l0 a1).bind fun b2 => (if b2 = true then (checker_Implied.j0 k l0 a1 l2 ((l2.length : Int) == 0)) else (checker_Implied.j0 k l0 a1 l2 true))
theorem checker_Implied.mono_l : ∀ k, (∀ y0 y1 y2 y3, LeO (checker_Implied.j0 k y0 y1 y2 y3) (checker_Implied.j0 (k + 1) y0 y1 y2 y3)) ∧ (∀ y0 y1 y2 y3 y4 y5, LeO (checker_Implied.l0 k y0 y1 y2 y3 y4 y5) (checker_Implied.l0 (k + 1) y0 y1 y2 y3 y4 y5))
 | 0 => ⟨fun _ _ _ _ r h => by simp [checker_Implied.j0] at h, fun _ _ _ _ _ _ r h => by simp [checker_Implied.l0] at h⟩
 | k + 1 => by
  obtain ⟨ih0, ih1⟩ := checker_Implied.mono_l k
  refine ⟨?_, ?_⟩
  ·
   intro y0 y1 y2 y3
   unfold checker_Implied.j0
   repeat' first | (with_reducible first | exact ih0 .. | exact ih1 .. | exact LeO.refl _ | exact LeO.none _ | refine LeO.ite ?_ ?_ | refine LeO.bind ?_ (fun _ => ?_))
  ·
   intro y0 y1 y2 y3 y4 y5
   unfold checker_Implied.l0
   repeat' first | (with_reducible first | exact ih0 .. | exact ih1 .. | exact LeO.refl _ | exact LeO.none _ | refine LeO.ite ?_ ?_ | refine LeO.bind ?_ (fun _ => ?_))
theorem checker_Implied.mono : ∀ a0 a1 a2 k, LeO (checker_Implied.f k a0 a1 a2) (checker_Implied.f (k + 1) a0 a1 a2) := by
 intro a0 a1 a2 k
 obtain ⟨ih0, ih1⟩ := checker_Implied.mono_l k
 unfold checker_Implied.f
 repeat' first | (with_reducible first | exact ih0 .. | exact ih1 .. | exact LeO.refl _ | exact LeO.none _ | refine LeO.ite ?_ ?_ | refine LeO.bind ?_ (fun _ => ?_))
set_option maxHeartbeats 8000000 in
set_option maxRecDepth 100000 in
theorem checker_Implied.calls (k : Nat) (A0 : Option Addr) (c0 : Nat) (l0 : List (S33)) (a1 : Int) (A2 : Option Addr) (c2 : Nat) (l2 : List Int) (r : Bool) (w : World) (hr0 : Kd.C k33 w A0 l0.length l0) (hc0 : l0.length ≤ c0) (hr2 : Kd.C (Kd.int .i64) w A2 l2.length l2) (hc2 : l2.length ≤ c2) (h : checker_Implied.f k l0 a1 l2 = some r) :
  Calls Tryz.prog 10 #[.slice A0 l0.length c0, .int .i64 a1, .slice A2 l2.length c2] w fun e w' => e = .returned (.bool r) ∧ Drawn0 w w' := by
 have HR0 := mk0 hr0
 have d8 := mk0 hc0
 clear hr0 hc0
 have HR2 := mk0 hr2
 have i5 := mk0 hc2
 clear hr2 hc2
 have H : ((checker_arc.f l0 a1).bind fun b2 => (if b2 = true then (checker_Implied.j0 k l0 a1 l2 ((l2.length : Int) == 0)) else (checker_Implied.j0 k l0 a1 l2 true))) = some r := h
 clear h
 have g3 := mk0 H
 clear H
 go_enter Tryz.func10, Tryz.ntmps10
 go_upto_region 1 with (fail)
 go_cut [18] (fun i3 wc => ∃ (kq : Nat) (b1 : Bool), i3 = .bool b1 ∧ Aside0 (checker_Implied.j0 kq l0 a1 l2 b1 = some r) ∧ Aside0 (kq ≤ k) ∧ Drawn0 w wc)
 case first =>
  have H := g3.out
  clear g3
  obtain ⟨b2, A5, H⟩ := bS H
  by_cases c6 : b2 = true
  ·
   subst c6
   have H1 : (checker_Implied.j0 k l0 a1 l2 ((l2.length : Int) == 0)) = some r := by rw [if_pos rfl] at H; exact H
   clear H
   have H := H1
   clear H1
   have H' := mk0 H
   clear H
   go_wp2_with (first | (refine gc 14 ?_; refine gl 12 Tryz.func14 #[.slice A0 l0.length c0, .int .i64 a1] ?_; (with_reducible refine (checker_arc.calls _ _ l0 a1 true _ ?side1 ?side2 A5.out).mono ?_); (case side1 => exact pC HR0.out); (case side2 => exact d8.out); rintro e w' ⟨rfl, ⟨nd, rfl⟩⟩; refine ⟨_, rfl, ?_⟩))
   go_meet
   case rel => exact ⟨_, (((l2.length : Int) == 0)), (by first | rfl | simp [*]), H', ⟨by omega⟩, by repeat (first | exact Drawn0.refl _ | apply Drawn0.step)⟩
  ·
   replace c6 := Bool.eq_false_iff.mpr c6
   subst c6
   have H1 : (checker_Implied.j0 k l0 a1 l2 true) = some r := by rw [if_neg (show ¬ (false = true) by decide)] at H; exact H
   clear H
   have H := H1
   clear H1
   have H' := mk0 H
   clear H
   go_wp2_with (first | (refine gc 14 ?_; refine gl 12 Tryz.func14 #[.slice A0 l0.length c0, .int .i64 a1] ?_; (with_reducible refine (checker_arc.calls _ _ l0 a1 false _ ?side1 ?side2 A5.out).mono ?_); (case side1 => exact pC HR0.out); (case side2 => exact d8.out); rintro e w' ⟨rfl, ⟨nd, rfl⟩⟩; refine ⟨_, rfl, ?_⟩))
   go_meet
   case rel => exact ⟨_, (true), (by first | rfl | simp [*]), H', ⟨by omega⟩, by repeat (first | exact Drawn0.refl _ | apply Drawn0.step)⟩
 case rest =>
  clear g3
  try clear c1
  try clear c2
  try clear p2
  try clear c6
  obtain ⟨kq, b1, rfl, HA, HJ3, ⟨mc3, rfl⟩⟩ := hcut
  cases kq with
  | zero => exact absurd HA.out (by simp [checker_Implied.j0])
  | succ kj3 =>
   have H := HA.out
   clear HA
   simp only [checker_Implied.j0] at H
   by_cases c7 : b1 = true
   ·
    subst c7
    have H1 : (some false) = some r := by rw [if_pos rfl] at H; exact H
    clear H
    have H := H1
    clear H1
    obtain rfl := Option.some.inj H
    go_wp2
    go_ret
    exact ⟨by first | rfl | simp [*], by repeat (first | exact Drawn0.refl _ | apply Drawn0.step)⟩
   ·
    replace c7 := Bool.eq_false_iff.mpr c7
    subst c7
    have H1 : (if 0 ≤ a1 then (if a1 < (l0.length : Int) then (checker_Implied.l0 kj3 l0 a1 ((rd_T33 l0 a1).f2) l2 (l2.length : Int) 0) else (none)) else (none)) = some r := by rw [if_neg (show ¬ (false = true) by decide)] at H; exact H
    clear H
    have H := H1
    clear H1
    by_cases c8 : 0 ≤ a1
    ·
     rw [if_pos c8] at H
     have g4 : decide (0 ≤ a1) = true := decide_eq_true c8
     clear c8
     by_cases c9 : a1 < (l0.length : Int)
     ·
      rw [if_pos c9] at H
      have g5 : decide (a1 < (l0.length : Int)) = true := decide_eq_true c9
      clear c9
      have H' := mk0 H
      clear H
      have b5 : 0 ≤ (a1 : Int) := aD
      have b6 : a1 < (l0.length : Int) := aD
      obtain ⟨a6, e261, b7, b8, b9⟩ := at_T33 HR0.out a1 b5 b6
      cases e261
      replace b5 := eq_true b5
      replace b6 := eq_true b6
      go_wp2
      go_loopg [7, 26] kj3 (fun kq v7 i4 w' => ∃ (a7 : ByteArray) (a3 : Int), v7 = .string a7 ∧ i4 = .int .i64 a3 ∧ Aside0 (checker_Implied.l0 kq l0 a1 a7 l2 (l2.length : Int) a3 = some r) ∧ Aside0 (kq ≤ kj3) ∧ Drawn0 w w')
      case atStart => exact ⟨((rd_T33 l0 a1).f2), (0), (by first | rfl | simp [*]), (by first | rfl | simp [*]), H', ⟨Nat.le_refl _⟩, by repeat (first | exact Drawn0.refl _ | apply Drawn0.step)⟩
      case round =>
       clear H'
       try clear c1
       try clear c2
       try clear p2
       try clear q2
       try clear hx2
       try clear c3
       try clear c6
       try clear c7
       try clear c8
       try clear g4
       try clear c9
       try clear g5
       try clear b7
       try clear b8
       try clear b9
       try clear p2
       try clear b5
       try clear b6
       obtain ⟨a7, a3, rfl, rfl, HA, HK2, ⟨m2, rfl⟩⟩ := hrel
       cases gk with
       | zero => exact absurd HA.out (by simp [checker_Implied.l0])
       | succ k2 =>
        have H := HA.out
        clear HA
        simp only [checker_Implied.l0] at H
        by_cases d9 : a3 < (l2.length : Int)
        ·
         rw [if_pos d9] at H
         have e1 : decide (a3 < (l2.length : Int)) = true := decide_eq_true d9
         clear d9
         by_cases e8 : 0 ≤ a3
         ·
          rw [if_pos e8] at H
          have g6 : decide (0 ≤ a3) = true := decide_eq_true e8
          clear e8
          by_cases e9 : a3 < (l2.length : Int)
          ·
           rw [if_pos e9] at H
           have g7 : decide (a3 < (l2.length : Int)) = true := decide_eq_true e9
           clear e9
           obtain ⟨d1, A13, H⟩ := bS H
           by_cases f0 : d1 = true
           ·
            subst f0
            have H1 : (if (rd l2 a3) = a1 then (some false) else (if 0 ≤ (rd l2 a3) then (if (rd l2 a3) < (l0.length : Int) then (if ((rd_T33 l0 (rd l2 a3)).f2).toList = a7.toList then (checker_Implied.l0 k2 l0 a1 ((rd_T33 l0 (rd l2 a3)).f1) l2 (l2.length : Int) (wrap64 (a3 + 1))) else (some false)) else (none)) else (none))) = some r := by rw [if_pos rfl] at H; exact H
            clear H
            have H := H1
            clear H1
            by_cases d2 : (rd l2 a3) = a1
            ·
             rw [if_pos d2] at H
             have e2 : ((rd l2 a3) == a1) = true := beq_iff_eq.mpr d2
             have e3 : ((rd l2 a3) != a1) = false := bne_eq_false_iff_eq.mpr d2
             clear d2
             obtain rfl := Option.some.inj H
             have a4 : 0 ≤ (a3 : Int) := aD
             have a5 : a3 < (l2.length : Int) := aD
             obtain ⟨b3, e262, a8⟩ := Kd.at_int HR2.out a3 a4 a5
             cases e262
             replace a4 := eq_true a4
             replace a5 := eq_true a5
             go_wp2_with (first | (refine gc 14 ?_; refine gl 32 Tryz.func14 #[.slice (some a6) l0.length c0, .int .i64 (rd l2 a3)] ?_; (with_reducible refine (checker_arc.calls _ _ l0 (rd l2 a3) true _ ?side1 ?side2 A13.out).mono ?_); (case side1 => exact pC HR0.out); (case side2 => exact d8.out); rintro e w' ⟨rfl, ⟨nd, rfl⟩⟩; refine ⟨_, rfl, ?_⟩))
             go_ret
             exact ⟨by first | rfl | simp [*], by repeat (first | exact Drawn0.refl _ | apply Drawn0.step)⟩
            ·
             rw [if_neg d2] at H
             have e2 : ((rd l2 a3) == a1) = false := beq_eq_false_iff_ne.mpr d2
             have e3 : ((rd l2 a3) != a1) = true := bne_iff_ne.mpr d2
             by_cases f3 : 0 ≤ (rd l2 a3)
             ·
              rw [if_pos f3] at H
              have g8 : decide (0 ≤ (rd l2 a3)) = true := decide_eq_true f3
              clear f3
              by_cases f4 : (rd l2 a3) < (l0.length : Int)
              ·
               rw [if_pos f4] at H
               have g9 : decide ((rd l2 a3) < (l0.length : Int)) = true := decide_eq_true f4
               clear f4
               by_cases d3 : ((rd_T33 l0 (rd l2 a3)).f2).toList = a7.toList
               ·
                rw [if_pos d3] at H
                have e4 : (((rd_T33 l0 (rd l2 a3)).f2).toList == a7.toList) = true := beq_iff_eq.mpr d3
                have e5 : (((rd_T33 l0 (rd l2 a3)).f2).toList != a7.toList) = false := bne_eq_false_iff_eq.mpr d3
                clear d3
                have H' := mk0 H
                clear H
                have a4 : 0 ≤ (a3 : Int) := aD
                have a5 : a3 < (l2.length : Int) := aD
                obtain ⟨b3, e262, a8⟩ := Kd.at_int HR2.out a3 a4 a5
                cases e262
                replace a4 := eq_true a4
                replace a5 := eq_true a5
                go_wp2_with (first | (refine gc 14 ?_; refine gl 32 Tryz.func14 #[.slice (some a6) l0.length c0, .int .i64 (rd l2 a3)] ?_; (with_reducible refine (checker_arc.calls _ _ l0 (rd l2 a3) true _ ?side1 ?side2 A13.out).mono ?_); (case side1 => exact pC HR0.out); (case side2 => exact d8.out); rintro e w' ⟨rfl, ⟨nd, rfl⟩⟩; refine ⟨_, rfl, ?_⟩; have a9 : 0 ≤ ((rd l2 a3) : Int) := aD; have b0 : (rd l2 a3) < (l0.length : Int) := aD; obtain ⟨b4, e264, c4, c5, d0⟩ := at_T33 HR0.out (rd l2 a3) a9 b0; obtain rfl : a6 = b4 := (by injection e264); replace a9 := eq_true a9; replace b0 := eq_true b0; have d4 : 0 ≤ ((rd l2 a3) : Int) := aD; have d5 : (rd l2 a3) < (l0.length : Int) := aD; obtain ⟨e6, e265, f5, f6, f7⟩ := at_T33 HR0.out (rd l2 a3) d4 d5; obtain rfl : a6 = e6 := (by injection e265); replace d4 := eq_true d4; replace d5 := eq_true d5))
                go_roundg k2
                case measure => have := HJ3.out; have := HK2.out; omega
                case rel => exact ⟨((rd_T33 l0 (rd l2 a3)).f1), (wrap64 (a3 + 1)), (by first | rfl | simp [*]), (by first | rfl | simp [*]), H', ⟨by have := HJ3.out; have := HK2.out; omega⟩, by repeat (first | exact Drawn0.refl _ | apply Drawn0.step)⟩
               ·
                rw [if_neg d3] at H
                have e4 : (((rd_T33 l0 (rd l2 a3)).f2).toList == a7.toList) = false := beq_eq_false_iff_ne.mpr d3
                have e5 : (((rd_T33 l0 (rd l2 a3)).f2).toList != a7.toList) = true := bne_iff_ne.mpr d3
                obtain rfl := Option.some.inj H
                have a4 : 0 ≤ (a3 : Int) := aD
                have a5 : a3 < (l2.length : Int) := aD
                obtain ⟨b3, e262, a8⟩ := Kd.at_int HR2.out a3 a4 a5
                cases e262
                replace a4 := eq_true a4
                replace a5 := eq_true a5
                go_wp2_with (first | (refine gc 14 ?_; refine gl 32 Tryz.func14 #[.slice (some a6) l0.length c0, .int .i64 (rd l2 a3)] ?_; (with_reducible refine (checker_arc.calls _ _ l0 (rd l2 a3) true _ ?side1 ?side2 A13.out).mono ?_); (case side1 => exact pC HR0.out); (case side2 => exact d8.out); rintro e w' ⟨rfl, ⟨nd, rfl⟩⟩; refine ⟨_, rfl, ?_⟩; have a9 : 0 ≤ ((rd l2 a3) : Int) := aD; have b0 : (rd l2 a3) < (l0.length : Int) := aD; obtain ⟨b4, e264, c4, c5, d0⟩ := at_T33 HR0.out (rd l2 a3) a9 b0; obtain rfl : a6 = b4 := (by injection e264); replace a9 := eq_true a9; replace b0 := eq_true b0))
                go_ret
                exact ⟨by first | rfl | simp [*], by repeat (first | exact Drawn0.refl _ | apply Drawn0.step)⟩
              ·
               rw [if_neg f4] at H
               exact absurd H (by simp)
             ·
              rw [if_neg f3] at H
              exact absurd H (by simp)
           ·
            replace f0 := Bool.eq_false_iff.mpr f0
            subst f0
            have H1 : (some false) = some r := by rw [if_neg (show ¬ (false = true) by decide)] at H; exact H
            clear H
            have H := H1
            clear H1
            obtain rfl := Option.some.inj H
            have a4 : 0 ≤ (a3 : Int) := aD
            have a5 : a3 < (l2.length : Int) := aD
            obtain ⟨b3, e262, a8⟩ := Kd.at_int HR2.out a3 a4 a5
            cases e262
            replace a4 := eq_true a4
            replace a5 := eq_true a5
            go_wp2_with (first | (refine gc 14 ?_; refine gl 32 Tryz.func14 #[.slice (some a6) l0.length c0, .int .i64 (rd l2 a3)] ?_; (with_reducible refine (checker_arc.calls _ _ l0 (rd l2 a3) false _ ?side1 ?side2 A13.out).mono ?_); (case side1 => exact pC HR0.out); (case side2 => exact d8.out); rintro e w' ⟨rfl, ⟨nd, rfl⟩⟩; refine ⟨_, rfl, ?_⟩))
            go_ret
            exact ⟨by first | rfl | simp [*], by repeat (first | exact Drawn0.refl _ | apply Drawn0.step)⟩
          ·
           rw [if_neg e9] at H
           exact absurd H (by simp)
         ·
          rw [if_neg e8] at H
          exact absurd H (by simp)
        ·
         rw [if_neg d9] at H
         have e1 : decide (a3 < (l2.length : Int)) = false := decide_eq_false d9
         clear d9
         by_cases f8 : 0 ≤ a1
         ·
          rw [if_pos f8] at H
          have i1 : decide (0 ≤ a1) = true := decide_eq_true f8
          clear f8
          by_cases f9 : a1 < (l0.length : Int)
          ·
           rw [if_pos f9] at H
           have i2 : decide (a1 < (l0.length : Int)) = true := decide_eq_true f9
           clear f9
           obtain rfl := Option.some.inj H
           have d6 : 0 ≤ (a1 : Int) := aD
           have d7 : a1 < (l0.length : Int) := aD
           obtain ⟨e7, e266, g0, g1, g2⟩ := at_T33 HR0.out a1 d6 d7
           obtain rfl : a6 = e7 := (by injection e266)
           replace d6 := eq_true d6
           replace d7 := eq_true d7
           go_wp2
           go_ret
           exact ⟨by first | rfl | simp [*], by repeat (first | exact Drawn0.refl _ | apply Drawn0.step)⟩
          ·
           rw [if_neg f9] at H
           exact absurd H (by simp)
         ·
          rw [if_neg f8] at H
          exact absurd H (by simp)
     ·
      rw [if_neg c9] at H
      exact absurd H (by simp)
    ·
     rw [if_neg c8] at H
     exact absurd H (by simp)
def checker_readAll.l0 : Nat → List (S61) → List ByteArray → Int → Int → Option ((List (S61)) × Bool)
 | 0, _, _, _, _ => none
 | k + 1, x4, x9, x10, x11 => if x11 < x10 then (if 0 ≤ x11 then (if x11 < (x9.length : Int) then ((checker_read.f k (rdOf ByteArray.empty x9 x11)).bind fun b4 => (if b4.2.2.2 = true then (if x4.length < 2513169434916 then (checker_readAll.l0 k (x4 ++ [(⟨b4.1, b4.2.1, b4.2.2.1⟩ : S61)]) x9 x10 (wrap64 (x11 + 1))) else (none)) else (some (([] : List (S61)), false)))) else (none)) else (none)) else (some (x4, true))
def checker_readAll.f (k : Nat) (l0 : List ByteArray) : Option ((List (S61)) × Bool) := checker_readAll.l0 k ([] : List (S61)) l0 (l0.length : Int) 0
theorem checker_readAll.mono_l : ∀ k, (∀ y0 y1 y2 y3, LeO (checker_readAll.l0 k y0 y1 y2 y3) (checker_readAll.l0 (k + 1) y0 y1 y2 y3))
 | 0 => fun _ _ _ _ r h => by simp [checker_readAll.l0] at h
 | k + 1 => by
  have ih0 := checker_readAll.mono_l k
  ·
   intro y0 y1 y2 y3
   unfold checker_readAll.l0
   repeat' first | (with_reducible first | exact ih0 .. | exact checker_read.mono .. | exact LeO.refl _ | exact LeO.none _ | refine LeO.ite ?_ ?_ | refine LeO.bind ?_ (fun _ => ?_))
theorem checker_readAll.mono : ∀ a0 k, LeO (checker_readAll.f k a0) (checker_readAll.f (k + 1) a0) := by
 intro a0 k
 have ih0 := checker_readAll.mono_l k
 unfold checker_readAll.f
 repeat' first | (with_reducible first | exact ih0 .. | exact checker_read.mono .. | exact LeO.refl _ | exact LeO.none _ | refine LeO.ite ?_ ?_ | refine LeO.bind ?_ (fun _ => ?_))
set_option maxHeartbeats 8000000 in
set_option maxRecDepth 100000 in
theorem checker_readAll.calls (k : Nat) (A0 : Option Addr) (c0 : Nat) (l0 : List ByteArray) (r1 : List (S61)) (r2 : Bool) (w : World) (hr0 : Kd.C Kd.string w A0 l0.length l0) (hc0 : l0.length ≤ c0) (h : checker_readAll.f k l0 = some (r1, r2)) :
  Calls Tryz.prog 18 #[.slice A0 l0.length c0] w fun e w' => ∃ v0_ : Value, e = .returned (.tuple #[v0_, .bool r2]) ∧ Kd.N k61 61 w' w.heap.size (fun k_ => (w.heap.size ≤ k_)) v0_ r1 ∧ Below w.heap.size w w' := by
 have hu61 := Tryz.underlying61
 have HR0 := mk0 hr0
 have i2 := mk0 hc0
 clear hr0 hc0
 have HB := mk0 (Below.refl w.heap.size w)
 have H : (checker_readAll.l0 k ([] : List (S61)) l0 (l0.length : Int) 0) = some (r1, r2) := h
 clear h
 have H' := mk0 H
 clear H
 go_enter Tryz.func18, Tryz.ntmps18
 go_wp2
 go_loopg [4, 11] k (fun kq v4 g3 w' => ∃ (b1 : List (S61)) (a1 : Int), g3 = .int .i64 a1 ∧ Aside0 (checker_readAll.l0 kq b1 l0 (l0.length : Int) a1 = some (r1, r2)) ∧ Aside0 (kq ≤ k) ∧ Aside0 (Kd.N k61 61 w' w.heap.size (fun k_ => (w.heap.size ≤ k_)) v4 b1) ∧ Aside0 (Below w.heap.size w w'))
 case atStart => exact ⟨(([] : List (S61))), (0), (by first | rfl | simp [*]), H', ⟨Nat.le_refl _⟩, ⟨by first | exact Kd.S_nil _ _ _ _ _ | exact Kd.N_nil _ _ _ _ _ | exact Kd.V_nil _ _ _ _ _ | exact Kd.Q_nil _ _ _ _ _ | exact Kd.R_nil _ _ _ _ _⟩, ⟨aB⟩⟩
 case round =>
  clear H'
  try clear c1
  obtain ⟨b1, a1, rfl, HA, HK1, a7, HB⟩ := hrel
  cases gk with
  | zero => exact absurd HA.out (by simp [checker_readAll.l0])
  | succ k1 =>
   have H := HA.out
   clear HA
   simp only [checker_readAll.l0] at H
   by_cases c2 : a1 < (l0.length : Int)
   ·
    rw [if_pos c2] at H
    have f3 : decide (a1 < (l0.length : Int)) = true := decide_eq_true c2
    clear c2
    by_cases c3 : 0 ≤ a1
    ·
     rw [if_pos c3] at H
     have g4 : decide (0 ≤ a1) = true := decide_eq_true c3
     clear c3
     by_cases c4 : a1 < (l0.length : Int)
     ·
      rw [if_pos c4] at H
      have g5 : decide (a1 < (l0.length : Int)) = true := decide_eq_true c4
      clear c4
      obtain ⟨⟨b0, a8, a9, f4⟩, A5, H⟩ := bS H
      (try dsimp only at H)
      by_cases c6 : f4 = true
      ·
       subst c6
       have H1 : (if b1.length < 2513169434916 then (checker_readAll.l0 k1 (b1 ++ [(⟨b0, a8, a9⟩ : S61)]) l0 (l0.length : Int) (wrap64 (a1 + 1))) else (none)) = some (r1, r2) := by rw [if_pos rfl] at H; exact H
       clear H
       have H := H1
       clear H1
       by_cases c7 : b1.length < 2513169434916
       ·
        rw [if_pos c7] at H
        have f5 := mk0 c7
        clear c7
        obtain ⟨b9, hy277⟩ : ∃ y_ : List (S61), y_ = (b1 ++ [(⟨b0, a8, a9⟩ : S61)]) := ⟨_, rfl⟩
        replace H : (checker_readAll.l0 k1 b9 l0 (l0.length : Int) (wrap64 (a1 + 1))) = some (r1, r2) := by first | (rw [hy277]; exact H) | (rw [hy277]; exact (Option.bind_some _ _).symm.trans H) | exact (Option.bind_some _ _).symm.trans H
        have Ny277 := mk0 hy277
        clear hy277
        have H' := mk0 H
        clear H
        have b2 : 0 ≤ (a1 : Int) := aD
        have b3 : a1 < (l0.length : Int) := aD
        obtain ⟨c5, e267, a6⟩ := Kd.at_string HR0.out a1 b2 b3
        cases e267
        replace a6 := (HB.out.cell (World.block_lt_of_cell? w _ a6)).trans a6
        replace b2 := eq_true b2
        replace b3 := eq_true b3
        go_wp2_with (first | (refine gc 17 ?_; refine gl 17 Tryz.func17 #[.string (rdOf ByteArray.empty l0 a1)] ?_; (with_reducible refine (checker_read.calls k1 (rdOf ByteArray.empty l0 a1) b0 a8 a9 true _ A5.out).mono ?_); rintro e w8 ⟨f6, f7, rfl, c8, c9, hb⟩; refine ⟨_, rfl, ?_⟩; have a4 := lV (ok' := fun k_ => (w.heap.size ≤ k_) ∧ some k_ ≠ (u4 : Value).ownBlock) c8;have a5 := lV (ok' := fun k_ => (w.heap.size ≤ k_) ∧ some k_ ≠ (u4 : Value).ownBlock) c9;replace a7 := uN a7 hb;replace HB := uW hb; (try clear hb); (try clear c8); (try clear c9)) | (refine gd 7 ?_; refine box_event ?hg (N := 7) ?hd (cs := #[.bool false, .slice none 0 0, .slice none 0 0]) (t := 61) ?hr ?_; (case hd => rfl); (case hg => rfl); (case hr => exact aH); intro a2 hg w9 hbox hb; replace a7 := eN a7 hg hb;replace a4 := eV a4 hg hb;replace a5 := eV a5 hg hb;have a3 := mk0 (hbox);have d0 := uG hg;have d1 := uG hg;replace HB := uW hb; clear hb hbox hg; have d4 : w9.cell? ⟨a2, 0, none⟩ = some (.bool false) := (blk_cell a3.out 0).trans rfl; have d5 : w9.cell? ⟨a2, 1, none⟩ = some (.slice none 0 0) := (blk_cell a3.out 1).trans rfl; have d6 : w9.cell? ⟨a2, 2, none⟩ = some (.slice none 0 0) := (blk_cell a3.out 2).trans rfl; have d7 := blk_frozen a3.out 0; have d8 := blk_frozen a3.out 1; have d9 := blk_frozen a3.out 2; obtain ⟨b5, b6, f8⟩ := Kd.V_slice a4.out; subst f8; obtain ⟨b7, b8, f9⟩ := Kd.V_slice a5.out; subst f9) | ((with_reducible refine gate_store (t := 61) (p := 7) rfl ?_); refine store_event (t := 61) (p := 7) (v := ?vo_w13) (w1 := (((w9.setCell ⟨a2, 0, none⟩ (.bool b0)).setCell ⟨a2, 1, none⟩ (.slice b5 a8.length b6)).setCell ⟨a2, 2, none⟩ (.slice b7 a9.length b8))) ?hg ?ho ?hn ?hr ?_; (case ho => rfl); (case hg => rfl); (case hn => rfl); (case hr => exact aH); intro d2 hw; replace a7 : Aside0 (Kd.N k61 61 d2 w.heap.size (fun k_ => (w.heap.size ≤ k_) ∧ k_ ≠ a2) u4 b1) := ⟨(by rw [hw]; exact (sN a7.out))⟩;replace a4 : Aside0 (Kd.V (Kd.int .u32) 107 d2 w.heap.size (fun k_ => (w.heap.size ≤ k_) ∧ some k_ ≠ (u4 : Value).ownBlock ∧ k_ ≠ a2) (.slice b5 a8.length b6) a8) := ⟨(by rw [hw]; exact (sV a4.out))⟩;replace a5 : Aside0 (Kd.V (Kd.int .u32) 107 d2 w.heap.size (fun k_ => (w.heap.size ≤ k_) ∧ some k_ ≠ (u4 : Value).ownBlock ∧ k_ ≠ a2) (.slice b7 a9.length b8) a9) := ⟨(by rw [hw]; exact (sV a5.out))⟩;replace a3 : Aside0 (d2.heap[a2]? = some (.cells #[.bool b0, .slice b5 a8.length b6, .slice b7 a9.length b8] 61 (0, 0))) := ⟨(by rw [hw]; exact sB)⟩;replace HB : Aside0 (Below w.heap.size w d2) := ⟨(by rw [hw]; exact (aB))⟩;clear hw; have e1 := cZ a3 0; have e2 := cZ a3 1; have e3 := cZ a3 2; have e4 := blk_frozen a3.out 0; have e5 := blk_frozen a3.out 1; have e6 := blk_frozen a3.out 2) | ((with_reducible refine gate_builtin (b := .append) (xs := #[.tmp 22, .tmp 24]) rfl ?_); at_builtin; refine Kd.N_append k61 (w0 := w) w.heap.size rfl (.tmp 22) (.tmp 24) 64 61 (.agg #[(.bool false), (.slice none 0 0), (.slice none 0 0)]) 56 rfl Tryz.underlying64 info61 rfl (by decide) (by omega) u4 b1 (⟨b0, a8, a9⟩ : S61) [.bool b0, .slice b5 a8.length b6, .slice b7 a9.length b8] (fun k_ => (w.heap.size ≤ k_) ∧ k_ ≠ a2) (fun k_ => ((fun k_ => (w.heap.size ≤ k_) ∧ k_ ≠ a2)) k_ ∧ some k_ ≠ (u4 : Value).ownBlock) rfl rfl ?aP (fun _ hk => hk) ?aF ?aO ?aB ?aS ?aL ?_; (case aP => exact (k61_mkF _ _ (⟨b0, a8, a9⟩ : S61) (Kd.V_reads' (Kd.V_mono (ok' := (fun k_ => ((fun k_ => (w.heap.size ≤ k_) ∧ k_ ≠ a2)) k_ ∧ some k_ ≠ (u4 : Value).ownBlock)) (a4.out) (fun k_ hk => ⟨⟨hk.1, hk.2.2⟩, hk.2.1⟩))).2.1 (Kd.V_F (Kd.V_mono (ok' := (fun k_ => ((fun k_ => (w.heap.size ≤ k_) ∧ k_ ≠ a2)) k_ ∧ some k_ ≠ (u4 : Value).ownBlock)) (a4.out) (fun k_ hk => ⟨⟨hk.1, hk.2.2⟩, hk.2.1⟩))) (Kd.V_reads' (Kd.V_mono (ok' := (fun k_ => ((fun k_ => (w.heap.size ≤ k_) ∧ k_ ≠ a2)) k_ ∧ some k_ ≠ (u4 : Value).ownBlock)) (a5.out) (fun k_ hk => ⟨⟨hk.1, hk.2.2⟩, hk.2.1⟩))).2.1 (Kd.V_F (Kd.V_mono (ok' := (fun k_ => ((fun k_ => (w.heap.size ≤ k_) ∧ k_ ≠ a2)) k_ ∧ some k_ ≠ (u4 : Value).ownBlock)) (a5.out) (fun k_ hk => ⟨⟨hk.1, hk.2.2⟩, hk.2.1⟩))))); (case aB => exact (aB)); (case aF => exact (fun k_ hk => ⟨(Nat.le_trans (below_size (aB)) hk), Kd.freshB (g := a2) (o := .cells #[.bool b0, .slice b5 a8.length b6, .slice b7 a9.length b8] 61 (0, 0)) (pB a3.out) k_ hk⟩)); (case aO => exact (pN a7.out)); (case aS => exact (below_size (aB))); (case aL => have := f5.out; omega); intro g6 i3 ho hb hg hat; rw [← Ny277.out] at ho; replace a4 := mk0 (Kd.V_afterv (ok := (fun k_ => (w.heap.size ≤ k_) ∧ k_ ≠ a2)) (sV a4.out) hg hat);replace a5 := mk0 (Kd.V_afterv (ok := (fun k_ => (w.heap.size ≤ k_) ∧ k_ ≠ a2)) (sV a5.out) hg hat);replace a3 := gB a3 hg (Kd.N_away a7.out (fun _ hk => hk.2));replace HB := mk0 (hb);have d3 := mk0 (ho);clear a7; clear ho hb hg hat))
        go_roundg k1
        case measure => have := HK1.out; omega
        case rel => exact ⟨(b9), (wrap64 (a1 + 1)), (by first | rfl | simp [*]), H', ⟨by have := HK1.out; omega⟩, ⟨sN d3.out⟩, ⟨aB⟩⟩
       ·
        rw [if_neg c7] at H
        exact absurd H (by simp)
      ·
       replace c6 := Bool.eq_false_iff.mpr c6
       subst c6
       have H1 : (some (([] : List (S61)), false)) = some (r1, r2) := by rw [if_neg (show ¬ (false = true) by decide)] at H; exact H
       clear H
       have H := H1
       clear H1
       simp only [Option.some.injEq, Prod.mk.injEq] at H
       obtain ⟨rfl, rfl⟩ := H
       have b2 : 0 ≤ (a1 : Int) := aD
       have b3 : a1 < (l0.length : Int) := aD
       obtain ⟨c5, e267, a6⟩ := Kd.at_string HR0.out a1 b2 b3
       cases e267
       replace a6 := (HB.out.cell (World.block_lt_of_cell? w _ a6)).trans a6
       replace b2 := eq_true b2
       replace b3 := eq_true b3
       go_wp2_with (first | (refine gc 17 ?_; refine gl 17 Tryz.func17 #[.string (rdOf ByteArray.empty l0 a1)] ?_; (with_reducible refine (checker_read.calls k1 (rdOf ByteArray.empty l0 a1) b0 a8 a9 false _ A5.out).mono ?_); rintro e i4 ⟨f6, f7, rfl, c8, c9, hb⟩; refine ⟨_, rfl, ?_⟩; have a4 := lV (ok' := fun k_ => (w.heap.size ≤ k_) ∧ some k_ ≠ (u4 : Value).ownBlock) c8;have a5 := lV (ok' := fun k_ => (w.heap.size ≤ k_) ∧ some k_ ≠ (u4 : Value).ownBlock) c9;replace a7 := uN a7 hb;replace HB := uW hb; (try clear hb); (try clear c8); (try clear c9)) | (refine gd 7 ?_; refine box_event ?hg (N := 7) ?hd (cs := #[.bool false, .slice none 0 0, .slice none 0 0]) (t := 61) ?hr ?_; (case hd => rfl); (case hg => rfl); (case hr => exact aH); intro a2 hg g0 hbox hb; replace a7 := eN a7 hg hb;replace a4 := eV a4 hg hb;replace a5 := eV a5 hg hb;have a3 := mk0 (hbox);have d0 := uG hg;have d1 := uG hg;replace HB := uW hb; clear hb hbox hg; have e7 : g0.cell? ⟨a2, 0, none⟩ = some (.bool false) := (blk_cell a3.out 0).trans rfl; have e8 : g0.cell? ⟨a2, 1, none⟩ = some (.slice none 0 0) := (blk_cell a3.out 1).trans rfl; have e9 : g0.cell? ⟨a2, 2, none⟩ = some (.slice none 0 0) := (blk_cell a3.out 2).trans rfl; have f0 := blk_frozen a3.out 0; have f1 := blk_frozen a3.out 1; have f2 := blk_frozen a3.out 2; obtain ⟨g7, g8, g1⟩ := Kd.V_slice a4.out; subst g1; obtain ⟨g9, i1, g2⟩ := Kd.V_slice a5.out; subst g2))
       go_ret2
       exact ⟨_, by first | rfl | (simp [*] <;> rfl), by first | exact Kd.S_nil _ _ _ _ _ | exact Kd.N_nil _ _ _ _ _ | exact Kd.V_nil _ _ _ _ _ | exact Kd.Q_nil _ _ _ _ _ | exact Kd.R_nil _ _ _ _ _, aB⟩
     ·
      rw [if_neg c4] at H
      exact absurd H (by simp)
    ·
     rw [if_neg c3] at H
     exact absurd H (by simp)
   ·
    rw [if_neg c2] at H
    have f3 : decide (a1 < (l0.length : Int)) = false := decide_eq_false c2
    clear c2
    simp only [Option.some.injEq, Prod.mk.injEq] at H
    obtain ⟨rfl, rfl⟩ := H
    go_wp2
    go_ret2
    exact ⟨_, by first | rfl | (simp [*] <;> rfl), pN a7.out, aB⟩
-- NOT PRINTED: function 68 (checker_fraction_68)
-- NOT PRINTED: function 38 (checker_fraction_38)
def checker_open_1.f (a0_0 : Bool) (a1 : List Int) (a2 : List Int) : Option (Bool) := some a0_0
set_option maxHeartbeats 8000000 in
set_option maxRecDepth 100000 in
theorem checker_open_1.calls (a0_0 : Bool) (a3 : Option Addr) (a4 : Nat) (a1 : List Int) (a5 : Option Addr) (a6 : Nat) (a2 : List Int) (r : Bool) (w : World) (a7 : Kd.C (Kd.int .u32) w a3 a1.length a1) (a8 : a1.length ≤ a4) (a9 : Kd.C (Kd.int .u32) w a5 a2.length a2) (b0 : a2.length ≤ a6) (h : checker_open_1.f a0_0 a1 a2 = some r) :
  Calls Tryz.prog 39 #[.agg #[.bool a0_0, .slice a3 a1.length a4, .slice a5 a2.length a6]] w fun e w' => e = .returned (.bool r) ∧ Below w.heap.size w w' := by
 have hu61 := Tryz.underlying61
 have b8 := mk0 a7
 have b9 := mk0 a8
 clear a7 a8
 have c4 := mk0 a9
 have c5 := mk0 b0
 clear a9 b0
 have HB := mk0 (Below.refl w.heap.size w)
 have H : (some a0_0) = some r := h
 clear h
 obtain rfl := Option.some.inj H
 go_enter Tryz.func39, Tryz.ntmps39
 go_wp2_with (first | (refine gd 1 ?_; refine box_event ?hg (N := 1) ?hd (cs := #[.bool a0_0, .slice a3 a1.length a4, .slice a5 a2.length a6]) (t := 61) ?hr ?_; (case hd => rfl); (case hg => rfl); (case hr => exact aH); intro b1 hg w2 hbox hb; have a0 := mk0 (hbox);have c6 := uG hg;have c7 := uG hg;replace HB := uW hb; clear hb hbox hg; have b2 := cZ a0 0; have b3 : w2.cell? ⟨b1, 1, none⟩ = some (.slice a3 a1.length a4) := (blk_cell a0.out 1).trans rfl; have b4 : w2.cell? ⟨b1, 2, none⟩ = some (.slice a5 a2.length a6) := (blk_cell a0.out 2).trans rfl; have b5 := blk_frozen a0.out 0; have b6 := blk_frozen a0.out 1; have b7 := blk_frozen a0.out 2))
 go_ret
 exact ⟨by first | rfl | (simp [*] <;> rfl), aB⟩
def slices_IndexFunc_at_checker_open_1_68.l0 : Nat → List (S61) → Int → Int → Option (Int)
 | 0, _, _, _ => none
 | k + 1, x0, x7, x8 => if x8 < x7 then (if 0 ≤ x8 then (if x8 < (x0.length : Int) then ((checker_open_1.f ((rd_T61 x0 x8).f0) ((rd_T61 x0 x8).f1) ((rd_T61 x0 x8).f2)).bind fun b5 => (if b5 = true then (some x8) else (slices_IndexFunc_at_checker_open_1_68.l0 k x0 x7 (wrap64 (x8 + 1))))) else (none)) else (none)) else (some (-1))
def slices_IndexFunc_at_checker_open_1_68.f (k : Nat) (l0 : List (S61))  : Option (Int) := slices_IndexFunc_at_checker_open_1_68.l0 k l0 (l0.length : Int) 0
theorem slices_IndexFunc_at_checker_open_1_68.mono_l : ∀ k, (∀ y0 y1 y2, LeO (slices_IndexFunc_at_checker_open_1_68.l0 k y0 y1 y2) (slices_IndexFunc_at_checker_open_1_68.l0 (k + 1) y0 y1 y2))
 | 0 => fun _ _ _ r h => by simp [slices_IndexFunc_at_checker_open_1_68.l0] at h
 | k + 1 => by
  have ih0 := slices_IndexFunc_at_checker_open_1_68.mono_l k
  ·
   intro y0 y1 y2
   unfold slices_IndexFunc_at_checker_open_1_68.l0
   repeat' first | (with_reducible first | exact ih0 .. | exact LeO.refl _ | exact LeO.none _ | refine LeO.ite ?_ ?_ | refine LeO.bind ?_ (fun _ => ?_))
theorem slices_IndexFunc_at_checker_open_1_68.mono : ∀ a0 k, LeO (slices_IndexFunc_at_checker_open_1_68.f k a0) (slices_IndexFunc_at_checker_open_1_68.f (k + 1) a0) := by
 intro a0 k
 have ih0 := slices_IndexFunc_at_checker_open_1_68.mono_l k
 unfold slices_IndexFunc_at_checker_open_1_68.f
 repeat' first | (with_reducible first | exact ih0 .. | exact LeO.refl _ | exact LeO.none _ | refine LeO.ite ?_ ?_ | refine LeO.bind ?_ (fun _ => ?_))
set_option maxHeartbeats 8000000 in
set_option maxRecDepth 100000 in
theorem slices_IndexFunc_at_checker_open_1_68.calls (k : Nat) (A0 : Option Addr) (c0 : Nat) (l0 : List (S61))  (r : Int) (w : World) (hr0 : Kd.C k61 w A0 l0.length l0) (hc0 : l0.length ≤ c0) (h : slices_IndexFunc_at_checker_open_1_68.f k l0 = some r) :
  Calls Tryz.prog 68 #[.slice A0 l0.length c0, .func (.func 39) #[] #[]] w fun e w' => e = .returned (.int .i64 r) ∧ Below w.heap.size w w' := by
 have hu61 := Tryz.underlying61
 have HR0 := mk0 hr0
 have c6 := mk0 hc0
 clear hr0 hc0
 have HB := mk0 (Below.refl w.heap.size w)
 have H : (slices_IndexFunc_at_checker_open_1_68.l0 k l0 (l0.length : Int) 0) = some r := h
 clear h
 have H' := mk0 H
 clear H
 go_enter Tryz.func68, Tryz.ntmps68
 go_wp2
 go_loopg [8] k (fun kq v8 w' => ∃ (a1 : Int), v8 = .int .i64 a1 ∧ Aside0 (slices_IndexFunc_at_checker_open_1_68.l0 kq l0 (l0.length : Int) a1 = some r) ∧ Aside0 (kq ≤ k) ∧ Aside0 (Below w.heap.size w w'))
 case atStart => exact ⟨(0), (by first | rfl | simp [*]), H', ⟨Nat.le_refl _⟩, ⟨aB⟩⟩
 case round =>
  clear H'
  try clear c1
  try clear p2
  obtain ⟨a1, rfl, HA, HK1, HB⟩ := hrel
  cases gk with
  | zero => exact absurd HA.out (by simp [slices_IndexFunc_at_checker_open_1_68.l0])
  | succ k1 =>
   have H := HA.out
   clear HA
   simp only [slices_IndexFunc_at_checker_open_1_68.l0] at H
   by_cases c3 : a1 < (l0.length : Int)
   ·
    rw [if_pos c3] at H
    have b7 : decide (a1 < (l0.length : Int)) = true := decide_eq_true c3
    clear c3
    by_cases c4 : 0 ≤ a1
    ·
     rw [if_pos c4] at H
     have b8 : decide (0 ≤ a1) = true := decide_eq_true c4
     clear c4
     by_cases c5 : a1 < (l0.length : Int)
     ·
      rw [if_pos c5] at H
      have b9 : decide (a1 < (l0.length : Int)) = true := decide_eq_true c5
      clear c5
      obtain ⟨b5, A6, H⟩ := bS H
      by_cases c7 : b5 = true
      ·
       subst c7
       have H1 : (some a1) = some r := by rw [if_pos rfl] at H; exact H
       clear H
       have H := H1
       clear H1
       obtain rfl := Option.some.inj H
       have a9 : 0 ≤ (a1 : Int) := aD
       have b0 : a1 < (l0.length : Int) := aD
       obtain ⟨b6, b1, b2, b3, b4, e281, a2, a3, a4, hl281_1, hi281_1, hl281_2, hi281_2⟩ := at_T61 HR0.out a1 a9 b0
       cases e281
       replace a2 := (HB.out.cell (World.block_lt_of_cell? w _ a2)).trans a2
       replace a3 := (HB.out.cell (World.block_lt_of_cell? w _ a3)).trans a3
       replace a4 := (HB.out.cell (World.block_lt_of_cell? w _ a4)).trans a4
       have a5 := mk0 hi281_1
       have a6 := mk0 hl281_1
       clear hi281_1 hl281_1
       have a7 := mk0 hi281_2
       have a8 := mk0 hl281_2
       clear hi281_2 hl281_2
       replace a9 := eq_true a9
       replace b0 := eq_true b0
       go_wp2_with (first | ((with_reducible refine Go.Proofs.YtbgmfgndldnmcaaGreatDoorMyWords.gate_calleeT (t := 11) rfl ?_); refine Go.Proofs.YtbgmfgndldnmcaaGreatDoorMyWords.goesLT_ (t := 11) (by first | rfl | (go_simp; done) | (simp [go_sem]; done)) (some 16) rfl rfl Tryz.func39 (by kernel_rfl) rfl #[.agg #[.bool ((rd_T61 l0 a1).f0), .slice b1 ((rd_T61 l0 a1).f1).length b2, .slice b3 ((rd_T61 l0 a1).f2).length b4]] rfl aA ?_; (with_reducible refine (checker_open_1.calls ((rd_T61 l0 a1).f0) _ _ ((rd_T61 l0 a1).f1) _ _ ((rd_T61 l0 a1).f2) true _ ?side1 ?side2 ?side3 ?side4 A6.out).mono ?_); (case side1 => exact pC (Kd.C_below a5.out HB.out)); (case side2 => exact a6.out); (case side3 => exact pC (Kd.C_below a7.out HB.out)); (case side4 => exact a8.out); rintro e w8 ⟨rfl, hb⟩; refine ⟨_, rfl, ?_⟩; replace HB := uW hb; (try clear hb); (try clear hb2); (try clear hk); (try clear hi)))
       go_ret
       exact ⟨by first | rfl | (simp [*] <;> rfl), aB⟩
      ·
       replace c7 := Bool.eq_false_iff.mpr c7
       subst c7
       have H1 : (slices_IndexFunc_at_checker_open_1_68.l0 k1 l0 (l0.length : Int) (wrap64 (a1 + 1))) = some r := by rw [if_neg (show ¬ (false = true) by decide)] at H; exact H
       clear H
       have H := H1
       clear H1
       have H' := mk0 H
       clear H
       have a9 : 0 ≤ (a1 : Int) := aD
       have b0 : a1 < (l0.length : Int) := aD
       obtain ⟨b6, b1, b2, b3, b4, e281, a2, a3, a4, hl281_1, hi281_1, hl281_2, hi281_2⟩ := at_T61 HR0.out a1 a9 b0
       cases e281
       replace a2 := (HB.out.cell (World.block_lt_of_cell? w _ a2)).trans a2
       replace a3 := (HB.out.cell (World.block_lt_of_cell? w _ a3)).trans a3
       replace a4 := (HB.out.cell (World.block_lt_of_cell? w _ a4)).trans a4
       have a5 := mk0 hi281_1
       have a6 := mk0 hl281_1
       clear hi281_1 hl281_1
       have a7 := mk0 hi281_2
       have a8 := mk0 hl281_2
       clear hi281_2 hl281_2
       replace a9 := eq_true a9
       replace b0 := eq_true b0
       go_wp2_with (first | ((with_reducible refine Go.Proofs.YtbgmfgndldnmcaaGreatDoorMyWords.gate_calleeT (t := 11) rfl ?_); refine Go.Proofs.YtbgmfgndldnmcaaGreatDoorMyWords.goesLT_ (t := 11) (by first | rfl | (go_simp; done) | (simp [go_sem]; done)) (some 16) rfl rfl Tryz.func39 (by kernel_rfl) rfl #[.agg #[.bool ((rd_T61 l0 a1).f0), .slice b1 ((rd_T61 l0 a1).f1).length b2, .slice b3 ((rd_T61 l0 a1).f2).length b4]] rfl aA ?_; (with_reducible refine (checker_open_1.calls ((rd_T61 l0 a1).f0) _ _ ((rd_T61 l0 a1).f1) _ _ ((rd_T61 l0 a1).f2) false _ ?side1 ?side2 ?side3 ?side4 A6.out).mono ?_); (case side1 => exact pC (Kd.C_below a5.out HB.out)); (case side2 => exact a6.out); (case side3 => exact pC (Kd.C_below a7.out HB.out)); (case side4 => exact a8.out); rintro e w9 ⟨rfl, hb⟩; refine ⟨_, rfl, ?_⟩; replace HB := uW hb; (try clear hb); (try clear hb2); (try clear hk); (try clear hi)))
       go_roundg k1
       case measure => have := HK1.out; omega
       case rel => exact ⟨(wrap64 (a1 + 1)), (by first | rfl | simp [*]), H', ⟨by have := HK1.out; omega⟩, ⟨aB⟩⟩
     ·
      rw [if_neg c5] at H
      exact absurd H (by simp)
    ·
     rw [if_neg c4] at H
     exact absurd H (by simp)
   ·
    rw [if_neg c3] at H
    have b7 : decide (a1 < (l0.length : Int)) = false := decide_eq_false c3
    clear c3
    obtain rfl := Option.some.inj H
    go_wp2
    go_ret
    exact ⟨by first | rfl | (simp [*] <;> rfl), aB⟩
def slices_ContainsFunc_at_checker_open_1_38.f (k : Nat) (l0 : List (S61))  : Option (Bool) := (slices_IndexFunc_at_checker_open_1_68.f k l0).bind fun a1 => (some (decide (a1 ≥ 0)))
theorem slices_ContainsFunc_at_checker_open_1_38.mono : ∀ a0 k, LeO (slices_ContainsFunc_at_checker_open_1_38.f k a0) (slices_ContainsFunc_at_checker_open_1_38.f (k + 1) a0) := by
 intro a0 k
 unfold slices_ContainsFunc_at_checker_open_1_38.f
 repeat' first | (with_reducible first | exact slices_IndexFunc_at_checker_open_1_68.mono .. | exact LeO.refl _ | exact LeO.none _ | refine LeO.ite ?_ ?_ | refine LeO.bind ?_ (fun _ => ?_))
set_option maxHeartbeats 8000000 in
set_option maxRecDepth 100000 in
theorem slices_ContainsFunc_at_checker_open_1_38.calls (k : Nat) (A0 : Option Addr) (c0 : Nat) (l0 : List (S61))  (r : Bool) (w : World) (hr0 : Kd.C k61 w A0 l0.length l0) (hc0 : l0.length ≤ c0) (h : slices_ContainsFunc_at_checker_open_1_38.f k l0 = some r) :
  Calls Tryz.prog 38 #[.slice A0 l0.length c0, .func (.func 39) #[] #[]] w fun e w' => e = .returned (.bool r) ∧ Below w.heap.size w w' := by
 have HR0 := mk0 hr0
 have a2 := mk0 hc0
 clear hr0 hc0
 have HB := mk0 (Below.refl w.heap.size w)
 have H : ((slices_IndexFunc_at_checker_open_1_68.f k l0).bind fun a1 => (some (decide (a1 ≥ 0)))) = some r := h
 clear h
 obtain ⟨a1, A3, H⟩ := bS H
 obtain rfl := Option.some.inj H
 go_enter Tryz.func38, Tryz.ntmps38
 go_wp2_with (first | (refine gc 68 ?_; refine gl 7 Tryz.func68 #[.slice A0 l0.length c0, .func (.func 39) #[] #[]] ?_; (with_reducible refine (slices_IndexFunc_at_checker_open_1_68.calls k _ _ l0  a1 _ ?side1 ?side2 A3.out).mono ?_); (case side1 => exact pC HR0.out); (case side2 => exact a2.out); rintro e w4 ⟨rfl, hb⟩; refine ⟨_, rfl, ?_⟩; replace HB := uW hb; (try clear hb); (try clear hb2); (try clear hk); (try clear hi)))
 go_ret
 exact ⟨by first | rfl | (simp [*] <;> rfl), aB⟩
def checker_open.l0 : Nat → List (S37) → Int → List (S37) → Int → Int → List ByteArray → List (List (S61)) → List (S61) → Option ((List (List (S61))) × (List (S61)) × (List (S61)) × Bool)
 | 0, _, _, _, _, _, _, _, _ => none
 | k + 1, x0, x1, x14, x15, x16, x281000, x282000, x282001 => if x16 < x15 then (if 0 ≤ x16 then (if x16 < (x14.length : Int) then ((checker_readAll.f k ((rd_T37 x14 x16).f0)).bind fun k7 => ((checker_read.f k ((rd_T37 x14 x16).f1)).bind fun k2 => (if k7.2 = true then (if k2.2.2.2 = true then (if (k7.1.length : Int) = x1 then ((some (([k7.1] : List (List (S61))) : List (List (S61)))).bind fun d7 => (if x282000.length + d7.length < 5864062014805 then ((some (([(⟨k2.1, k2.2.1, k2.2.2.1⟩ : S61)] : List (S61)) : List (S61))).bind fun g4 => (if x282001.length + g4.length < 2513169434916 then (checker_open.l0 k x0 x1 x14 x15 (wrap64 (x16 + 1)) x281000 (x282000 ++ d7) (x282001 ++ g4)) else (none))) else (none))) else (some (([] : List (List (S61))), ([] : List (S61)), ([] : List (S61)), false))) else (some (([] : List (List (S61))), ([] : List (S61)), ([] : List (S61)), false))) else (some (([] : List (List (S61))), ([] : List (S61)), ([] : List (S61)), false))))) else (none)) else (none)) else ((checker_readAll.f k x281000).bind fun k3 => (if k3.2 = true then (if (k3.1.length : Int) = (x0.length : Int) then ((slices_ContainsFunc_at_checker_open_1_38.f k k3.1).bind fun k8 => (if k8 = true then (some (([] : List (List (S61))), ([] : List (S61)), ([] : List (S61)), false)) else (some (x282000, x282001, k3.1, true)))) else (some (([] : List (List (S61))), ([] : List (S61)), ([] : List (S61)), false))) else (some (([] : List (List (S61))), ([] : List (S61)), ([] : List (S61)), false))))
def checker_open.f (k : Nat) (l0 : List (S37)) (a1 : Int) (e6 : List ByteArray) : Option ((List (List (S61))) × (List (S61)) × (List (S61)) × Bool) := checker_open.l0 k l0 a1 l0 (l0.length : Int) 0 e6 ([] : List (List (S61))) ([] : List (S61))
theorem checker_open.mono_l : ∀ k, (∀ y0 y1 y2 y3 y4 y5 y6 y7, LeO (checker_open.l0 k y0 y1 y2 y3 y4 y5 y6 y7) (checker_open.l0 (k + 1) y0 y1 y2 y3 y4 y5 y6 y7))
 | 0 => fun _ _ _ _ _ _ _ _ r h => by simp [checker_open.l0] at h
 | k + 1 => by
  have ih0 := checker_open.mono_l k
  ·
   intro y0 y1 y2 y3 y4 y5 y6 y7
   unfold checker_open.l0
   repeat' first | (with_reducible first | exact ih0 .. | exact checker_read.mono .. | exact checker_readAll.mono .. | exact slices_ContainsFunc_at_checker_open_1_38.mono .. | exact LeO.refl _ | exact LeO.none _ | refine LeO.ite ?_ ?_ | refine LeO.bind ?_ (fun _ => ?_))
theorem checker_open.mono : ∀ a0 a1 a2 k, LeO (checker_open.f k a0 a1 a2) (checker_open.f (k + 1) a0 a1 a2) := by
 intro a0 a1 a2 k
 have ih0 := checker_open.mono_l k
 unfold checker_open.f
 repeat' first | (with_reducible first | exact ih0 .. | exact checker_read.mono .. | exact checker_readAll.mono .. | exact slices_ContainsFunc_at_checker_open_1_38.mono .. | exact LeO.refl _ | exact LeO.none _ | refine LeO.ite ?_ ?_ | refine LeO.bind ?_ (fun _ => ?_))
def checker_open.T8 : Bool × List (List Nat × List Nat) := (true, [([], []), ([0], [0]), ([], []), ([2], [2]), ([1, 3], [1, 3]), ([], []), ([5], [5]), ([], []), ([7], [7]), ([6, 8, 4], [6, 8]), ([0, 1, 2, 3, 4, 5, 6], []), ([10, 4, 9, 0, 1, 2, 3, 4, 5, 6], [4, 10]), ([0, 1, 2, 3, 4, 5, 6, 7, 8, 9, 10, 11], []), ([12, 9, 11, 0, 1, 2, 3, 4, 5, 6, 7, 8, 9, 10, 11], [9, 12])])
def checker_open.B8 : List Nat := [0, 1, 0, 4, 15, 0, 32, 0, 128, 511, 127, 2047, 4095, 8191]
theorem checker_open.tab8 : rtab .any (opsOf Tryz.f19 8) = checker_open.T8 := by kernel_rfl
theorem checker_open.bits8 : waitsOk checker_open.T8.2 checker_open.B8 = true := by kernel_rfl
set_option maxHeartbeats 8000000 in
set_option maxRecDepth 100000 in
theorem checker_open.calls (k : Nat) (A0 : Option Addr) (c0 : Nat) (l0 : List (S37)) (a1 : Int) (i2 : Option Addr) (i3 : Nat) (e6 : List ByteArray) (r1 : List (List (S61))) (r2 : List (S61)) (r3 : List (S61)) (r4 : Bool) (w : World) (hr0 : Kd.C k37 w A0 l0.length l0) (hc0 : l0.length ≤ c0) (m4 : Kd.C Kd.string w i2 e6.length e6) (m5 : e6.length ≤ i3) (h : checker_open.f k l0 a1 e6 = some (r1, r2, r3, r4)) :
  Calls Tryz.prog 19 #[.slice A0 l0.length c0, .int .i64 a1, .agg #[.slice i2 e6.length i3]] w fun e w' => ∃ v0_ v1_ v2_ : Value, e = .returned (.tuple #[.agg #[v0_, v1_, v2_], .bool r4]) ∧ Kd.N (Kd.slice 61 k61) 64 w' w.heap.size (fun k_ => (w.heap.size ≤ k_) ∧ some k_ ≠ (v1_ : Value).ownBlock ∧ some k_ ≠ (v2_ : Value).ownBlock) v0_ r1 ∧ Kd.N k61 61 w' w.heap.size (fun k_ => (w.heap.size ≤ k_) ∧ some k_ ≠ (v0_ : Value).ownBlock ∧ some k_ ≠ (v2_ : Value).ownBlock) v1_ r2 ∧ Kd.N k61 61 w' w.heap.size (fun k_ => (w.heap.size ≤ k_) ∧ some k_ ≠ (v0_ : Value).ownBlock ∧ some k_ ≠ (v1_ : Value).ownBlock) v2_ r3 ∧ Below w.heap.size w w' := by
 have hu40 := Tryz.underlying40
 have hu69 := Tryz.underlying69
 have hu37 := Tryz.underlying37
 have hu61 := Tryz.underlying61
 have HR0 := mk0 hr0
 have S2 := mk0 hc0
 clear hr0 hc0
 have k4 := mk0 m4
 have k5 := mk0 m5
 clear m4 m5
 have HB := mk0 (Below.refl w.heap.size w)
 have H : (checker_open.l0 k l0 a1 l0 (l0.length : Int) 0 e6 ([] : List (List (S61))) ([] : List (S61))) = some (r1, r2, r3, r4) := h
 clear h
 have H' := mk0 H
 clear H
 go_enter Tryz.func19, Tryz.ntmps19
 go_wp2_with (first | (refine gd 5 ?_; (try (refine gate_guard (by rfl) ?_; dsimp only)); refine box_event ?hg (N := 5) ?hd (cs := #[.slice i2 e6.length i3]) (t := 40) ?hr ?_; (case hd => rfl); (case hg => rfl); (case hr => exact aH); intro b2 hg w4 hbox hb; have b0 := mk0 (hbox);have K0 := uG hg;have K1 := uG hg;replace HB := uW hb; clear hb hbox hg) | (refine gd 6 ?_; (try (refine gate_guard (by rfl) ?_; dsimp only)); refine box_event ?hg (N := 6) ?hd (cs := #[.slice none 0 0, .slice none 0 0, .slice none 0 0]) (t := 69) ?hr ?_; (case hd => rfl); (case hg => rfl); (case hr => exact aH); intro a9 hg w5 hbox hb; have a7 := mk0 (hbox);have K2 := uG hg;have K3 := uG hg;replace HB := uW hb;have d9 := uL b0 hg;have f4 := uM b0 hg;replace b0 := uB b0 hb; clear hb hbox hg))
 go_loopg [16] k (fun kq P7 w' => ∃ (b4 : Int) (a6 : List (List (S61))) (a3 : List (S61)) (c4 : Value) (c5 : Value), P7 = .int .i64 b4 ∧ Aside0 (checker_open.l0 kq l0 a1 l0 (l0.length : Int) b4 e6 a6 a3 = some (r1, r2, r3, r4)) ∧ Aside0 (kq ≤ k) ∧ Aside0 (Kd.N (Kd.slice 61 k61) 64 w' w.heap.size (fun k_ => (w.heap.size ≤ k_) ∧ some k_ ≠ (c5 : Value).ownBlock ∧ k_ ≠ b2 ∧ k_ ≠ a9) c4 a6) ∧ Aside0 (Kd.N k61 61 w' w.heap.size (fun k_ => (w.heap.size ≤ k_) ∧ some k_ ≠ (c4 : Value).ownBlock ∧ k_ ≠ b2 ∧ k_ ≠ a9) c5 a3) ∧ Aside0 (w'.heap[b2]? = some (.cells #[(.slice i2 e6.length i3)] 40 (0, 0))) ∧ Aside0 (w'.heap[a9]? = some (.cells #[c4, c5, (.slice none 0 0)] 69 (0, 0))) ∧ Aside0 (Below w.heap.size w w'))
 case atStart => exact ⟨(0), (([] : List (List (S61)))), (([] : List (S61))), (.slice none 0 0), (.slice none 0 0), (by first | rfl | simp [*]), H', ⟨Nat.le_refl _⟩, ⟨by first | exact Kd.R_nil _ _ _ _ _ | exact Kd.N_nil _ _ _ _ _ | exact Kd.V_nil _ _ _ _ _ | exact Kd.Q_nil _ _ _ _ _ | exact Kd.S_nil _ _ _ _ _⟩, ⟨by first | exact Kd.S_nil _ _ _ _ _ | exact Kd.N_nil _ _ _ _ _ | exact Kd.V_nil _ _ _ _ _ | exact Kd.Q_nil _ _ _ _ _ | exact Kd.R_nil _ _ _ _ _⟩, ⟨pB b0.out⟩, ⟨pB a7.out⟩, ⟨aB⟩⟩
 case round =>
  clear H'
  try clear c1
  try clear c2
  try clear p2
  obtain ⟨b4, a6, a3, c4, c5, rfl, HA, HK1, a5, a4, b0, a7, HB⟩ := hrel
  cases gk with
  | zero => exact absurd HA.out (by simp [checker_open.l0])
  | succ k1 =>
   have H := HA.out
   clear HA
   simp only [checker_open.l0] at H
   by_cases c6 : b4 < (l0.length : Int)
   ·
    rw [if_pos c6] at H
    have G8 : decide (b4 < (l0.length : Int)) = true := decide_eq_true c6
    clear c6
    by_cases c7 : 0 ≤ b4
    ·
     rw [if_pos c7] at H
     have P8 : decide (0 ≤ b4) = true := decide_eq_true c7
     clear c7
     by_cases c8 : b4 < (l0.length : Int)
     ·
      rw [if_pos c8] at H
      have P9 : decide (b4 < (l0.length : Int)) = true := decide_eq_true c8
      clear c8
      obtain ⟨⟨e9, G9⟩, A9, H⟩ := bS H
      (try dsimp only at H)
      obtain ⟨⟨d4, c9, d0, m9⟩, A10, H⟩ := bS H
      (try dsimp only at H)
      by_cases x4 : G9 = true
      ·
       subst x4
       have H1 : (if m9 = true then (if (e9.length : Int) = a1 then ((some (([e9] : List (List (S61))) : List (List (S61)))).bind fun d7 => (if a6.length + d7.length < 5864062014805 then ((some (([(⟨d4, c9, d0⟩ : S61)] : List (S61)) : List (S61))).bind fun g4 => (if a3.length + g4.length < 2513169434916 then (checker_open.l0 k1 l0 a1 l0 (l0.length : Int) (wrap64 (b4 + 1)) e6 (a6 ++ d7) (a3 ++ g4)) else (none))) else (none))) else (some (([] : List (List (S61))), ([] : List (S61)), ([] : List (S61)), false))) else (some (([] : List (List (S61))), ([] : List (S61)), ([] : List (S61)), false))) = some (r1, r2, r3, r4) := by rw [if_pos rfl] at H; exact H
       clear H
       have H := H1
       clear H1
       by_cases x5 : m9 = true
       ·
        subst x5
        have H1 : (if (e9.length : Int) = a1 then ((some (([e9] : List (List (S61))) : List (List (S61)))).bind fun d7 => (if a6.length + d7.length < 5864062014805 then ((some (([(⟨d4, c9, d0⟩ : S61)] : List (S61)) : List (S61))).bind fun g4 => (if a3.length + g4.length < 2513169434916 then (checker_open.l0 k1 l0 a1 l0 (l0.length : Int) (wrap64 (b4 + 1)) e6 (a6 ++ d7) (a3 ++ g4)) else (none))) else (none))) else (some (([] : List (List (S61))), ([] : List (S61)), ([] : List (S61)), false))) = some (r1, r2, r3, r4) := by rw [if_pos rfl] at H; exact H
        clear H
        have H := H1
        clear H1
        by_cases n0 : (e9.length : Int) = a1
        ·
         rw [if_pos n0] at H
         have o6 : ((e9.length : Int) == a1) = true := beq_iff_eq.mpr n0
         have o7 : ((e9.length : Int) != a1) = false := bne_eq_false_iff_eq.mpr n0
         clear n0
         obtain ⟨d7, hy297⟩ : ∃ y_ : List (List (S61)), y_ = (([e9] : List (List (S61)))) := ⟨_, rfl⟩
         replace H : (if a6.length + d7.length < 5864062014805 then ((some (([(⟨d4, c9, d0⟩ : S61)] : List (S61)) : List (S61))).bind fun g4 => (if a3.length + g4.length < 2513169434916 then (checker_open.l0 k1 l0 a1 l0 (l0.length : Int) (wrap64 (b4 + 1)) e6 (a6 ++ d7) (a3 ++ g4)) else (none))) else (none)) = some (r1, r2, r3, r4) := by first | (rw [hy297]; exact H) | (rw [hy297]; exact (Option.bind_some _ _).symm.trans H) | exact (Option.bind_some _ _).symm.trans H
         have Ny297 := mk0 hy297
         clear hy297
         by_cases x6 : a6.length + d7.length < 5864062014805
         ·
          rw [if_pos x6] at H
          have k9 := mk0 x6
          clear x6
          obtain ⟨j8, hy300⟩ : ∃ y_ : List (List (S61)), y_ = (a6 ++ d7) := ⟨_, rfl⟩
          replace H : ((some (([(⟨d4, c9, d0⟩ : S61)] : List (S61)) : List (S61))).bind fun g4 => (if a3.length + g4.length < 2513169434916 then (checker_open.l0 k1 l0 a1 l0 (l0.length : Int) (wrap64 (b4 + 1)) e6 j8 (a3 ++ g4)) else (none))) = some (r1, r2, r3, r4) := by first | (rw [hy300]; exact H) | (rw [hy300]; exact (Option.bind_some _ _).symm.trans H) | exact (Option.bind_some _ _).symm.trans H
          have Ny300 := mk0 hy300
          clear hy300
          obtain ⟨g4, hy303⟩ : ∃ y_ : List (S61), y_ = (([(⟨d4, c9, d0⟩ : S61)] : List (S61))) := ⟨_, rfl⟩
          replace H : (if a3.length + g4.length < 2513169434916 then (checker_open.l0 k1 l0 a1 l0 (l0.length : Int) (wrap64 (b4 + 1)) e6 j8 (a3 ++ g4)) else (none)) = some (r1, r2, r3, r4) := by first | (rw [hy303]; exact H) | (rw [hy303]; exact (Option.bind_some _ _).symm.trans H) | exact (Option.bind_some _ _).symm.trans H
          have Ny303 := mk0 hy303
          clear hy303
          by_cases x7 : a3.length + g4.length < 2513169434916
          ·
           rw [if_pos x7] at H
           have o8 := mk0 x7
           clear x7
           obtain ⟨n1, hy306⟩ : ∃ y_ : List (S61), y_ = (a3 ++ g4) := ⟨_, rfl⟩
           replace H : (checker_open.l0 k1 l0 a1 l0 (l0.length : Int) (wrap64 (b4 + 1)) e6 j8 n1) = some (r1, r2, r3, r4) := by first | (rw [hy306]; exact H) | (rw [hy306]; exact (Option.bind_some _ _).symm.trans H) | exact (Option.bind_some _ _).symm.trans H
           have Ny306 := mk0 hy306
           clear hy306
           have H' := mk0 H
           clear H
           have j2 : 0 ≤ (b4 : Int) := aD
           have j3 : b4 < (l0.length : Int) := aD
           obtain ⟨l1, d5, d6, e282, e2, e3, hl282_0, hi282_0⟩ := at_T37 HR0.out b4 j2 j3
           cases e282
           replace e2 := (HB.out.cell (World.block_lt_of_cell? w _ e2)).trans e2
           replace e3 := (HB.out.cell (World.block_lt_of_cell? w _ e3)).trans e3
           have i4 := mk0 hi282_0
           have i5 := mk0 hl282_0
           clear hi282_0 hl282_0
           replace j2 := eq_true j2
           replace j3 := eq_true j3
           try go_wp2_with (first | (refine gd 9 ?_; (try (refine gate_guard (by rfl) ?_; dsimp only)); refine box_event ?hg (N := 9) ?hd (cs := #[.slice none 0 0, .string (⟨#[]⟩ : ByteArray)]) (t := 37) ?hr ?_; (case hd => rfl); (case hg => rfl); (case hr => exact aH); intro b1 hg Q0 hbox hb; replace a5 := eN a5 hg hb;replace a4 := eN a4 hg hb;have b3 := mk0 (hbox);have l2 := uG hg;have l3 := uG hg;replace HB := uW hb;have g0 := uL b0 hg;have g1 := uM b0 hg;replace b0 := uB b0 hb;have f5 := uL a7 hg;have f6 := uM a7 hg;replace a7 := uB a7 hb; clear hb hbox hg; have K4 := g1.out; have K5 := g0.out; have K6 := f6.out; have K7 := f5.out; have x8 : Q0.cell? ⟨b1, 0, none⟩ = some (.slice none 0 0) := (blk_cell b3.out 0).trans rfl; have x9 := cZ b3 1; have y8 := blk_frozen b3.out 0; have y9 := blk_frozen b3.out 1) | (refine gc 18 ?_; refine gl 23 Tryz.func18 #[.slice d5 ((rd_T37 l0 b4).f0).length d6] ?_; (with_reducible refine (checker_readAll.calls k1 _ _ ((rd_T37 l0 b4).f0) e9 true _ ?side1 ?side2 A9.out).mono ?_); (case side1 => exact Kd.C_below i4.out (aB)); (case side2 => exact i5.out); rintro e S3 ⟨j5, rfl, g7, hb⟩; refine ⟨_, rfl, ?_⟩; have d1 := lN (ok' := fun k_ => (w.heap.size ≤ k_) ∧ some k_ ≠ (c4 : Value).ownBlock ∧ some k_ ≠ (c5 : Value).ownBlock ∧ k_ ≠ b2 ∧ k_ ≠ a9 ∧ k_ ≠ b1) g7;replace a5 := mk0 (Kd.N_elder' (tN a5.out) (Kd.N_base g7) hb);replace a4 := mk0 (Kd.N_elder' (tN a4.out) (Kd.N_base g7) hb);replace b0 := uB b0 hb;replace a7 := uB a7 hb;replace b3 := mk0 (blk_below (g := b1) (o := .cells #[.slice d5 ((rd_T37 l0 b4).f0).length d6, .string ((rd_T37 l0 b4).f1)] 37 (0, 0)) sB hb);replace HB := uW hb; (try clear hb); (try clear g7); have z1 := cZ b3 0; have z2 := cZ b3 1; have z3 := blk_frozen b3.out 0; have z4 := blk_frozen b3.out 1) | (refine gc 17 ?_; refine gl 29 Tryz.func17 #[.string ((rd_T37 l0 b4).f1)] ?_; (with_reducible refine (checker_read.calls k1 ((rd_T37 l0 b4).f1) d4 c9 d0 true _ A10.out).mono ?_); rintro e S4 ⟨n2, n3, rfl, g7, l4, hb⟩; refine ⟨_, rfl, ?_⟩; have b8 := lV (ok' := fun k_ => (w.heap.size ≤ k_) ∧ some k_ ≠ (c4 : Value).ownBlock ∧ some k_ ≠ (c5 : Value).ownBlock ∧ some k_ ≠ (j5 : Value).ownBlock ∧ k_ ≠ b2 ∧ k_ ≠ a9 ∧ k_ ≠ b1) g7;have b9 := lV (ok' := fun k_ => (w.heap.size ≤ k_) ∧ some k_ ≠ (c4 : Value).ownBlock ∧ some k_ ≠ (c5 : Value).ownBlock ∧ some k_ ≠ (j5 : Value).ownBlock ∧ k_ ≠ b2 ∧ k_ ≠ a9 ∧ k_ ≠ b1) l4;replace a5 := uN a5 hb;replace a4 := uN a4 hb;replace d1 := uN d1 hb;replace b0 := uB b0 hb;replace a7 := uB a7 hb;replace b3 := uB b3 hb;replace HB := uW hb; (try clear hb); (try clear g7); (try clear l4)) | (refine gd 12 ?_; (try (refine gate_guard (by rfl) ?_; dsimp only)); refine box_event ?hg (N := 12) ?hd (cs := #[.bool false, .slice none 0 0, .slice none 0 0]) (t := 61) ?hr ?_; (case hd => rfl); (case hg => rfl); (case hr => exact aH); intro a8 hg k6 hbox hb; replace a5 := eN a5 hg hb;replace a4 := eN a4 hg hb;replace d1 := eN d1 hg hb;replace b8 := eV b8 hg hb;replace b9 := eV b9 hg hb;have b5 := mk0 (hbox);have l5 := uG hg;have l6 := uG hg;replace HB := uW hb;have e4 := uL b0 hg;have g2 := uM b0 hg;replace b0 := uB b0 hb;have d8 := uL a7 hg;have f7 := uM a7 hg;replace a7 := uB a7 hb;have e5 := uL b3 hg;have g3 := uM b3 hg;replace b3 := uB b3 hb; clear hb hbox hg; have K8 := g2.out; have K9 := e4.out; have L0 := f7.out; have L1 := d8.out; have L2 := g3.out; have L3 := e5.out; have z5 : k6.cell? ⟨a8, 0, none⟩ = some (.bool false) := (blk_cell b5.out 0).trans rfl; have z6 : k6.cell? ⟨a8, 1, none⟩ = some (.slice none 0 0) := (blk_cell b5.out 1).trans rfl; have z7 : k6.cell? ⟨a8, 2, none⟩ = some (.slice none 0 0) := (blk_cell b5.out 2).trans rfl; have z8 := blk_frozen b5.out 0; have z9 := blk_frozen b5.out 1; have A1 := blk_frozen b5.out 2; obtain ⟨e7, e8, H0⟩ := Kd.V_slice b8.out; subst H0; obtain ⟨f2, f3, H2⟩ := Kd.V_slice b9.out; subst H2; obtain ⟨i9, j0, H3⟩ := Kd.N_slice d1.out; subst H3; obtain ⟨d2, d3, H4⟩ := Kd.N_slice a5.out; subst H4; obtain ⟨b6, b7, H5⟩ := Kd.N_slice a4.out; subst H5))
           have n5 : Aside0 (Kd.N (Kd.slice 61 k61) 64 (((k6.setCell ⟨a8, 0, none⟩ (.bool d4)).setCell ⟨a8, 1, none⟩ (.slice e7 c9.length e8)).setCell ⟨a8, 2, none⟩ (.slice f2 d0.length f3)) w.heap.size (fun k_ => (w.heap.size ≤ k_) ∧ some k_ ≠ (.slice b6 a3.length b7 : Value).ownBlock ∧ some k_ ≠ (.slice i9 e9.length j0 : Value).ownBlock ∧ k_ ≠ b2 ∧ k_ ≠ a9 ∧ k_ ≠ b1 ∧ k_ ≠ a8) (.slice d2 a6.length d3) a6) := ⟨sN a5.out⟩
           have n6 : Aside0 (Kd.N k61 61 (((k6.setCell ⟨a8, 0, none⟩ (.bool d4)).setCell ⟨a8, 1, none⟩ (.slice e7 c9.length e8)).setCell ⟨a8, 2, none⟩ (.slice f2 d0.length f3)) w.heap.size (fun k_ => (w.heap.size ≤ k_) ∧ some k_ ≠ (.slice d2 a6.length d3 : Value).ownBlock ∧ some k_ ≠ (.slice i9 e9.length j0 : Value).ownBlock ∧ k_ ≠ b2 ∧ k_ ≠ a9 ∧ k_ ≠ b1 ∧ k_ ≠ a8) (.slice b6 a3.length b7) a3) := ⟨sN a4.out⟩
           have n7 : Aside0 (Kd.N k61 61 (((k6.setCell ⟨a8, 0, none⟩ (.bool d4)).setCell ⟨a8, 1, none⟩ (.slice e7 c9.length e8)).setCell ⟨a8, 2, none⟩ (.slice f2 d0.length f3)) w.heap.size (fun k_ => (w.heap.size ≤ k_) ∧ some k_ ≠ (.slice d2 a6.length d3 : Value).ownBlock ∧ some k_ ≠ (.slice b6 a3.length b7 : Value).ownBlock ∧ k_ ≠ b2 ∧ k_ ≠ a9 ∧ k_ ≠ b1 ∧ k_ ≠ a8) (.slice i9 e9.length j0) e9) := ⟨sN d1.out⟩
           have n8 : Aside0 (Kd.V (Kd.int .u32) 107 (((k6.setCell ⟨a8, 0, none⟩ (.bool d4)).setCell ⟨a8, 1, none⟩ (.slice e7 c9.length e8)).setCell ⟨a8, 2, none⟩ (.slice f2 d0.length f3)) w.heap.size (fun k_ => (w.heap.size ≤ k_) ∧ some k_ ≠ (.slice d2 a6.length d3 : Value).ownBlock ∧ some k_ ≠ (.slice b6 a3.length b7 : Value).ownBlock ∧ some k_ ≠ (.slice i9 e9.length j0 : Value).ownBlock ∧ k_ ≠ b2 ∧ k_ ≠ a9 ∧ k_ ≠ b1 ∧ k_ ≠ a8) (.slice e7 c9.length e8) c9) := ⟨sV b8.out⟩
           have n9 : Aside0 (Kd.V (Kd.int .u32) 107 (((k6.setCell ⟨a8, 0, none⟩ (.bool d4)).setCell ⟨a8, 1, none⟩ (.slice e7 c9.length e8)).setCell ⟨a8, 2, none⟩ (.slice f2 d0.length f3)) w.heap.size (fun k_ => (w.heap.size ≤ k_) ∧ some k_ ≠ (.slice d2 a6.length d3 : Value).ownBlock ∧ some k_ ≠ (.slice b6 a3.length b7 : Value).ownBlock ∧ some k_ ≠ (.slice i9 e9.length j0 : Value).ownBlock ∧ k_ ≠ b2 ∧ k_ ≠ a9 ∧ k_ ≠ b1 ∧ k_ ≠ a8) (.slice f2 d0.length f3) d0) := ⟨sV b9.out⟩
           have o1 : Aside0 ((((k6.setCell ⟨a8, 0, none⟩ (.bool d4)).setCell ⟨a8, 1, none⟩ (.slice e7 c9.length e8)).setCell ⟨a8, 2, none⟩ (.slice f2 d0.length f3)).heap[b2]? = some (.cells #[.slice i2 e6.length i3] 40 (0, 0))) := ⟨by (with_reducible repeat (first | refine blk_drewN ?_ _ | refine blk_drew ?_ | refine blk_alloc ?_ _)); refine blk_far ?_ e4.out _; (with_reducible repeat (first | refine blk_drewN ?_ _ | refine blk_drew ?_ | refine blk_alloc ?_ _)); refine blk_far ?_ e4.out _; (with_reducible repeat (first | refine blk_drewN ?_ _ | refine blk_drew ?_ | refine blk_alloc ?_ _)); refine blk_far ?_ e4.out _; (with_reducible repeat (first | refine blk_drewN ?_ _ | refine blk_drew ?_ | refine blk_alloc ?_ _)); exact b0.out⟩
           have o2 : Aside0 ((((k6.setCell ⟨a8, 0, none⟩ (.bool d4)).setCell ⟨a8, 1, none⟩ (.slice e7 c9.length e8)).setCell ⟨a8, 2, none⟩ (.slice f2 d0.length f3)).heap[a9]? = some (.cells #[.slice d2 a6.length d3, .slice b6 a3.length b7, .slice none 0 0] 69 (0, 0))) := ⟨by (with_reducible repeat (first | refine blk_drewN ?_ _ | refine blk_drew ?_ | refine blk_alloc ?_ _)); refine blk_far ?_ d8.out _; (with_reducible repeat (first | refine blk_drewN ?_ _ | refine blk_drew ?_ | refine blk_alloc ?_ _)); refine blk_far ?_ d8.out _; (with_reducible repeat (first | refine blk_drewN ?_ _ | refine blk_drew ?_ | refine blk_alloc ?_ _)); refine blk_far ?_ d8.out _; (with_reducible repeat (first | refine blk_drewN ?_ _ | refine blk_drew ?_ | refine blk_alloc ?_ _)); exact a7.out⟩
           have o3 : Aside0 ((((k6.setCell ⟨a8, 0, none⟩ (.bool d4)).setCell ⟨a8, 1, none⟩ (.slice e7 c9.length e8)).setCell ⟨a8, 2, none⟩ (.slice f2 d0.length f3)).heap[b1]? = some (.cells #[.slice d5 ((rd_T37 l0 b4).f0).length d6, .string ((rd_T37 l0 b4).f1)] 37 (0, 0))) := ⟨by (with_reducible repeat (first | refine blk_drewN ?_ _ | refine blk_drew ?_ | refine blk_alloc ?_ _)); refine blk_far ?_ e5.out _; (with_reducible repeat (first | refine blk_drewN ?_ _ | refine blk_drew ?_ | refine blk_alloc ?_ _)); refine blk_far ?_ e5.out _; (with_reducible repeat (first | refine blk_drewN ?_ _ | refine blk_drew ?_ | refine blk_alloc ?_ _)); refine blk_far ?_ e5.out _; (with_reducible repeat (first | refine blk_drewN ?_ _ | refine blk_drew ?_ | refine blk_alloc ?_ _)); exact b3.out⟩
           have o4 : Aside0 ((((k6.setCell ⟨a8, 0, none⟩ (.bool d4)).setCell ⟨a8, 1, none⟩ (.slice e7 c9.length e8)).setCell ⟨a8, 2, none⟩ (.slice f2 d0.length f3)).heap[a8]? = some (.cells #[.bool d4, .slice e7 c9.length e8, .slice f2 d0.length f3] 61 (0, 0))) := ⟨by (with_reducible repeat (first | refine blk_drewN ?_ _ | refine blk_drew ?_ | refine blk_alloc ?_ _)); refine blk_put (cs := #[.bool d4, .slice e7 c9.length e8, .slice none 0 0]) ?_ 2 _ rfl; (with_reducible repeat (first | refine blk_drewN ?_ _ | refine blk_drew ?_ | refine blk_alloc ?_ _)); refine blk_put (cs := #[.bool d4, .slice none 0 0, .slice none 0 0]) ?_ 1 _ rfl; (with_reducible repeat (first | refine blk_drewN ?_ _ | refine blk_drew ?_ | refine blk_alloc ?_ _)); refine blk_put (cs := #[.bool false, .slice none 0 0, .slice none 0 0]) ?_ 0 _ rfl; (with_reducible repeat (first | refine blk_drewN ?_ _ | refine blk_drew ?_ | refine blk_alloc ?_ _)); exact b5.out⟩
           have o5 : Aside0 (Below w.heap.size w (((k6.setCell ⟨a8, 0, none⟩ (.bool d4)).setCell ⟨a8, 1, none⟩ (.slice e7 c9.length e8)).setCell ⟨a8, 2, none⟩ (.slice f2 d0.length f3))) := ⟨aB⟩
           (try clear a5)
           (try clear a4)
           (try clear d1)
           (try clear b8)
           (try clear b9)
           (try clear b0)
           (try clear a7)
           (try clear b3)
           (try clear b5)
           (try clear HB)
           generalize (((k6.setCell ⟨a8, 0, none⟩ (.bool d4)).setCell ⟨a8, 1, none⟩ (.slice e7 c9.length e8)).setCell ⟨a8, 2, none⟩ (.slice f2 d0.length f3)) = Q1 at n5 n6 n7 n8 n9 o1 o2 o3 o4 o5 ⊢
           have a5 := n5
           have a4 := n6
           have d1 := n7
           have b8 := n8
           have b9 := n9
           have b0 := o1
           have a7 := o2
           have b3 := o3
           have b5 := o4
           have HB := o5
           clear n5 n6 n7 n8 n9 o1 o2 o3 o4 o5
           replace a5 := mk0 (Kd.N_drew a5.out)
           replace a4 := mk0 (Kd.N_drew a4.out)
           replace d1 := mk0 (Kd.N_drew d1.out)
           replace b8 := mk0 (Kd.V_drew b8.out)
           replace b9 := mk0 (Kd.V_drew b9.out)
           replace b0 := mk0 (blk_drew b0.out)
           replace a7 := mk0 (blk_drew a7.out)
           replace b3 := mk0 (blk_drew b3.out)
           replace b5 := mk0 (blk_drew b5.out)
           replace HB := mk0 (below_drew1 HB.out)
           refine start_ (n := 14) (S := fun w' => w'.cell? ⟨a9, 0, none⟩ = some (.slice d2 a6.length d3) ∧ w'.cell? ⟨a9, 1, none⟩ = some (.slice b6 a3.length b7) ∧ w'.cell? ⟨a9, 2, none⟩ = some (.slice none 0 0) ∧ w'.cell? ⟨a8, 0, none⟩ = some (.bool d4) ∧ w'.cell? ⟨a8, 1, none⟩ = some (.slice e7 c9.length e8) ∧ w'.cell? ⟨a8, 2, none⟩ = some (.slice f2 d0.length f3)) (ds := [11, 13]) #[false, false, false, false, false, false, false, false, false, false, false, false, false, false] (by kernel_rfl) rfl rfl cS (fun g5 => ?_); refine with_tabW checker_open.tab8 checker_open.bits8 (fun HT_ HW_ => ?_)
           generalize Q1.drew = L4 at a5 a4 d1 b8 b9 b0 a7 b3 b5 HB g5 ⊢
           refine pu 0 45 HT_ ?_
           refine pu 2 47 HT_ ?_
           refine pu 5 50 HT_ ?_
           refine tk 1 46 HT_ HW_ g5 ?_
           refine tk 6 51 HT_ HW_ g5 ?_
           refine tk 7 52 HT_ HW_ g5 ?_
           refine join_ (σ := Value × Value × Value) 4 #[true, true, true, true, true, true, true, true, true, false, true, false, false, false] (fun s_ => [(48, s_.1), (49, s_.2.1), (53, s_.2.2), (55, .pointer (some ⟨a9, 0, none⟩))]) (fun s_ w' => (w'.cell? ⟨a9, 0, none⟩ = some (.slice d2 a6.length d3) ∧ w'.cell? ⟨a9, 1, none⟩ = some (.slice b6 a3.length b7) ∧ w'.cell? ⟨a9, 2, none⟩ = some (.slice none 0 0) ∧ w'.cell? ⟨a8, 0, none⟩ = some (.bool d4) ∧ w'.cell? ⟨a8, 1, none⟩ = some (.slice e7 c9.length e8) ∧ w'.cell? ⟨a8, 2, none⟩ = some (.slice f2 d0.length f3)) ∧ (Kd.V (Kd.int .u32) 107 w' w.heap.size (fun k_ => (w.heap.size ≤ k_) ∧ some k_ ≠ (s_.1 : Value).ownBlock ∧ some k_ ≠ (s_.2.1 : Value).ownBlock ∧ some k_ ≠ (s_.2.2 : Value).ownBlock ∧ some k_ ≠ (.slice b6 a3.length b7 : Value).ownBlock ∧ k_ ≠ b2 ∧ k_ ≠ a9 ∧ k_ ≠ b1 ∧ k_ ≠ a8) (.slice e7 c9.length e8) c9) ∧ (Kd.V (Kd.int .u32) 107 w' w.heap.size (fun k_ => (w.heap.size ≤ k_) ∧ some k_ ≠ (s_.1 : Value).ownBlock ∧ some k_ ≠ (s_.2.1 : Value).ownBlock ∧ some k_ ≠ (s_.2.2 : Value).ownBlock ∧ some k_ ≠ (.slice b6 a3.length b7 : Value).ownBlock ∧ k_ ≠ b2 ∧ k_ ≠ a9 ∧ k_ ≠ b1 ∧ k_ ≠ a8) (.slice f2 d0.length f3) d0) ∧ (Kd.N (Kd.slice 61 k61) 64 w' w.heap.size (fun k_ => (w.heap.size ≤ k_) ∧ some k_ ≠ (s_.2.1 : Value).ownBlock ∧ some k_ ≠ (s_.2.2 : Value).ownBlock ∧ some k_ ≠ (.slice b6 a3.length b7 : Value).ownBlock ∧ k_ ≠ b2 ∧ k_ ≠ a9 ∧ k_ ≠ b1 ∧ k_ ≠ a8) s_.1 d7) ∧ (Kd.N (Kd.slice 61 k61) 64 w' w.heap.size (fun k_ => (w.heap.size ≤ k_) ∧ some k_ ≠ (s_.2.2 : Value).ownBlock ∧ some k_ ≠ (.slice b6 a3.length b7 : Value).ownBlock ∧ k_ ≠ b2 ∧ k_ ≠ a9 ∧ k_ ≠ b1 ∧ k_ ≠ a8) s_.2.1 j8) ∧ (Kd.N k61 61 w' w.heap.size (fun k_ => (w.heap.size ≤ k_) ∧ some k_ ≠ (s_.1 : Value).ownBlock ∧ some k_ ≠ (s_.2.1 : Value).ownBlock ∧ some k_ ≠ (.slice b6 a3.length b7 : Value).ownBlock ∧ k_ ≠ b2 ∧ k_ ≠ a9 ∧ k_ ≠ b1 ∧ k_ ≠ a8) s_.2.2 g4) ∧ (Kd.N k61 61 w' w.heap.size (fun k_ => (w.heap.size ≤ k_) ∧ some k_ ≠ (s_.1 : Value).ownBlock ∧ some k_ ≠ (s_.2.1 : Value).ownBlock ∧ some k_ ≠ (s_.2.2 : Value).ownBlock ∧ k_ ≠ b2 ∧ k_ ≠ a9 ∧ k_ ≠ b1 ∧ k_ ≠ a8) (.slice b6 a3.length b7) a3) ∧ (w'.heap[b2]? = some (.cells #[.slice i2 e6.length i3] 40 (0, 0))) ∧ (w'.heap[a9]? = some (.cells #[.slice d2 a6.length d3, .slice b6 a3.length b7, .slice none 0 0] 69 (0, 0))) ∧ (w'.heap[b1]? = some (.cells #[.slice d5 ((rd_T37 l0 b4).f0).length d6, .string ((rd_T37 l0 b4).f1)] 37 (0, 0))) ∧ (w'.heap[a8]? = some (.cells #[.bool d4, .slice e7 c9.length e8, .slice f2 d0.length f3] 61 (0, 0))) ∧ (Below w.heap.size w w')) ?_ ?_
           rotate_left
           ·
            intro l7
            refine two_ (i := 3) (j := 8) (Ni := some 48) (Nj := some 53) #[true, true, true, true, false, true, true, true, false, false, false, false, false, false] #[true, true, true, false, false, true, true, true, true, false, false, false, false, false] rfl rfl rfl rfl (two_of HT_.out (by kernel_rfl)) (by decide) (by decide) (fun K hK => ?_) (fun K hK => ?_)
            ·
             skip
             refine Kd.N_lit_step (Kd.slice 61 k61) _ 64 ?hg (N' := 48) ?hd (xs := ([e9] : List (List (S61)))) (inner := [.slice i9 e9.length j0]) (ok := (fun k_ => (w.heap.size ≤ k_) ∧ some k_ ≠ (.slice d2 a6.length d3 : Value).ownBlock ∧ some k_ ≠ (.slice b6 a3.length b7 : Value).ownBlock ∧ k_ ≠ b2 ∧ k_ ≠ a9 ∧ k_ ≠ b1 ∧ k_ ≠ a8)) (okp := (fun k_ => (w.heap.size ≤ k_) ∧ some k_ ≠ (.slice d2 a6.length d3 : Value).ownBlock ∧ some k_ ≠ (.slice b6 a3.length b7 : Value).ownBlock ∧ k_ ≠ b2 ∧ k_ ≠ a9 ∧ k_ ≠ b1 ∧ k_ ≠ a8)) ?hr ?hp (fun _ hk => hk) ((show ∀ k_, L4.heap.size ≤ k_ → (fun k_ => (w.heap.size ≤ k_) ∧ some k_ ≠ (.slice d2 a6.length d3 : Value).ownBlock ∧ some k_ ≠ (.slice b6 a3.length b7 : Value).ownBlock ∧ k_ ≠ b2 ∧ k_ ≠ a9 ∧ k_ ≠ b1 ∧ k_ ≠ a8) k_ from fun k_ hk => ⟨(Nat.le_trans (below_size (aB)) hk), Kd.fresh' (Kd.N_lt (pN a5.out)) k_ hk, Kd.fresh' (Kd.N_lt (pN a4.out)) k_ hk, Kd.freshB (g := b2) (o := .cells #[.slice i2 e6.length i3] 40 (0, 0)) (pB b0.out) k_ hk, Kd.freshB (g := a9) (o := .cells #[.slice d2 a6.length d3, .slice b6 a3.length b7, .slice none 0 0] 69 (0, 0)) (pB a7.out) k_ hk, Kd.freshB (g := b1) (o := .cells #[.slice d5 ((rd_T37 l0 b4).f0).length d6, .string ((rd_T37 l0 b4).f1)] 37 (0, 0)) (pB b3.out) k_ hk, Kd.freshB (g := a8) (o := .cells #[.bool d4, .slice e7 c9.length e8, .slice f2 d0.length f3] 61 (0, 0)) (pB b5.out) k_ hk⟩) _ (Nat.le_refl _)) (Below.refl _ _) (Nat.le_refl _) (by simp) ?_; (case hd => rfl); (case hg => rfl); (case hr => exact aH); (case hp => exact (Reps.one (show Kd.FK (Kd.slice 61 k61) _ _ e9 [.slice i9 e9.length j0] from (Kd.FK_slice_mk (Kd.N_reads' (Kd.N_mono (ok' := (fun k_ => (w.heap.size ≤ k_) ∧ some k_ ≠ (.slice d2 a6.length d3 : Value).ownBlock ∧ some k_ ≠ (.slice b6 a3.length b7 : Value).ownBlock ∧ k_ ≠ b2 ∧ k_ ≠ a9 ∧ k_ ≠ b1 ∧ k_ ≠ a8)) (d1.out) (fun k_ hk => ⟨hk.1, ⟨hk.2.1, ⟨hk.2.2.1, ⟨hk.2.2.2.1, ⟨hk.2.2.2.2.1, ⟨hk.2.2.2.2.2.1, hk.2.2.2.2.2.2⟩⟩⟩⟩⟩⟩))).2.1 (Kd.N_F (Kd.N_mono (ok' := (fun k_ => (w.heap.size ≤ k_) ∧ some k_ ≠ (.slice d2 a6.length d3 : Value).ownBlock ∧ some k_ ≠ (.slice b6 a3.length b7 : Value).ownBlock ∧ k_ ≠ b2 ∧ k_ ≠ a9 ∧ k_ ≠ b1 ∧ k_ ≠ a8)) (d1.out) (fun k_ hk => ⟨hk.1, ⟨hk.2.1, ⟨hk.2.2.1, ⟨hk.2.2.2.1, ⟨hk.2.2.2.2.1, ⟨hk.2.2.2.2.2.1, hk.2.2.2.2.2.2⟩⟩⟩⟩⟩⟩))))) (Reps.none _ _)))
             intro j4 H6 j1 hb hg_ hnew_
             clear hg_ hnew_
             rw [← Ny297.out] at j1
             replace a5 := dN a5 (Kd.N_base j1) hb
             replace a4 := dN a4 (Kd.N_base j1) hb
             replace b8 := dV b8 (Kd.N_base j1) hb
             replace b9 := dV b9 (Kd.N_base j1) hb
             have e1 := mN j1
             replace b0 := uB b0 hb
             replace a7 := uB a7 hb
             replace b3 := uB b3 hb
             replace b5 := uB b5 hb
             replace HB := uW hb
             clear d1
             clear hb j1
             obtain ⟨i6, i7, o9⟩ := Kd.N_slice e1.out
             (first | subst o9 | (injection o9 with f1_ f2_ f3_; have f4_ := f1_.symm; have f5_ := f3_.symm; clear f1_ f2_ f3_; subst f4_; subst f5_))
             refine hK.out _ _ cS (fun g5 => ?_)
             clear hK K
             refine norm_ (a' := ?_) ?_ ?_
             rotate_left
             ·
              show Act.put _ (some 48) _ = _
              exact aP
             refine two_ (i := 4) (j := 8) (Ni := some 49) (Nj := some 53) #[true, true, true, true, true, true, true, true, false, false, false, false, false, false] #[true, true, true, true, false, true, true, true, true, false, false, false, false, false] rfl rfl rfl rfl (two_of HT_.out (by kernel_rfl)) (by decide) (by decide) (fun K hK => ?_) (fun K hK => ?_)
             ·
              skip
              refine Kd.N_append_rows_step (Kd.slice 61 k61) (w0 := w) w.heap.size (by rfl) (.tmp 46) (.tmp 48) 67 64 (.slice none 0 0) 24 rfl Tryz.underlying67 info64 rfl (by decide) (by omega) (.slice d2 a6.length d3) a6 d7 _ _ _ (fun k_ => (w.heap.size ≤ k_) ∧ some k_ ≠ (.slice b6 a3.length b7 : Value).ownBlock ∧ k_ ≠ b2 ∧ k_ ≠ a9 ∧ k_ ≠ b1 ∧ k_ ≠ a8) (fun k_ => ((fun k_ => (w.heap.size ≤ k_) ∧ some k_ ≠ (.slice b6 a3.length b7 : Value).ownBlock ∧ k_ ≠ b2 ∧ k_ ≠ a9 ∧ k_ ≠ b1 ∧ k_ ≠ a8)) k_ ∧ some k_ ≠ (.slice d2 a6.length d3 : Value).ownBlock) rfl rfl ?aO ?aR (fun _ hk => hk) ?aF ?aB ?aS ?aL ?_
              (case aR => exact (by skip; exact Kd.N_F (Kd.N_mono (ok' := (fun k_ => ((fun k_ => (w.heap.size ≤ k_) ∧ some k_ ≠ (.slice b6 a3.length b7 : Value).ownBlock ∧ k_ ≠ b2 ∧ k_ ≠ a9 ∧ k_ ≠ b1 ∧ k_ ≠ a8)) k_ ∧ some k_ ≠ (.slice d2 a6.length d3 : Value).ownBlock)) (e1.out) (fun k_ hk => ⟨⟨hk.1, ⟨hk.2.2.1, ⟨hk.2.2.2.1, ⟨hk.2.2.2.2.1, ⟨hk.2.2.2.2.2.1, hk.2.2.2.2.2.2⟩⟩⟩⟩⟩, hk.2.1⟩))))
              (case aB => exact (aB))
              (case aF => exact (fun k_ hk => ⟨(Nat.le_trans (below_size (aB)) hk), Kd.fresh' (Kd.N_lt (pN a4.out)) k_ hk, Kd.freshB (g := b2) (o := .cells #[.slice i2 e6.length i3] 40 (0, 0)) (pB b0.out) k_ hk, Kd.freshB (g := a9) (o := .cells #[.slice d2 a6.length d3, .slice b6 a3.length b7, .slice none 0 0] 69 (0, 0)) (pB a7.out) k_ hk, Kd.freshB (g := b1) (o := .cells #[.slice d5 ((rd_T37 l0 b4).f0).length d6, .string ((rd_T37 l0 b4).f1)] 37 (0, 0)) (pB b3.out) k_ hk, Kd.freshB (g := a8) (o := .cells #[.bool d4, .slice e7 c9.length e8, .slice f2 d0.length f3] 61 (0, 0)) (pB b5.out) k_ hk⟩))
              (case aO => exact (sN a5.out))
              (case aS => exact (below_size (aB)))
              (case aL => have := k9.out; omega)
              intro g6 H7 ho hb hg hat
              rw [← Ny300.out] at ho
              replace a4 := mk0 (Kd.N_afterv (ok := (fun k_ => (w.heap.size ≤ k_) ∧ some k_ ≠ (.slice i6 d7.length i7 : Value).ownBlock ∧ k_ ≠ b2 ∧ k_ ≠ a9 ∧ k_ ≠ b1 ∧ k_ ≠ a8)) (sN a4.out) hg hat)
              replace b0 := gB b0 hg (Kd.N_ne a5.out b0.out (by decide))
              replace a7 := gB a7 hg (Kd.N_ne a5.out a7.out (by decide))
              replace b3 := gB b3 hg (Kd.N_ne a5.out b3.out (by decide))
              replace b8 := mk0 (Kd.V_afterv (ok := (fun k_ => (w.heap.size ≤ k_) ∧ some k_ ≠ (.slice b6 a3.length b7 : Value).ownBlock ∧ some k_ ≠ (.slice i6 d7.length i7 : Value).ownBlock ∧ k_ ≠ b2 ∧ k_ ≠ a9 ∧ k_ ≠ b1 ∧ k_ ≠ a8)) (sV b8.out) hg hat)
              replace b9 := mk0 (Kd.V_afterv (ok := (fun k_ => (w.heap.size ≤ k_) ∧ some k_ ≠ (.slice b6 a3.length b7 : Value).ownBlock ∧ some k_ ≠ (.slice i6 d7.length i7 : Value).ownBlock ∧ k_ ≠ b2 ∧ k_ ≠ a9 ∧ k_ ≠ b1 ∧ k_ ≠ a8)) (sV b9.out) hg hat)
              replace b5 := gB b5 hg (Kd.N_ne a5.out b5.out (by decide))
              replace e1 := mk0 (Kd.N_afterv (ok := (fun k_ => (w.heap.size ≤ k_) ∧ some k_ ≠ (.slice b6 a3.length b7 : Value).ownBlock ∧ k_ ≠ b2 ∧ k_ ≠ a9 ∧ k_ ≠ b1 ∧ k_ ≠ a8)) (sN e1.out) hg hat)
              replace HB := mk0 (hb)
              have i1 := mk0 (ho)
              clear a5
              clear ho hb hg hat
              refine hK.out _ _ cS (fun g5 => ?_)
              clear hK K
              refine norm_ (a' := ?_) ?_ ?_
              rotate_left
              ·
               show Act.put _ (some 49) _ = _
               exact aP
              refine pu 10 55 HT_ ?_
              refine oN 8 53 HT_ (fun K hK => ?_)
              refine Kd.N_lit_step k61 _ 61 ?hg (N' := 53) ?hd (xs := ([(⟨d4, c9, d0⟩ : S61)] : List (S61))) (inner := [.bool d4, .slice e7 c9.length e8, .slice f2 d0.length f3]) (ok := (fun k_ => (w.heap.size ≤ k_) ∧ some k_ ≠ (.slice b6 a3.length b7 : Value).ownBlock ∧ some k_ ≠ (.slice i6 d7.length i7 : Value).ownBlock ∧ some k_ ≠ (g6 : Value).ownBlock ∧ k_ ≠ b2 ∧ k_ ≠ a9 ∧ k_ ≠ b1 ∧ k_ ≠ a8)) (okp := (fun k_ => (w.heap.size ≤ k_) ∧ some k_ ≠ (.slice b6 a3.length b7 : Value).ownBlock ∧ some k_ ≠ (.slice i6 d7.length i7 : Value).ownBlock ∧ some k_ ≠ (g6 : Value).ownBlock ∧ k_ ≠ b2 ∧ k_ ≠ a9 ∧ k_ ≠ b1 ∧ k_ ≠ a8)) ?hr ?hp (fun _ hk => hk) ((show ∀ k_, H7.heap.size ≤ k_ → (fun k_ => (w.heap.size ≤ k_) ∧ some k_ ≠ (.slice b6 a3.length b7 : Value).ownBlock ∧ some k_ ≠ (.slice i6 d7.length i7 : Value).ownBlock ∧ some k_ ≠ (g6 : Value).ownBlock ∧ k_ ≠ b2 ∧ k_ ≠ a9 ∧ k_ ≠ b1 ∧ k_ ≠ a8) k_ from fun k_ hk => ⟨(Nat.le_trans (below_size (aB)) hk), Kd.fresh' (Kd.N_lt (pN a4.out)) k_ hk, Kd.fresh' (Kd.N_lt (pN e1.out)) k_ hk, Kd.fresh' (Kd.N_lt (pN i1.out)) k_ hk, Kd.freshB (g := b2) (o := .cells #[.slice i2 e6.length i3] 40 (0, 0)) (pB b0.out) k_ hk, Kd.freshB (g := a9) (o := .cells #[.slice d2 a6.length d3, .slice b6 a3.length b7, .slice none 0 0] 69 (0, 0)) (pB a7.out) k_ hk, Kd.freshB (g := b1) (o := .cells #[.slice d5 ((rd_T37 l0 b4).f0).length d6, .string ((rd_T37 l0 b4).f1)] 37 (0, 0)) (pB b3.out) k_ hk, Kd.freshB (g := a8) (o := .cells #[.bool d4, .slice e7 c9.length e8, .slice f2 d0.length f3] 61 (0, 0)) (pB b5.out) k_ hk⟩) _ (Nat.le_refl _)) (Below.refl _ _) (Nat.le_refl _) (by simp) ?_; (case hd => rfl); (case hg => rfl); (case hr => exact aH); (case hp => exact (Reps.c3 (show Kd.FK k61 _ _ (⟨d4, c9, d0⟩ : S61) [.bool d4, .slice e7 c9.length e8, .slice f2 d0.length f3] from (k61_mkF _ _ (⟨d4, c9, d0⟩ : S61) (Kd.V_reads' (Kd.V_mono (ok' := (fun k_ => (w.heap.size ≤ k_) ∧ some k_ ≠ (.slice b6 a3.length b7 : Value).ownBlock ∧ some k_ ≠ (.slice i6 d7.length i7 : Value).ownBlock ∧ some k_ ≠ (g6 : Value).ownBlock ∧ k_ ≠ b2 ∧ k_ ≠ a9 ∧ k_ ≠ b1 ∧ k_ ≠ a8)) (b8.out) (fun k_ hk => ⟨hk.1.1, ⟨hk.1.2.1, ⟨hk.1.2.2.1, ⟨hk.2, ⟨hk.1.2.2.2.1, ⟨hk.1.2.2.2.2.1, ⟨hk.1.2.2.2.2.2.1, hk.1.2.2.2.2.2.2⟩⟩⟩⟩⟩⟩⟩))).2.1 (Kd.V_F (Kd.V_mono (ok' := (fun k_ => (w.heap.size ≤ k_) ∧ some k_ ≠ (.slice b6 a3.length b7 : Value).ownBlock ∧ some k_ ≠ (.slice i6 d7.length i7 : Value).ownBlock ∧ some k_ ≠ (g6 : Value).ownBlock ∧ k_ ≠ b2 ∧ k_ ≠ a9 ∧ k_ ≠ b1 ∧ k_ ≠ a8)) (b8.out) (fun k_ hk => ⟨hk.1.1, ⟨hk.1.2.1, ⟨hk.1.2.2.1, ⟨hk.2, ⟨hk.1.2.2.2.1, ⟨hk.1.2.2.2.2.1, ⟨hk.1.2.2.2.2.2.1, hk.1.2.2.2.2.2.2⟩⟩⟩⟩⟩⟩⟩))) (Kd.V_reads' (Kd.V_mono (ok' := (fun k_ => (w.heap.size ≤ k_) ∧ some k_ ≠ (.slice b6 a3.length b7 : Value).ownBlock ∧ some k_ ≠ (.slice i6 d7.length i7 : Value).ownBlock ∧ some k_ ≠ (g6 : Value).ownBlock ∧ k_ ≠ b2 ∧ k_ ≠ a9 ∧ k_ ≠ b1 ∧ k_ ≠ a8)) (b9.out) (fun k_ hk => ⟨hk.1.1, ⟨hk.1.2.1, ⟨hk.1.2.2.1, ⟨hk.2, ⟨hk.1.2.2.2.1, ⟨hk.1.2.2.2.2.1, ⟨hk.1.2.2.2.2.2.1, hk.1.2.2.2.2.2.2⟩⟩⟩⟩⟩⟩⟩))).2.1 (Kd.V_F (Kd.V_mono (ok' := (fun k_ => (w.heap.size ≤ k_) ∧ some k_ ≠ (.slice b6 a3.length b7 : Value).ownBlock ∧ some k_ ≠ (.slice i6 d7.length i7 : Value).ownBlock ∧ some k_ ≠ (g6 : Value).ownBlock ∧ k_ ≠ b2 ∧ k_ ≠ a9 ∧ k_ ≠ b1 ∧ k_ ≠ a8)) (b9.out) (fun k_ hk => ⟨hk.1.1, ⟨hk.1.2.1, ⟨hk.1.2.2.1, ⟨hk.2, ⟨hk.1.2.2.2.1, ⟨hk.1.2.2.2.2.1, ⟨hk.1.2.2.2.2.2.1, hk.1.2.2.2.2.2.2⟩⟩⟩⟩⟩⟩⟩))))) (Reps.none _ _)))
              intro f8 L5 j9 hb hg_ hnew_
              clear hg_ hnew_
              rw [← Ny303.out] at j9
              replace a4 := dN a4 (Kd.N_base j9) hb
              replace b8 := dV b8 (Kd.N_base j9) hb
              replace b9 := dV b9 (Kd.N_base j9) hb
              replace e1 := dN e1 (Kd.N_base j9) hb
              replace i1 := dN i1 (Kd.N_base j9) hb
              have f9 := mN j9
              replace b0 := uB b0 hb
              replace a7 := uB a7 hb
              replace b3 := uB b3 hb
              replace b5 := uB b5 hb
              replace HB := uW hb
              clear hb j9
              refine hK.out _ _ cS (fun g5 => ?_)
              clear hK K
              refine norm_ (a' := ?_) ?_ ?_
              rotate_left
              ·
               show Act.put _ (some 53) _ = _
               exact aP
              exact norm_ (by simp only [putAll, Act.put, List.setIfInBounds_toArray, List.set_cons_zero, List.set_cons_succ]) (l7 (.slice i6 d7.length i7, g6, f8) _ ⟨g5, (sV b8.out), (sV b9.out), (sN e1.out), (sN i1.out), (sN f9.out), (sN a4.out), (pB b0.out), (pB a7.out), (pB b3.out), (pB b5.out), (aB)⟩)
             ·
              skip
              refine Kd.N_lit_step k61 _ 61 ?hg (N' := 53) ?hd (xs := ([(⟨d4, c9, d0⟩ : S61)] : List (S61))) (inner := [.bool d4, .slice e7 c9.length e8, .slice f2 d0.length f3]) (ok := (fun k_ => (w.heap.size ≤ k_) ∧ some k_ ≠ (.slice d2 a6.length d3 : Value).ownBlock ∧ some k_ ≠ (.slice b6 a3.length b7 : Value).ownBlock ∧ some k_ ≠ (.slice i6 d7.length i7 : Value).ownBlock ∧ k_ ≠ b2 ∧ k_ ≠ a9 ∧ k_ ≠ b1 ∧ k_ ≠ a8)) (okp := (fun k_ => (w.heap.size ≤ k_) ∧ some k_ ≠ (.slice d2 a6.length d3 : Value).ownBlock ∧ some k_ ≠ (.slice b6 a3.length b7 : Value).ownBlock ∧ some k_ ≠ (.slice i6 d7.length i7 : Value).ownBlock ∧ k_ ≠ b2 ∧ k_ ≠ a9 ∧ k_ ≠ b1 ∧ k_ ≠ a8)) ?hr ?hp (fun _ hk => hk) ((show ∀ k_, H6.heap.size ≤ k_ → (fun k_ => (w.heap.size ≤ k_) ∧ some k_ ≠ (.slice d2 a6.length d3 : Value).ownBlock ∧ some k_ ≠ (.slice b6 a3.length b7 : Value).ownBlock ∧ some k_ ≠ (.slice i6 d7.length i7 : Value).ownBlock ∧ k_ ≠ b2 ∧ k_ ≠ a9 ∧ k_ ≠ b1 ∧ k_ ≠ a8) k_ from fun k_ hk => ⟨(Nat.le_trans (below_size (aB)) hk), Kd.fresh' (Kd.N_lt (pN a5.out)) k_ hk, Kd.fresh' (Kd.N_lt (pN a4.out)) k_ hk, Kd.fresh' (Kd.N_lt (pN e1.out)) k_ hk, Kd.freshB (g := b2) (o := .cells #[.slice i2 e6.length i3] 40 (0, 0)) (pB b0.out) k_ hk, Kd.freshB (g := a9) (o := .cells #[.slice d2 a6.length d3, .slice b6 a3.length b7, .slice none 0 0] 69 (0, 0)) (pB a7.out) k_ hk, Kd.freshB (g := b1) (o := .cells #[.slice d5 ((rd_T37 l0 b4).f0).length d6, .string ((rd_T37 l0 b4).f1)] 37 (0, 0)) (pB b3.out) k_ hk, Kd.freshB (g := a8) (o := .cells #[.bool d4, .slice e7 c9.length e8, .slice f2 d0.length f3] 61 (0, 0)) (pB b5.out) k_ hk⟩) _ (Nat.le_refl _)) (Below.refl _ _) (Nat.le_refl _) (by simp) ?_; (case hd => rfl); (case hg => rfl); (case hr => exact aH); (case hp => exact (Reps.c3 (show Kd.FK k61 _ _ (⟨d4, c9, d0⟩ : S61) [.bool d4, .slice e7 c9.length e8, .slice f2 d0.length f3] from (k61_mkF _ _ (⟨d4, c9, d0⟩ : S61) (Kd.V_reads' (Kd.V_mono (ok' := (fun k_ => (w.heap.size ≤ k_) ∧ some k_ ≠ (.slice d2 a6.length d3 : Value).ownBlock ∧ some k_ ≠ (.slice b6 a3.length b7 : Value).ownBlock ∧ some k_ ≠ (.slice i6 d7.length i7 : Value).ownBlock ∧ k_ ≠ b2 ∧ k_ ≠ a9 ∧ k_ ≠ b1 ∧ k_ ≠ a8)) (b8.out) (fun k_ hk => ⟨hk.1.1, ⟨hk.1.2.1, ⟨hk.1.2.2.1, ⟨hk.2, ⟨hk.1.2.2.2.2.1, ⟨hk.1.2.2.2.2.2.1, ⟨hk.1.2.2.2.2.2.2.1, hk.1.2.2.2.2.2.2.2⟩⟩⟩⟩⟩⟩⟩))).2.1 (Kd.V_F (Kd.V_mono (ok' := (fun k_ => (w.heap.size ≤ k_) ∧ some k_ ≠ (.slice d2 a6.length d3 : Value).ownBlock ∧ some k_ ≠ (.slice b6 a3.length b7 : Value).ownBlock ∧ some k_ ≠ (.slice i6 d7.length i7 : Value).ownBlock ∧ k_ ≠ b2 ∧ k_ ≠ a9 ∧ k_ ≠ b1 ∧ k_ ≠ a8)) (b8.out) (fun k_ hk => ⟨hk.1.1, ⟨hk.1.2.1, ⟨hk.1.2.2.1, ⟨hk.2, ⟨hk.1.2.2.2.2.1, ⟨hk.1.2.2.2.2.2.1, ⟨hk.1.2.2.2.2.2.2.1, hk.1.2.2.2.2.2.2.2⟩⟩⟩⟩⟩⟩⟩))) (Kd.V_reads' (Kd.V_mono (ok' := (fun k_ => (w.heap.size ≤ k_) ∧ some k_ ≠ (.slice d2 a6.length d3 : Value).ownBlock ∧ some k_ ≠ (.slice b6 a3.length b7 : Value).ownBlock ∧ some k_ ≠ (.slice i6 d7.length i7 : Value).ownBlock ∧ k_ ≠ b2 ∧ k_ ≠ a9 ∧ k_ ≠ b1 ∧ k_ ≠ a8)) (b9.out) (fun k_ hk => ⟨hk.1.1, ⟨hk.1.2.1, ⟨hk.1.2.2.1, ⟨hk.2, ⟨hk.1.2.2.2.2.1, ⟨hk.1.2.2.2.2.2.1, ⟨hk.1.2.2.2.2.2.2.1, hk.1.2.2.2.2.2.2.2⟩⟩⟩⟩⟩⟩⟩))).2.1 (Kd.V_F (Kd.V_mono (ok' := (fun k_ => (w.heap.size ≤ k_) ∧ some k_ ≠ (.slice d2 a6.length d3 : Value).ownBlock ∧ some k_ ≠ (.slice b6 a3.length b7 : Value).ownBlock ∧ some k_ ≠ (.slice i6 d7.length i7 : Value).ownBlock ∧ k_ ≠ b2 ∧ k_ ≠ a9 ∧ k_ ≠ b1 ∧ k_ ≠ a8)) (b9.out) (fun k_ hk => ⟨hk.1.1, ⟨hk.1.2.1, ⟨hk.1.2.2.1, ⟨hk.2, ⟨hk.1.2.2.2.2.1, ⟨hk.1.2.2.2.2.2.1, ⟨hk.1.2.2.2.2.2.2.1, hk.1.2.2.2.2.2.2.2⟩⟩⟩⟩⟩⟩⟩))))) (Reps.none _ _)))
              intro f8 H7 i8 hb hg_ hnew_
              clear hg_ hnew_
              rw [← Ny303.out] at i8
              replace a5 := dN a5 (Kd.N_base i8) hb
              replace a4 := dN a4 (Kd.N_base i8) hb
              replace b8 := dV b8 (Kd.N_base i8) hb
              replace b9 := dV b9 (Kd.N_base i8) hb
              replace e1 := dN e1 (Kd.N_base i8) hb
              have f9 := mN i8
              replace b0 := uB b0 hb
              replace a7 := uB a7 hb
              replace b3 := uB b3 hb
              replace b5 := uB b5 hb
              replace HB := uW hb
              clear hb i8
              obtain ⟨j6, j7, l8⟩ := Kd.N_slice e1.out
              (first | subst l8 | (injection l8 with f1_ f2_ f3_; have f4_ := f1_.symm; have f5_ := f3_.symm; clear f1_ f2_ f3_; subst f4_; subst f5_))
              refine hK.out _ _ cS (fun g5 => ?_)
              clear hK K
              refine norm_ (a' := ?_) ?_ ?_
              rotate_left
              ·
               show Act.put _ (some 53) _ = _
               exact aP
              refine oN 4 49 HT_ (fun K hK => ?_)
              refine Kd.N_append_rows_step (Kd.slice 61 k61) (w0 := w) w.heap.size (by rfl) (.tmp 46) (.tmp 48) 67 64 (.slice none 0 0) 24 rfl Tryz.underlying67 info64 rfl (by decide) (by omega) (.slice d2 a6.length d3) a6 d7 _ _ _ (fun k_ => (w.heap.size ≤ k_) ∧ some k_ ≠ (.slice b6 a3.length b7 : Value).ownBlock ∧ some k_ ≠ (f8 : Value).ownBlock ∧ k_ ≠ b2 ∧ k_ ≠ a9 ∧ k_ ≠ b1 ∧ k_ ≠ a8) (fun k_ => ((fun k_ => (w.heap.size ≤ k_) ∧ some k_ ≠ (.slice b6 a3.length b7 : Value).ownBlock ∧ some k_ ≠ (f8 : Value).ownBlock ∧ k_ ≠ b2 ∧ k_ ≠ a9 ∧ k_ ≠ b1 ∧ k_ ≠ a8)) k_ ∧ some k_ ≠ (.slice d2 a6.length d3 : Value).ownBlock) rfl rfl ?aO ?aR (fun _ hk => hk) ?aF ?aB ?aS ?aL ?_
              (case aR => exact (by skip; exact Kd.N_F (Kd.N_mono (ok' := (fun k_ => ((fun k_ => (w.heap.size ≤ k_) ∧ some k_ ≠ (.slice b6 a3.length b7 : Value).ownBlock ∧ some k_ ≠ (f8 : Value).ownBlock ∧ k_ ≠ b2 ∧ k_ ≠ a9 ∧ k_ ≠ b1 ∧ k_ ≠ a8)) k_ ∧ some k_ ≠ (.slice d2 a6.length d3 : Value).ownBlock)) (e1.out) (fun k_ hk => ⟨⟨hk.1.1, ⟨hk.1.2.2.1, ⟨hk.2, ⟨hk.1.2.2.2.1, ⟨hk.1.2.2.2.2.1, ⟨hk.1.2.2.2.2.2.1, hk.1.2.2.2.2.2.2⟩⟩⟩⟩⟩⟩, hk.1.2.1⟩))))
              (case aB => exact (aB))
              (case aF => exact (fun k_ hk => ⟨(Nat.le_trans (below_size (aB)) hk), Kd.fresh' (Kd.N_lt (pN a4.out)) k_ hk, Kd.fresh' (Kd.N_lt (pN f9.out)) k_ hk, Kd.freshB (g := b2) (o := .cells #[.slice i2 e6.length i3] 40 (0, 0)) (pB b0.out) k_ hk, Kd.freshB (g := a9) (o := .cells #[.slice d2 a6.length d3, .slice b6 a3.length b7, .slice none 0 0] 69 (0, 0)) (pB a7.out) k_ hk, Kd.freshB (g := b1) (o := .cells #[.slice d5 ((rd_T37 l0 b4).f0).length d6, .string ((rd_T37 l0 b4).f1)] 37 (0, 0)) (pB b3.out) k_ hk, Kd.freshB (g := a8) (o := .cells #[.bool d4, .slice e7 c9.length e8, .slice f2 d0.length f3] 61 (0, 0)) (pB b5.out) k_ hk⟩))
              (case aO => exact (sN a5.out))
              (case aS => exact (below_size (aB)))
              (case aL => have := k9.out; omega)
              intro g6 L5 ho hb hg hat
              rw [← Ny300.out] at ho
              replace a4 := mk0 (Kd.N_afterv (ok := (fun k_ => (w.heap.size ≤ k_) ∧ some k_ ≠ (.slice j6 d7.length j7 : Value).ownBlock ∧ some k_ ≠ (f8 : Value).ownBlock ∧ k_ ≠ b2 ∧ k_ ≠ a9 ∧ k_ ≠ b1 ∧ k_ ≠ a8)) (sN a4.out) hg hat)
              replace b0 := gB b0 hg (Kd.N_ne a5.out b0.out (by decide))
              replace a7 := gB a7 hg (Kd.N_ne a5.out a7.out (by decide))
              replace b3 := gB b3 hg (Kd.N_ne a5.out b3.out (by decide))
              replace b8 := mk0 (Kd.V_afterv (ok := (fun k_ => (w.heap.size ≤ k_) ∧ some k_ ≠ (.slice b6 a3.length b7 : Value).ownBlock ∧ some k_ ≠ (.slice j6 d7.length j7 : Value).ownBlock ∧ some k_ ≠ (f8 : Value).ownBlock ∧ k_ ≠ b2 ∧ k_ ≠ a9 ∧ k_ ≠ b1 ∧ k_ ≠ a8)) (sV b8.out) hg hat)
              replace b9 := mk0 (Kd.V_afterv (ok := (fun k_ => (w.heap.size ≤ k_) ∧ some k_ ≠ (.slice b6 a3.length b7 : Value).ownBlock ∧ some k_ ≠ (.slice j6 d7.length j7 : Value).ownBlock ∧ some k_ ≠ (f8 : Value).ownBlock ∧ k_ ≠ b2 ∧ k_ ≠ a9 ∧ k_ ≠ b1 ∧ k_ ≠ a8)) (sV b9.out) hg hat)
              replace b5 := gB b5 hg (Kd.N_ne a5.out b5.out (by decide))
              replace e1 := mk0 (Kd.N_afterv (ok := (fun k_ => (w.heap.size ≤ k_) ∧ some k_ ≠ (.slice b6 a3.length b7 : Value).ownBlock ∧ some k_ ≠ (f8 : Value).ownBlock ∧ k_ ≠ b2 ∧ k_ ≠ a9 ∧ k_ ≠ b1 ∧ k_ ≠ a8)) (sN e1.out) hg hat)
              replace f9 := mk0 (Kd.N_afterv (ok := (fun k_ => (w.heap.size ≤ k_) ∧ some k_ ≠ (.slice b6 a3.length b7 : Value).ownBlock ∧ some k_ ≠ (.slice j6 d7.length j7 : Value).ownBlock ∧ k_ ≠ b2 ∧ k_ ≠ a9 ∧ k_ ≠ b1 ∧ k_ ≠ a8)) (sN f9.out) hg hat)
              replace HB := mk0 (hb)
              have i1 := mk0 (ho)
              clear a5
              clear ho hb hg hat
              refine hK.out _ _ cS (fun g5 => ?_)
              clear hK K
              refine norm_ (a' := ?_) ?_ ?_
              rotate_left
              ·
               show Act.put _ (some 49) _ = _
               exact aP
              refine pu 10 55 HT_ ?_
              exact norm_ (by simp only [putAll, Act.put, List.setIfInBounds_toArray, List.set_cons_zero, List.set_cons_succ]) (l7 (.slice j6 d7.length j7, g6, f8) _ ⟨g5, (sV b8.out), (sV b9.out), (sN e1.out), (sN i1.out), (sN f9.out), (sN a4.out), (pB b0.out), (pB a7.out), (pB b3.out), (pB b5.out), (aB)⟩)
            ·
             skip
             refine Kd.N_lit_step k61 _ 61 ?hg (N' := 53) ?hd (xs := ([(⟨d4, c9, d0⟩ : S61)] : List (S61))) (inner := [.bool d4, .slice e7 c9.length e8, .slice f2 d0.length f3]) (ok := (fun k_ => (w.heap.size ≤ k_) ∧ some k_ ≠ (.slice d2 a6.length d3 : Value).ownBlock ∧ some k_ ≠ (.slice b6 a3.length b7 : Value).ownBlock ∧ some k_ ≠ (.slice i9 e9.length j0 : Value).ownBlock ∧ k_ ≠ b2 ∧ k_ ≠ a9 ∧ k_ ≠ b1 ∧ k_ ≠ a8)) (okp := (fun k_ => (w.heap.size ≤ k_) ∧ some k_ ≠ (.slice d2 a6.length d3 : Value).ownBlock ∧ some k_ ≠ (.slice b6 a3.length b7 : Value).ownBlock ∧ some k_ ≠ (.slice i9 e9.length j0 : Value).ownBlock ∧ k_ ≠ b2 ∧ k_ ≠ a9 ∧ k_ ≠ b1 ∧ k_ ≠ a8)) ?hr ?hp (fun _ hk => hk) ((show ∀ k_, L4.heap.size ≤ k_ → (fun k_ => (w.heap.size ≤ k_) ∧ some k_ ≠ (.slice d2 a6.length d3 : Value).ownBlock ∧ some k_ ≠ (.slice b6 a3.length b7 : Value).ownBlock ∧ some k_ ≠ (.slice i9 e9.length j0 : Value).ownBlock ∧ k_ ≠ b2 ∧ k_ ≠ a9 ∧ k_ ≠ b1 ∧ k_ ≠ a8) k_ from fun k_ hk => ⟨(Nat.le_trans (below_size (aB)) hk), Kd.fresh' (Kd.N_lt (pN a5.out)) k_ hk, Kd.fresh' (Kd.N_lt (pN a4.out)) k_ hk, Kd.fresh' (Kd.N_lt (pN d1.out)) k_ hk, Kd.freshB (g := b2) (o := .cells #[.slice i2 e6.length i3] 40 (0, 0)) (pB b0.out) k_ hk, Kd.freshB (g := a9) (o := .cells #[.slice d2 a6.length d3, .slice b6 a3.length b7, .slice none 0 0] 69 (0, 0)) (pB a7.out) k_ hk, Kd.freshB (g := b1) (o := .cells #[.slice d5 ((rd_T37 l0 b4).f0).length d6, .string ((rd_T37 l0 b4).f1)] 37 (0, 0)) (pB b3.out) k_ hk, Kd.freshB (g := a8) (o := .cells #[.bool d4, .slice e7 c9.length e8, .slice f2 d0.length f3] 61 (0, 0)) (pB b5.out) k_ hk⟩) _ (Nat.le_refl _)) (Below.refl _ _) (Nat.le_refl _) (by simp) ?_; (case hd => rfl); (case hg => rfl); (case hr => exact aH); (case hp => exact (Reps.c3 (show Kd.FK k61 _ _ (⟨d4, c9, d0⟩ : S61) [.bool d4, .slice e7 c9.length e8, .slice f2 d0.length f3] from (k61_mkF _ _ (⟨d4, c9, d0⟩ : S61) (Kd.V_reads' (Kd.V_mono (ok' := (fun k_ => (w.heap.size ≤ k_) ∧ some k_ ≠ (.slice d2 a6.length d3 : Value).ownBlock ∧ some k_ ≠ (.slice b6 a3.length b7 : Value).ownBlock ∧ some k_ ≠ (.slice i9 e9.length j0 : Value).ownBlock ∧ k_ ≠ b2 ∧ k_ ≠ a9 ∧ k_ ≠ b1 ∧ k_ ≠ a8)) (b8.out) (fun k_ hk => ⟨hk.1, ⟨hk.2.1, ⟨hk.2.2.1, ⟨hk.2.2.2.1, ⟨hk.2.2.2.2.1, ⟨hk.2.2.2.2.2.1, ⟨hk.2.2.2.2.2.2.1, hk.2.2.2.2.2.2.2⟩⟩⟩⟩⟩⟩⟩))).2.1 (Kd.V_F (Kd.V_mono (ok' := (fun k_ => (w.heap.size ≤ k_) ∧ some k_ ≠ (.slice d2 a6.length d3 : Value).ownBlock ∧ some k_ ≠ (.slice b6 a3.length b7 : Value).ownBlock ∧ some k_ ≠ (.slice i9 e9.length j0 : Value).ownBlock ∧ k_ ≠ b2 ∧ k_ ≠ a9 ∧ k_ ≠ b1 ∧ k_ ≠ a8)) (b8.out) (fun k_ hk => ⟨hk.1, ⟨hk.2.1, ⟨hk.2.2.1, ⟨hk.2.2.2.1, ⟨hk.2.2.2.2.1, ⟨hk.2.2.2.2.2.1, ⟨hk.2.2.2.2.2.2.1, hk.2.2.2.2.2.2.2⟩⟩⟩⟩⟩⟩⟩))) (Kd.V_reads' (Kd.V_mono (ok' := (fun k_ => (w.heap.size ≤ k_) ∧ some k_ ≠ (.slice d2 a6.length d3 : Value).ownBlock ∧ some k_ ≠ (.slice b6 a3.length b7 : Value).ownBlock ∧ some k_ ≠ (.slice i9 e9.length j0 : Value).ownBlock ∧ k_ ≠ b2 ∧ k_ ≠ a9 ∧ k_ ≠ b1 ∧ k_ ≠ a8)) (b9.out) (fun k_ hk => ⟨hk.1, ⟨hk.2.1, ⟨hk.2.2.1, ⟨hk.2.2.2.1, ⟨hk.2.2.2.2.1, ⟨hk.2.2.2.2.2.1, ⟨hk.2.2.2.2.2.2.1, hk.2.2.2.2.2.2.2⟩⟩⟩⟩⟩⟩⟩))).2.1 (Kd.V_F (Kd.V_mono (ok' := (fun k_ => (w.heap.size ≤ k_) ∧ some k_ ≠ (.slice d2 a6.length d3 : Value).ownBlock ∧ some k_ ≠ (.slice b6 a3.length b7 : Value).ownBlock ∧ some k_ ≠ (.slice i9 e9.length j0 : Value).ownBlock ∧ k_ ≠ b2 ∧ k_ ≠ a9 ∧ k_ ≠ b1 ∧ k_ ≠ a8)) (b9.out) (fun k_ hk => ⟨hk.1, ⟨hk.2.1, ⟨hk.2.2.1, ⟨hk.2.2.2.1, ⟨hk.2.2.2.2.1, ⟨hk.2.2.2.2.2.1, ⟨hk.2.2.2.2.2.2.1, hk.2.2.2.2.2.2.2⟩⟩⟩⟩⟩⟩⟩))))) (Reps.none _ _)))
             intro f8 H6 j1 hb hg_ hnew_
             clear hg_ hnew_
             rw [← Ny303.out] at j1
             replace a5 := dN a5 (Kd.N_base j1) hb
             replace a4 := dN a4 (Kd.N_base j1) hb
             replace d1 := dN d1 (Kd.N_base j1) hb
             replace b8 := dV b8 (Kd.N_base j1) hb
             replace b9 := dV b9 (Kd.N_base j1) hb
             have f9 := mN j1
             replace b0 := uB b0 hb
             replace a7 := uB a7 hb
             replace b3 := uB b3 hb
             replace b5 := uB b5 hb
             replace HB := uW hb
             clear hb j1
             refine hK.out _ _ cS (fun g5 => ?_)
             clear hK K
             refine norm_ (a' := ?_) ?_ ?_
             rotate_left
             ·
              show Act.put _ (some 53) _ = _
              exact aP
             refine oN 3 48 HT_ (fun K hK => ?_)
             refine Kd.N_lit_step (Kd.slice 61 k61) _ 64 ?hg (N' := 48) ?hd (xs := ([e9] : List (List (S61)))) (inner := [.slice i9 e9.length j0]) (ok := (fun k_ => (w.heap.size ≤ k_) ∧ some k_ ≠ (.slice d2 a6.length d3 : Value).ownBlock ∧ some k_ ≠ (.slice b6 a3.length b7 : Value).ownBlock ∧ some k_ ≠ (f8 : Value).ownBlock ∧ k_ ≠ b2 ∧ k_ ≠ a9 ∧ k_ ≠ b1 ∧ k_ ≠ a8)) (okp := (fun k_ => (w.heap.size ≤ k_) ∧ some k_ ≠ (.slice d2 a6.length d3 : Value).ownBlock ∧ some k_ ≠ (.slice b6 a3.length b7 : Value).ownBlock ∧ some k_ ≠ (f8 : Value).ownBlock ∧ k_ ≠ b2 ∧ k_ ≠ a9 ∧ k_ ≠ b1 ∧ k_ ≠ a8)) ?hr ?hp (fun _ hk => hk) ((show ∀ k_, H6.heap.size ≤ k_ → (fun k_ => (w.heap.size ≤ k_) ∧ some k_ ≠ (.slice d2 a6.length d3 : Value).ownBlock ∧ some k_ ≠ (.slice b6 a3.length b7 : Value).ownBlock ∧ some k_ ≠ (f8 : Value).ownBlock ∧ k_ ≠ b2 ∧ k_ ≠ a9 ∧ k_ ≠ b1 ∧ k_ ≠ a8) k_ from fun k_ hk => ⟨(Nat.le_trans (below_size (aB)) hk), Kd.fresh' (Kd.N_lt (pN a5.out)) k_ hk, Kd.fresh' (Kd.N_lt (pN a4.out)) k_ hk, Kd.fresh' (Kd.N_lt (pN f9.out)) k_ hk, Kd.freshB (g := b2) (o := .cells #[.slice i2 e6.length i3] 40 (0, 0)) (pB b0.out) k_ hk, Kd.freshB (g := a9) (o := .cells #[.slice d2 a6.length d3, .slice b6 a3.length b7, .slice none 0 0] 69 (0, 0)) (pB a7.out) k_ hk, Kd.freshB (g := b1) (o := .cells #[.slice d5 ((rd_T37 l0 b4).f0).length d6, .string ((rd_T37 l0 b4).f1)] 37 (0, 0)) (pB b3.out) k_ hk, Kd.freshB (g := a8) (o := .cells #[.bool d4, .slice e7 c9.length e8, .slice f2 d0.length f3] 61 (0, 0)) (pB b5.out) k_ hk⟩) _ (Nat.le_refl _)) (Below.refl _ _) (Nat.le_refl _) (by simp) ?_; (case hd => rfl); (case hg => rfl); (case hr => exact aH); (case hp => exact (Reps.one (show Kd.FK (Kd.slice 61 k61) _ _ e9 [.slice i9 e9.length j0] from (Kd.FK_slice_mk (Kd.N_reads' (Kd.N_mono (ok' := (fun k_ => (w.heap.size ≤ k_) ∧ some k_ ≠ (.slice d2 a6.length d3 : Value).ownBlock ∧ some k_ ≠ (.slice b6 a3.length b7 : Value).ownBlock ∧ some k_ ≠ (f8 : Value).ownBlock ∧ k_ ≠ b2 ∧ k_ ≠ a9 ∧ k_ ≠ b1 ∧ k_ ≠ a8)) (d1.out) (fun k_ hk => ⟨hk.1.1, ⟨hk.1.2.1, ⟨hk.1.2.2.1, ⟨hk.2, ⟨hk.1.2.2.2.1, ⟨hk.1.2.2.2.2.1, ⟨hk.1.2.2.2.2.2.1, hk.1.2.2.2.2.2.2⟩⟩⟩⟩⟩⟩⟩))).2.1 (Kd.N_F (Kd.N_mono (ok' := (fun k_ => (w.heap.size ≤ k_) ∧ some k_ ≠ (.slice d2 a6.length d3 : Value).ownBlock ∧ some k_ ≠ (.slice b6 a3.length b7 : Value).ownBlock ∧ some k_ ≠ (f8 : Value).ownBlock ∧ k_ ≠ b2 ∧ k_ ≠ a9 ∧ k_ ≠ b1 ∧ k_ ≠ a8)) (d1.out) (fun k_ hk => ⟨hk.1.1, ⟨hk.1.2.1, ⟨hk.1.2.2.1, ⟨hk.2, ⟨hk.1.2.2.2.1, ⟨hk.1.2.2.2.2.1, ⟨hk.1.2.2.2.2.2.1, hk.1.2.2.2.2.2.2⟩⟩⟩⟩⟩⟩⟩))))) (Reps.none _ _)))
             intro j4 H7 i8 hb hg_ hnew_
             clear hg_ hnew_
             rw [← Ny297.out] at i8
             replace a5 := dN a5 (Kd.N_base i8) hb
             replace a4 := dN a4 (Kd.N_base i8) hb
             replace b8 := dV b8 (Kd.N_base i8) hb
             replace b9 := dV b9 (Kd.N_base i8) hb
             replace f9 := dN f9 (Kd.N_base i8) hb
             have e1 := mN i8
             replace b0 := uB b0 hb
             replace a7 := uB a7 hb
             replace b3 := uB b3 hb
             replace b5 := uB b5 hb
             replace HB := uW hb
             clear d1
             clear hb i8
             obtain ⟨j6, j7, l8⟩ := Kd.N_slice e1.out
             (first | subst l8 | (injection l8 with f1_ f2_ f3_; have f4_ := f1_.symm; have f5_ := f3_.symm; clear f1_ f2_ f3_; subst f4_; subst f5_))
             refine hK.out _ _ cS (fun g5 => ?_)
             clear hK K
             refine norm_ (a' := ?_) ?_ ?_
             rotate_left
             ·
              show Act.put _ (some 48) _ = _
              exact aP
             refine oN 4 49 HT_ (fun K hK => ?_)
             refine Kd.N_append_rows_step (Kd.slice 61 k61) (w0 := w) w.heap.size (by rfl) (.tmp 46) (.tmp 48) 67 64 (.slice none 0 0) 24 rfl Tryz.underlying67 info64 rfl (by decide) (by omega) (.slice d2 a6.length d3) a6 d7 _ _ _ (fun k_ => (w.heap.size ≤ k_) ∧ some k_ ≠ (.slice b6 a3.length b7 : Value).ownBlock ∧ some k_ ≠ (f8 : Value).ownBlock ∧ k_ ≠ b2 ∧ k_ ≠ a9 ∧ k_ ≠ b1 ∧ k_ ≠ a8) (fun k_ => ((fun k_ => (w.heap.size ≤ k_) ∧ some k_ ≠ (.slice b6 a3.length b7 : Value).ownBlock ∧ some k_ ≠ (f8 : Value).ownBlock ∧ k_ ≠ b2 ∧ k_ ≠ a9 ∧ k_ ≠ b1 ∧ k_ ≠ a8)) k_ ∧ some k_ ≠ (.slice d2 a6.length d3 : Value).ownBlock) rfl rfl ?aO ?aR (fun _ hk => hk) ?aF ?aB ?aS ?aL ?_
             (case aR => exact (by skip; exact Kd.N_F (Kd.N_mono (ok' := (fun k_ => ((fun k_ => (w.heap.size ≤ k_) ∧ some k_ ≠ (.slice b6 a3.length b7 : Value).ownBlock ∧ some k_ ≠ (f8 : Value).ownBlock ∧ k_ ≠ b2 ∧ k_ ≠ a9 ∧ k_ ≠ b1 ∧ k_ ≠ a8)) k_ ∧ some k_ ≠ (.slice d2 a6.length d3 : Value).ownBlock)) (e1.out) (fun k_ hk => ⟨⟨hk.1, ⟨hk.2.2.1, ⟨hk.2.2.2.1, ⟨hk.2.2.2.2.1, ⟨hk.2.2.2.2.2.1, ⟨hk.2.2.2.2.2.2.1, hk.2.2.2.2.2.2.2⟩⟩⟩⟩⟩⟩, hk.2.1⟩))))
             (case aB => exact (aB))
             (case aF => exact (fun k_ hk => ⟨(Nat.le_trans (below_size (aB)) hk), Kd.fresh' (Kd.N_lt (pN a4.out)) k_ hk, Kd.fresh' (Kd.N_lt (pN f9.out)) k_ hk, Kd.freshB (g := b2) (o := .cells #[.slice i2 e6.length i3] 40 (0, 0)) (pB b0.out) k_ hk, Kd.freshB (g := a9) (o := .cells #[.slice d2 a6.length d3, .slice b6 a3.length b7, .slice none 0 0] 69 (0, 0)) (pB a7.out) k_ hk, Kd.freshB (g := b1) (o := .cells #[.slice d5 ((rd_T37 l0 b4).f0).length d6, .string ((rd_T37 l0 b4).f1)] 37 (0, 0)) (pB b3.out) k_ hk, Kd.freshB (g := a8) (o := .cells #[.bool d4, .slice e7 c9.length e8, .slice f2 d0.length f3] 61 (0, 0)) (pB b5.out) k_ hk⟩))
             (case aO => exact (sN a5.out))
             (case aS => exact (below_size (aB)))
             (case aL => have := k9.out; omega)
             intro g6 L5 ho hb hg hat
             rw [← Ny300.out] at ho
             replace a4 := mk0 (Kd.N_afterv (ok := (fun k_ => (w.heap.size ≤ k_) ∧ some k_ ≠ (f8 : Value).ownBlock ∧ some k_ ≠ (.slice j6 d7.length j7 : Value).ownBlock ∧ k_ ≠ b2 ∧ k_ ≠ a9 ∧ k_ ≠ b1 ∧ k_ ≠ a8)) (sN a4.out) hg hat)
             replace b0 := gB b0 hg (Kd.N_ne a5.out b0.out (by decide))
             replace a7 := gB a7 hg (Kd.N_ne a5.out a7.out (by decide))
             replace b3 := gB b3 hg (Kd.N_ne a5.out b3.out (by decide))
             replace b8 := mk0 (Kd.V_afterv (ok := (fun k_ => (w.heap.size ≤ k_) ∧ some k_ ≠ (.slice b6 a3.length b7 : Value).ownBlock ∧ some k_ ≠ (f8 : Value).ownBlock ∧ some k_ ≠ (.slice j6 d7.length j7 : Value).ownBlock ∧ k_ ≠ b2 ∧ k_ ≠ a9 ∧ k_ ≠ b1 ∧ k_ ≠ a8)) (sV b8.out) hg hat)
             replace b9 := mk0 (Kd.V_afterv (ok := (fun k_ => (w.heap.size ≤ k_) ∧ some k_ ≠ (.slice b6 a3.length b7 : Value).ownBlock ∧ some k_ ≠ (f8 : Value).ownBlock ∧ some k_ ≠ (.slice j6 d7.length j7 : Value).ownBlock ∧ k_ ≠ b2 ∧ k_ ≠ a9 ∧ k_ ≠ b1 ∧ k_ ≠ a8)) (sV b9.out) hg hat)
             replace b5 := gB b5 hg (Kd.N_ne a5.out b5.out (by decide))
             replace f9 := mk0 (Kd.N_afterv (ok := (fun k_ => (w.heap.size ≤ k_) ∧ some k_ ≠ (.slice b6 a3.length b7 : Value).ownBlock ∧ some k_ ≠ (.slice j6 d7.length j7 : Value).ownBlock ∧ k_ ≠ b2 ∧ k_ ≠ a9 ∧ k_ ≠ b1 ∧ k_ ≠ a8)) (sN f9.out) hg hat)
             replace e1 := mk0 (Kd.N_afterv (ok := (fun k_ => (w.heap.size ≤ k_) ∧ some k_ ≠ (.slice b6 a3.length b7 : Value).ownBlock ∧ some k_ ≠ (f8 : Value).ownBlock ∧ k_ ≠ b2 ∧ k_ ≠ a9 ∧ k_ ≠ b1 ∧ k_ ≠ a8)) (sN e1.out) hg hat)
             replace HB := mk0 (hb)
             have i1 := mk0 (ho)
             clear a5
             clear ho hb hg hat
             refine hK.out _ _ cS (fun g5 => ?_)
             clear hK K
             refine norm_ (a' := ?_) ?_ ?_
             rotate_left
             ·
              show Act.put _ (some 49) _ = _
              exact aP
             refine pu 10 55 HT_ ?_
             exact norm_ (by simp only [putAll, Act.put, List.setIfInBounds_toArray, List.set_cons_zero, List.set_cons_succ]) (l7 (.slice j6 d7.length j7, g6, f8) _ ⟨g5, (sV b8.out), (sV b9.out), (sN e1.out), (sN i1.out), (sN f9.out), (sN a4.out), (pB b0.out), (pB a7.out), (pB b3.out), (pB b5.out), (aB)⟩)
           rintro ⟨j4, g6, f8⟩ k0 ⟨hS_, h0_, h1_, h2_, h3_, h4_, h5_, h6_, h7_, h8_, h9_, h10_⟩
           have n5 : Aside0 (Kd.V (Kd.int .u32) 107 k0 w.heap.size (fun k_ => (w.heap.size ≤ k_) ∧ some k_ ≠ (j4 : Value).ownBlock ∧ some k_ ≠ (g6 : Value).ownBlock ∧ some k_ ≠ (f8 : Value).ownBlock ∧ some k_ ≠ (.slice b6 a3.length b7 : Value).ownBlock ∧ k_ ≠ b2 ∧ k_ ≠ a9 ∧ k_ ≠ b1 ∧ k_ ≠ a8) (.slice e7 c9.length e8) c9) := ⟨h0_⟩
           have n6 : Aside0 (Kd.V (Kd.int .u32) 107 k0 w.heap.size (fun k_ => (w.heap.size ≤ k_) ∧ some k_ ≠ (j4 : Value).ownBlock ∧ some k_ ≠ (g6 : Value).ownBlock ∧ some k_ ≠ (f8 : Value).ownBlock ∧ some k_ ≠ (.slice b6 a3.length b7 : Value).ownBlock ∧ k_ ≠ b2 ∧ k_ ≠ a9 ∧ k_ ≠ b1 ∧ k_ ≠ a8) (.slice f2 d0.length f3) d0) := ⟨h1_⟩
           have n7 : Aside0 (Kd.N (Kd.slice 61 k61) 64 k0 w.heap.size (fun k_ => (w.heap.size ≤ k_) ∧ some k_ ≠ (g6 : Value).ownBlock ∧ some k_ ≠ (f8 : Value).ownBlock ∧ some k_ ≠ (.slice b6 a3.length b7 : Value).ownBlock ∧ k_ ≠ b2 ∧ k_ ≠ a9 ∧ k_ ≠ b1 ∧ k_ ≠ a8) j4 d7) := ⟨h2_⟩
           have n8 : Aside0 (Kd.N (Kd.slice 61 k61) 64 k0 w.heap.size (fun k_ => (w.heap.size ≤ k_) ∧ some k_ ≠ (f8 : Value).ownBlock ∧ some k_ ≠ (.slice b6 a3.length b7 : Value).ownBlock ∧ k_ ≠ b2 ∧ k_ ≠ a9 ∧ k_ ≠ b1 ∧ k_ ≠ a8) g6 j8) := ⟨h3_⟩
           have n9 : Aside0 (Kd.N k61 61 k0 w.heap.size (fun k_ => (w.heap.size ≤ k_) ∧ some k_ ≠ (j4 : Value).ownBlock ∧ some k_ ≠ (g6 : Value).ownBlock ∧ some k_ ≠ (.slice b6 a3.length b7 : Value).ownBlock ∧ k_ ≠ b2 ∧ k_ ≠ a9 ∧ k_ ≠ b1 ∧ k_ ≠ a8) f8 g4) := ⟨h4_⟩
           have o1 : Aside0 (Kd.N k61 61 k0 w.heap.size (fun k_ => (w.heap.size ≤ k_) ∧ some k_ ≠ (j4 : Value).ownBlock ∧ some k_ ≠ (g6 : Value).ownBlock ∧ some k_ ≠ (f8 : Value).ownBlock ∧ k_ ≠ b2 ∧ k_ ≠ a9 ∧ k_ ≠ b1 ∧ k_ ≠ a8) (.slice b6 a3.length b7) a3) := ⟨h5_⟩
           have o2 : Aside0 (k0.heap[b2]? = some (.cells #[.slice i2 e6.length i3] 40 (0, 0))) := ⟨h6_⟩
           have o3 : Aside0 (k0.heap[a9]? = some (.cells #[.slice d2 a6.length d3, .slice b6 a3.length b7, .slice none 0 0] 69 (0, 0))) := ⟨h7_⟩
           have o4 : Aside0 (k0.heap[b1]? = some (.cells #[.slice d5 ((rd_T37 l0 b4).f0).length d6, .string ((rd_T37 l0 b4).f1)] 37 (0, 0))) := ⟨h8_⟩
           have o5 : Aside0 (k0.heap[a8]? = some (.cells #[.bool d4, .slice e7 c9.length e8, .slice f2 d0.length f3] 61 (0, 0))) := ⟨h9_⟩
           have p0 : Aside0 (Below w.heap.size w k0) := ⟨h10_⟩
           clear a5
           clear a4
           clear d1
           clear b8
           clear b9
           clear b0
           clear a7
           clear b3
           clear b5
           clear HB
           clear h0_ h1_ h2_ h3_ h4_ h5_ h6_ h7_ h8_ h9_ h10_
           have b8 := n5
           have b9 := n6
           have e1 := n7
           have i1 := n8
           have f9 := n9
           have a4 := o1
           have b0 := o2
           have a7 := o3
           have b3 := o4
           have b5 := o5
           have HB := p0
           clear n5 n6 n7 n8 n9 o1 o2 o3 o4 o5 p0
           have g5 : k0.cell? ⟨a9, 0, none⟩ = some (.slice d2 a6.length d3) ∧ k0.cell? ⟨a9, 1, none⟩ = some (.slice b6 a3.length b7) ∧ k0.cell? ⟨a9, 2, none⟩ = some (.slice none 0 0) ∧ k0.cell? ⟨a8, 0, none⟩ = some (.bool d4) ∧ k0.cell? ⟨a8, 1, none⟩ = some (.slice e7 c9.length e8) ∧ k0.cell? ⟨a8, 2, none⟩ = some (.slice f2 d0.length f3) := hS_
           obtain ⟨m1, m2, p1⟩ := Kd.N_slice f9.out
           (first | subst p1 | (injection p1 with f1_ f2_ f3_; have f4_ := f1_.symm; have f5_ := f3_.symm; clear f1_ f2_ f3_; subst f4_; subst f5_))
           refine norm_ (a' := ?_) ?_ ?_
           rotate_left
           ·
            simp only [putAll, Act.put, List.setIfInBounds_toArray, List.set_cons_zero, List.set_cons_succ]
            rfl
           refine oN 9 54 HT_ (fun K hK => ?_)
           refine Kd.N_append_rows_step k61 (w0 := w) w.heap.size (by rfl) (.tmp 51) (.tmp 53) 64 61 (.agg #[(.bool false), (.slice none 0 0), (.slice none 0 0)]) 56 rfl Tryz.underlying64 info61 rfl (by decide) (by omega) (.slice b6 a3.length b7) a3 g4 _ _ _ (fun k_ => (w.heap.size ≤ k_) ∧ some k_ ≠ (j4 : Value).ownBlock ∧ some k_ ≠ (g6 : Value).ownBlock ∧ k_ ≠ b2 ∧ k_ ≠ a9 ∧ k_ ≠ b1 ∧ k_ ≠ a8) (fun k_ => ((fun k_ => (w.heap.size ≤ k_) ∧ some k_ ≠ (j4 : Value).ownBlock ∧ some k_ ≠ (g6 : Value).ownBlock ∧ k_ ≠ b2 ∧ k_ ≠ a9 ∧ k_ ≠ b1 ∧ k_ ≠ a8)) k_ ∧ some k_ ≠ (.slice b6 a3.length b7 : Value).ownBlock) rfl rfl ?aO ?aR (fun _ hk => hk) ?aF ?aB ?aS ?aL ?_
           (case aR => exact (by skip; exact Kd.N_F (Kd.N_mono (ok' := (fun k_ => ((fun k_ => (w.heap.size ≤ k_) ∧ some k_ ≠ (j4 : Value).ownBlock ∧ some k_ ≠ (g6 : Value).ownBlock ∧ k_ ≠ b2 ∧ k_ ≠ a9 ∧ k_ ≠ b1 ∧ k_ ≠ a8)) k_ ∧ some k_ ≠ (.slice b6 a3.length b7 : Value).ownBlock)) (f9.out) (fun k_ hk => ⟨⟨hk.1, ⟨hk.2.1, ⟨hk.2.2.1, ⟨hk.2.2.2.2.1, ⟨hk.2.2.2.2.2.1, ⟨hk.2.2.2.2.2.2.1, hk.2.2.2.2.2.2.2⟩⟩⟩⟩⟩⟩, hk.2.2.2.1⟩))))
           (case aB => exact (aB))
           (case aF => exact (fun k_ hk => ⟨(Nat.le_trans (below_size (aB)) hk), Kd.fresh' (Kd.N_lt (pN e1.out)) k_ hk, Kd.fresh' (Kd.N_lt (pN i1.out)) k_ hk, Kd.freshB (g := b2) (o := .cells #[.slice i2 e6.length i3] 40 (0, 0)) (pB b0.out) k_ hk, Kd.freshB (g := a9) (o := .cells #[.slice d2 a6.length d3, .slice b6 a3.length b7, .slice none 0 0] 69 (0, 0)) (pB a7.out) k_ hk, Kd.freshB (g := b1) (o := .cells #[.slice d5 ((rd_T37 l0 b4).f0).length d6, .string ((rd_T37 l0 b4).f1)] 37 (0, 0)) (pB b3.out) k_ hk, Kd.freshB (g := a8) (o := .cells #[.bool d4, .slice e7 c9.length e8, .slice f2 d0.length f3] 61 (0, 0)) (pB b5.out) k_ hk⟩))
           (case aO => exact (sN a4.out))
           (case aS => exact (below_size (aB)))
           (case aL => have := o8.out; omega)
           intro Q2 L6 ho hb hg hat
           rw [← Ny306.out] at ho
           replace b0 := gB b0 hg (Kd.N_ne a4.out b0.out (by decide))
           replace a7 := gB a7 hg (Kd.N_ne a4.out a7.out (by decide))
           replace b3 := gB b3 hg (Kd.N_ne a4.out b3.out (by decide))
           replace b8 := mk0 (Kd.V_afterv (ok := (fun k_ => (w.heap.size ≤ k_) ∧ some k_ ≠ (j4 : Value).ownBlock ∧ some k_ ≠ (g6 : Value).ownBlock ∧ some k_ ≠ (.slice m1 g4.length m2 : Value).ownBlock ∧ k_ ≠ b2 ∧ k_ ≠ a9 ∧ k_ ≠ b1 ∧ k_ ≠ a8)) (sV b8.out) hg hat)
           replace b9 := mk0 (Kd.V_afterv (ok := (fun k_ => (w.heap.size ≤ k_) ∧ some k_ ≠ (j4 : Value).ownBlock ∧ some k_ ≠ (g6 : Value).ownBlock ∧ some k_ ≠ (.slice m1 g4.length m2 : Value).ownBlock ∧ k_ ≠ b2 ∧ k_ ≠ a9 ∧ k_ ≠ b1 ∧ k_ ≠ a8)) (sV b9.out) hg hat)
           replace b5 := gB b5 hg (Kd.N_away a4.out (fun _ hk => hk.2.2.2.2.2.2.2))
           replace e1 := mk0 (Kd.N_afterv (ok := (fun k_ => (w.heap.size ≤ k_) ∧ some k_ ≠ (g6 : Value).ownBlock ∧ some k_ ≠ (.slice m1 g4.length m2 : Value).ownBlock ∧ k_ ≠ b2 ∧ k_ ≠ a9 ∧ k_ ≠ b1 ∧ k_ ≠ a8)) (sN e1.out) hg hat)
           replace i1 := mk0 (Kd.N_afterv (ok := (fun k_ => (w.heap.size ≤ k_) ∧ some k_ ≠ (.slice m1 g4.length m2 : Value).ownBlock ∧ k_ ≠ b2 ∧ k_ ≠ a9 ∧ k_ ≠ b1 ∧ k_ ≠ a8)) (sN i1.out) hg hat)
           replace f9 := mk0 (Kd.N_afterv (ok := (fun k_ => (w.heap.size ≤ k_) ∧ some k_ ≠ (j4 : Value).ownBlock ∧ some k_ ≠ (g6 : Value).ownBlock ∧ k_ ≠ b2 ∧ k_ ≠ a9 ∧ k_ ≠ b1 ∧ k_ ≠ a8)) (sN f9.out) hg hat)
           replace HB := mk0 (hb)
           have m6 := mk0 (ho)
           clear a4
           clear ho hb hg hat
           obtain ⟨p3, p4, p5⟩ := Kd.N_slice i1.out
           (first | subst p5 | (injection p5 with f1_ f2_ f3_; have f4_ := f1_.symm; have f5_ := f3_.symm; clear f1_ f2_ f3_; subst f4_; subst f5_))
           obtain ⟨H8, H9, p6⟩ := Kd.N_slice m6.out
           (first | subst p6 | (injection p6 with f1_ f2_ f3_; have f4_ := f1_.symm; have f5_ := f3_.symm; clear f1_ f2_ f3_; subst f4_; subst f5_))
           refine hK.out _ _ cS (fun g5 => ?_)
           clear hK K
           refine norm_ (a' := ?_) ?_ ?_
           rotate_left
           ·
            show Act.put _ (some 54) _ = _
            exact aP
           refine last_ (i := 11) (N := none) #[true, true, true, true, true, true, true, true, true, true, true, true, false, false] rfl rfl (one_of HT_.out (by kernel_rfl)) (by decide) (fun K hK => ?_)
           have hs45 : L6.cell? ⟨a9, 0, none⟩ = some (.slice d2 a6.length d3) := (blk_cell a7.out 0).trans rfl
           have hfs45 := blk_frozen a7.out 0
           have hns45_0 := d9.out
           have hns45_2 := f6.out
           have hns45_3 := f7.out
           have hms45_0 := f4.out
           have hms45_2 := f5.out
           have hms45_3 := d8.out
           refine skip_ (w1 := ?_) (by rfl) rfl ?_ ?_
           rotate_left
           ·
            go_simp
            rfl
           refine hK.out _ _ ?_
           clear hK K
           refine pu 12 56 HT_ ?_
           refine last_ (i := 13) (N := none) #[true, true, true, true, true, true, true, true, true, true, true, true, true, true] rfl rfl (one_of HT_.out (by kernel_rfl)) (by decide) (fun K hK => ?_)
           have hs47 : L6.cell? ⟨a9, 1, none⟩ = some (.slice b6 a3.length b7) := (blk_cell a7.out 1).trans rfl
           have hfs47 := blk_frozen a7.out 1
           have hns47_0 := d9.out
           have hns47_2 := f6.out
           have hns47_3 := f7.out
           have hms47_0 := f4.out
           have hms47_2 := f5.out
           have hms47_3 := d8.out
           refine skip_ (w1 := ?_) (by rfl) rfl ?_ ?_
           rotate_left
           ·
            go_simp
            rfl
           refine hK.out _ _ ?_
           clear hK K
           refine done_ (done_of HT_.out (by kernel_rfl)) ?_
           try go_wp2
           go_roundg k1
           case measure => have := HK1.out; omega
           case rel => exact ⟨(wrap64 (b4 + 1)), (j8), (n1), (.slice p3 j8.length p4), (.slice H8 n1.length H9), (by first | rfl | simp [*]), H', ⟨by have := HK1.out; omega⟩, ⟨sN i1.out⟩, ⟨sN m6.out⟩, ⟨by (with_reducible repeat (first | refine blk_drewN ?_ _ | refine blk_drew ?_ | refine blk_alloc ?_ _)); refine blk_far ?_ d9.out _; (with_reducible repeat (first | refine blk_drewN ?_ _ | refine blk_drew ?_ | refine blk_alloc ?_ _)); refine blk_far ?_ d9.out _; (with_reducible repeat (first | refine blk_drewN ?_ _ | refine blk_drew ?_ | refine blk_alloc ?_ _)); exact b0.out⟩, ⟨by (with_reducible repeat (first | refine blk_drewN ?_ _ | refine blk_drew ?_ | refine blk_alloc ?_ _)); refine blk_put (cs := #[.slice p3 j8.length p4, .slice b6 a3.length b7, .slice none 0 0]) ?_ 1 _ rfl; (with_reducible repeat (first | refine blk_drewN ?_ _ | refine blk_drew ?_ | refine blk_alloc ?_ _)); refine blk_put (cs := #[.slice d2 a6.length d3, .slice b6 a3.length b7, .slice none 0 0]) ?_ 0 _ rfl; (with_reducible repeat (first | refine blk_drewN ?_ _ | refine blk_drew ?_ | refine blk_alloc ?_ _)); exact a7.out⟩, ⟨aB⟩⟩
          ·
           rw [if_neg x7] at H
           exact absurd H (by simp)
         ·
          rw [if_neg x6] at H
          exact absurd H (by simp)
        ·
         rw [if_neg n0] at H
         have o6 : ((e9.length : Int) == a1) = false := beq_eq_false_iff_ne.mpr n0
         have o7 : ((e9.length : Int) != a1) = true := bne_iff_ne.mpr n0
         simp only [Option.some.injEq, Prod.mk.injEq] at H
         obtain ⟨rfl, rfl, rfl, rfl⟩ := H
         have j2 : 0 ≤ (b4 : Int) := aD
         have j3 : b4 < (l0.length : Int) := aD
         obtain ⟨l1, d5, d6, e282, e2, e3, hl282_0, hi282_0⟩ := at_T37 HR0.out b4 j2 j3
         cases e282
         replace e2 := (HB.out.cell (World.block_lt_of_cell? w _ e2)).trans e2
         replace e3 := (HB.out.cell (World.block_lt_of_cell? w _ e3)).trans e3
         have i4 := mk0 hi282_0
         have i5 := mk0 hl282_0
         clear hi282_0 hl282_0
         replace j2 := eq_true j2
         replace j3 := eq_true j3
         go_wp2_with (first | (refine gd 9 ?_; (try (refine gate_guard (by rfl) ?_; dsimp only)); refine box_event ?hg (N := 9) ?hd (cs := #[.slice none 0 0, .string (⟨#[]⟩ : ByteArray)]) (t := 37) ?hr ?_; (case hd => rfl); (case hg => rfl); (case hr => exact aH); intro b1 hg Q3 hbox hb; replace a5 := eN a5 hg hb;replace a4 := eN a4 hg hb;have b3 := mk0 (hbox);have l2 := uG hg;have l3 := uG hg;replace HB := uW hb;have g0 := uL b0 hg;have g1 := uM b0 hg;replace b0 := uB b0 hb;have f5 := uL a7 hg;have f6 := uM a7 hg;replace a7 := uB a7 hb; clear hb hbox hg; have L7 := g1.out; have L8 := g0.out; have L9 := f6.out; have M0 := f5.out; have A2 : Q3.cell? ⟨b1, 0, none⟩ = some (.slice none 0 0) := (blk_cell b3.out 0).trans rfl; have A3 := cZ b3 1; have A4 := blk_frozen b3.out 0; have A5 := blk_frozen b3.out 1) | (refine gc 18 ?_; refine gl 23 Tryz.func18 #[.slice d5 ((rd_T37 l0 b4).f0).length d6] ?_; (with_reducible refine (checker_readAll.calls k1 _ _ ((rd_T37 l0 b4).f0) e9 true _ ?side1 ?side2 A9.out).mono ?_); (case side1 => exact Kd.C_below i4.out (aB)); (case side2 => exact i5.out); rintro e S5 ⟨j5, rfl, g7, hb⟩; refine ⟨_, rfl, ?_⟩; have d1 := lN (ok' := fun k_ => (w.heap.size ≤ k_) ∧ some k_ ≠ (c4 : Value).ownBlock ∧ some k_ ≠ (c5 : Value).ownBlock ∧ k_ ≠ b2 ∧ k_ ≠ a9 ∧ k_ ≠ b1) g7;replace a5 := mk0 (Kd.N_elder' (tN a5.out) (Kd.N_base g7) hb);replace a4 := mk0 (Kd.N_elder' (tN a4.out) (Kd.N_base g7) hb);replace b0 := uB b0 hb;replace a7 := uB a7 hb;replace b3 := mk0 (blk_below (g := b1) (o := .cells #[.slice d5 ((rd_T37 l0 b4).f0).length d6, .string ((rd_T37 l0 b4).f1)] 37 (0, 0)) sB hb);replace HB := uW hb; (try clear hb); (try clear g7); have A6 := cZ b3 0; have A7 := cZ b3 1; have A8 := blk_frozen b3.out 0; have B0 := blk_frozen b3.out 1) | (refine gc 17 ?_; refine gl 29 Tryz.func17 #[.string ((rd_T37 l0 b4).f1)] ?_; (with_reducible refine (checker_read.calls k1 ((rd_T37 l0 b4).f1) d4 c9 d0 true _ A10.out).mono ?_); rintro e S6 ⟨n2, n3, rfl, g7, l4, hb⟩; refine ⟨_, rfl, ?_⟩; have b8 := lV (ok' := fun k_ => (w.heap.size ≤ k_) ∧ some k_ ≠ (c4 : Value).ownBlock ∧ some k_ ≠ (c5 : Value).ownBlock ∧ some k_ ≠ (j5 : Value).ownBlock ∧ k_ ≠ b2 ∧ k_ ≠ a9 ∧ k_ ≠ b1) g7;have b9 := lV (ok' := fun k_ => (w.heap.size ≤ k_) ∧ some k_ ≠ (c4 : Value).ownBlock ∧ some k_ ≠ (c5 : Value).ownBlock ∧ some k_ ≠ (j5 : Value).ownBlock ∧ k_ ≠ b2 ∧ k_ ≠ a9 ∧ k_ ≠ b1) l4;replace a5 := uN a5 hb;replace a4 := uN a4 hb;replace d1 := uN d1 hb;replace b0 := uB b0 hb;replace a7 := uB a7 hb;replace b3 := uB b3 hb;replace HB := uW hb; (try clear hb); (try clear g7); (try clear l4)) | (refine gd 12 ?_; (try (refine gate_guard (by rfl) ?_; dsimp only)); refine box_event ?hg (N := 12) ?hd (cs := #[.bool false, .slice none 0 0, .slice none 0 0]) (t := 61) ?hr ?_; (case hd => rfl); (case hg => rfl); (case hr => exact aH); intro a8 hg B1 hbox hb; replace a5 := eN a5 hg hb;replace a4 := eN a4 hg hb;replace d1 := eN d1 hg hb;replace b8 := eV b8 hg hb;replace b9 := eV b9 hg hb;have b5 := mk0 (hbox);have l5 := uG hg;have l6 := uG hg;replace HB := uW hb;have e4 := uL b0 hg;have g2 := uM b0 hg;replace b0 := uB b0 hb;have d8 := uL a7 hg;have f7 := uM a7 hg;replace a7 := uB a7 hb;have e5 := uL b3 hg;have g3 := uM b3 hg;replace b3 := uB b3 hb; clear hb hbox hg; have M1 := g2.out; have M2 := e4.out; have M3 := f7.out; have M4 := d8.out; have M5 := g3.out; have M6 := e5.out; have B2 : B1.cell? ⟨a8, 0, none⟩ = some (.bool false) := (blk_cell b5.out 0).trans rfl; have B3 : B1.cell? ⟨a8, 1, none⟩ = some (.slice none 0 0) := (blk_cell b5.out 1).trans rfl; have B4 : B1.cell? ⟨a8, 2, none⟩ = some (.slice none 0 0) := (blk_cell b5.out 2).trans rfl; have B5 := blk_frozen b5.out 0; have B6 := blk_frozen b5.out 1; have B7 := blk_frozen b5.out 2; obtain ⟨Q4, Q5, I0⟩ := Kd.V_slice b8.out; subst I0; obtain ⟨Q6, Q7, I1⟩ := Kd.V_slice b9.out; subst I1; obtain ⟨Q8, Q9, I2⟩ := Kd.N_slice d1.out; subst I2; have M7 := f4.out; have M8 := d9.out; have B9 := cZ a7 0; have C0 := cZ a7 1; have C1 : B1.cell? ⟨a9, 2, none⟩ = some (.slice none 0 0) := (blk_cell a7.out 2).trans rfl; have C2 := blk_frozen a7.out 0; have C3 := blk_frozen a7.out 1; have C4 := blk_frozen a7.out 2))
         refine bodyPost_ret (results_ct rfl _ _ a9 69 #[.slice none 0 0, .slice none 0 0, .slice none 0 0] (0, 0) _ rfl sB Tryz.underlying69 rfl (by kernel_rfl)) rfl ?_
         exact ⟨_, _, _, by first | rfl | (simp [*] <;> rfl), by first | exact Kd.R_nil _ _ _ _ _ | exact Kd.N_nil _ _ _ _ _ | exact Kd.V_nil _ _ _ _ _ | exact Kd.Q_nil _ _ _ _ _ | exact Kd.S_nil _ _ _ _ _, by first | exact Kd.S_nil _ _ _ _ _ | exact Kd.N_nil _ _ _ _ _ | exact Kd.V_nil _ _ _ _ _ | exact Kd.Q_nil _ _ _ _ _ | exact Kd.R_nil _ _ _ _ _, by first | exact Kd.S_nil _ _ _ _ _ | exact Kd.N_nil _ _ _ _ _ | exact Kd.V_nil _ _ _ _ _ | exact Kd.Q_nil _ _ _ _ _ | exact Kd.R_nil _ _ _ _ _, aB⟩
       ·
        replace x5 := Bool.eq_false_iff.mpr x5
        subst x5
        have H1 : (some (([] : List (List (S61))), ([] : List (S61)), ([] : List (S61)), false)) = some (r1, r2, r3, r4) := by rw [if_neg (show ¬ (false = true) by decide)] at H; exact H
        clear H
        have H := H1
        clear H1
        simp only [Option.some.injEq, Prod.mk.injEq] at H
        obtain ⟨rfl, rfl, rfl, rfl⟩ := H
        have j2 : 0 ≤ (b4 : Int) := aD
        have j3 : b4 < (l0.length : Int) := aD
        obtain ⟨l1, d5, d6, e282, e2, e3, hl282_0, hi282_0⟩ := at_T37 HR0.out b4 j2 j3
        cases e282
        replace e2 := (HB.out.cell (World.block_lt_of_cell? w _ e2)).trans e2
        replace e3 := (HB.out.cell (World.block_lt_of_cell? w _ e3)).trans e3
        have i4 := mk0 hi282_0
        have i5 := mk0 hl282_0
        clear hi282_0 hl282_0
        replace j2 := eq_true j2
        replace j3 := eq_true j3
        go_wp2_with (first | (refine gd 9 ?_; (try (refine gate_guard (by rfl) ?_; dsimp only)); refine box_event ?hg (N := 9) ?hd (cs := #[.slice none 0 0, .string (⟨#[]⟩ : ByteArray)]) (t := 37) ?hr ?_; (case hd => rfl); (case hg => rfl); (case hr => exact aH); intro b1 hg R0 hbox hb; replace a5 := eN a5 hg hb;replace a4 := eN a4 hg hb;have b3 := mk0 (hbox);have l2 := uG hg;have l3 := uG hg;replace HB := uW hb;have g0 := uL b0 hg;have g1 := uM b0 hg;replace b0 := uB b0 hb;have f5 := uL a7 hg;have f6 := uM a7 hg;replace a7 := uB a7 hb; clear hb hbox hg; have M9 := g1.out; have N0 := g0.out; have N1 := f6.out; have N2 := f5.out; have C5 : R0.cell? ⟨b1, 0, none⟩ = some (.slice none 0 0) := (blk_cell b3.out 0).trans rfl; have C6 := cZ b3 1; have C7 := blk_frozen b3.out 0; have C8 := blk_frozen b3.out 1) | (refine gc 18 ?_; refine gl 23 Tryz.func18 #[.slice d5 ((rd_T37 l0 b4).f0).length d6] ?_; (with_reducible refine (checker_readAll.calls k1 _ _ ((rd_T37 l0 b4).f0) e9 true _ ?side1 ?side2 A9.out).mono ?_); (case side1 => exact Kd.C_below i4.out (aB)); (case side2 => exact i5.out); rintro e S7 ⟨j5, rfl, g7, hb⟩; refine ⟨_, rfl, ?_⟩; have d1 := lN (ok' := fun k_ => (w.heap.size ≤ k_) ∧ some k_ ≠ (c4 : Value).ownBlock ∧ some k_ ≠ (c5 : Value).ownBlock ∧ k_ ≠ b2 ∧ k_ ≠ a9 ∧ k_ ≠ b1) g7;replace a5 := mk0 (Kd.N_elder' (tN a5.out) (Kd.N_base g7) hb);replace a4 := mk0 (Kd.N_elder' (tN a4.out) (Kd.N_base g7) hb);replace b0 := uB b0 hb;replace a7 := uB a7 hb;replace b3 := mk0 (blk_below (g := b1) (o := .cells #[.slice d5 ((rd_T37 l0 b4).f0).length d6, .string ((rd_T37 l0 b4).f1)] 37 (0, 0)) sB hb);replace HB := uW hb; (try clear hb); (try clear g7); have C9 := cZ b3 0; have D0 := cZ b3 1; have D1 := blk_frozen b3.out 0; have D2 := blk_frozen b3.out 1) | (refine gc 17 ?_; refine gl 29 Tryz.func17 #[.string ((rd_T37 l0 b4).f1)] ?_; (with_reducible refine (checker_read.calls k1 ((rd_T37 l0 b4).f1) d4 c9 d0 false _ A10.out).mono ?_); rintro e S8 ⟨n2, n3, rfl, g7, l4, hb⟩; refine ⟨_, rfl, ?_⟩; have b8 := lV (ok' := fun k_ => (w.heap.size ≤ k_) ∧ some k_ ≠ (c4 : Value).ownBlock ∧ some k_ ≠ (c5 : Value).ownBlock ∧ some k_ ≠ (j5 : Value).ownBlock ∧ k_ ≠ b2 ∧ k_ ≠ a9 ∧ k_ ≠ b1) g7;have b9 := lV (ok' := fun k_ => (w.heap.size ≤ k_) ∧ some k_ ≠ (c4 : Value).ownBlock ∧ some k_ ≠ (c5 : Value).ownBlock ∧ some k_ ≠ (j5 : Value).ownBlock ∧ k_ ≠ b2 ∧ k_ ≠ a9 ∧ k_ ≠ b1) l4;replace a5 := uN a5 hb;replace a4 := uN a4 hb;replace d1 := uN d1 hb;replace b0 := uB b0 hb;replace a7 := uB a7 hb;replace b3 := uB b3 hb;replace HB := uW hb; (try clear hb); (try clear g7); (try clear l4)) | (refine gd 12 ?_; (try (refine gate_guard (by rfl) ?_; dsimp only)); refine box_event ?hg (N := 12) ?hd (cs := #[.bool false, .slice none 0 0, .slice none 0 0]) (t := 61) ?hr ?_; (case hd => rfl); (case hg => rfl); (case hr => exact aH); intro a8 hg D3 hbox hb; replace a5 := eN a5 hg hb;replace a4 := eN a4 hg hb;replace d1 := eN d1 hg hb;replace b8 := eV b8 hg hb;replace b9 := eV b9 hg hb;have b5 := mk0 (hbox);have l5 := uG hg;have l6 := uG hg;replace HB := uW hb;have e4 := uL b0 hg;have g2 := uM b0 hg;replace b0 := uB b0 hb;have d8 := uL a7 hg;have f7 := uM a7 hg;replace a7 := uB a7 hb;have e5 := uL b3 hg;have g3 := uM b3 hg;replace b3 := uB b3 hb; clear hb hbox hg; have N3 := g2.out; have N4 := e4.out; have N5 := f7.out; have N6 := d8.out; have N7 := g3.out; have N8 := e5.out; have D4 : D3.cell? ⟨a8, 0, none⟩ = some (.bool false) := (blk_cell b5.out 0).trans rfl; have D5 : D3.cell? ⟨a8, 1, none⟩ = some (.slice none 0 0) := (blk_cell b5.out 1).trans rfl; have D6 : D3.cell? ⟨a8, 2, none⟩ = some (.slice none 0 0) := (blk_cell b5.out 2).trans rfl; have D7 := blk_frozen b5.out 0; have D8 := blk_frozen b5.out 1; have D9 := blk_frozen b5.out 2; obtain ⟨R1, R2, I3⟩ := Kd.V_slice b8.out; subst I3; obtain ⟨R3, R4, I4⟩ := Kd.V_slice b9.out; subst I4; have N9 := f4.out; have O0 := d9.out; have E0 := cZ a7 0; have E1 := cZ a7 1; have E2 : D3.cell? ⟨a9, 2, none⟩ = some (.slice none 0 0) := (blk_cell a7.out 2).trans rfl; have E3 := blk_frozen a7.out 0; have E4 := blk_frozen a7.out 1; have E5 := blk_frozen a7.out 2))
        refine bodyPost_ret (results_ct rfl _ _ a9 69 #[.slice none 0 0, .slice none 0 0, .slice none 0 0] (0, 0) _ rfl sB Tryz.underlying69 rfl (by kernel_rfl)) rfl ?_
        exact ⟨_, _, _, by first | rfl | (simp [*] <;> rfl), by first | exact Kd.R_nil _ _ _ _ _ | exact Kd.N_nil _ _ _ _ _ | exact Kd.V_nil _ _ _ _ _ | exact Kd.Q_nil _ _ _ _ _ | exact Kd.S_nil _ _ _ _ _, by first | exact Kd.S_nil _ _ _ _ _ | exact Kd.N_nil _ _ _ _ _ | exact Kd.V_nil _ _ _ _ _ | exact Kd.Q_nil _ _ _ _ _ | exact Kd.R_nil _ _ _ _ _, by first | exact Kd.S_nil _ _ _ _ _ | exact Kd.N_nil _ _ _ _ _ | exact Kd.V_nil _ _ _ _ _ | exact Kd.Q_nil _ _ _ _ _ | exact Kd.R_nil _ _ _ _ _, aB⟩
      ·
       replace x4 := Bool.eq_false_iff.mpr x4
       subst x4
       have H1 : (some (([] : List (List (S61))), ([] : List (S61)), ([] : List (S61)), false)) = some (r1, r2, r3, r4) := by rw [if_neg (show ¬ (false = true) by decide)] at H; exact H
       clear H
       have H := H1
       clear H1
       simp only [Option.some.injEq, Prod.mk.injEq] at H
       obtain ⟨rfl, rfl, rfl, rfl⟩ := H
       have j2 : 0 ≤ (b4 : Int) := aD
       have j3 : b4 < (l0.length : Int) := aD
       obtain ⟨l1, d5, d6, e282, e2, e3, hl282_0, hi282_0⟩ := at_T37 HR0.out b4 j2 j3
       cases e282
       replace e2 := (HB.out.cell (World.block_lt_of_cell? w _ e2)).trans e2
       replace e3 := (HB.out.cell (World.block_lt_of_cell? w _ e3)).trans e3
       have i4 := mk0 hi282_0
       have i5 := mk0 hl282_0
       clear hi282_0 hl282_0
       replace j2 := eq_true j2
       replace j3 := eq_true j3
       go_wp2_with (first | (refine gd 9 ?_; (try (refine gate_guard (by rfl) ?_; dsimp only)); refine box_event ?hg (N := 9) ?hd (cs := #[.slice none 0 0, .string (⟨#[]⟩ : ByteArray)]) (t := 37) ?hr ?_; (case hd => rfl); (case hg => rfl); (case hr => exact aH); intro b1 hg R5 hbox hb; replace a5 := eN a5 hg hb;replace a4 := eN a4 hg hb;have b3 := mk0 (hbox);have l2 := uG hg;have l3 := uG hg;replace HB := uW hb;have g0 := uL b0 hg;have g1 := uM b0 hg;replace b0 := uB b0 hb;have f5 := uL a7 hg;have f6 := uM a7 hg;replace a7 := uB a7 hb; clear hb hbox hg; have O1 := g1.out; have O2 := g0.out; have O3 := f6.out; have O4 := f5.out; have E6 : R5.cell? ⟨b1, 0, none⟩ = some (.slice none 0 0) := (blk_cell b3.out 0).trans rfl; have E7 := cZ b3 1; have E8 := blk_frozen b3.out 0; have E9 := blk_frozen b3.out 1) | (refine gc 18 ?_; refine gl 23 Tryz.func18 #[.slice d5 ((rd_T37 l0 b4).f0).length d6] ?_; (with_reducible refine (checker_readAll.calls k1 _ _ ((rd_T37 l0 b4).f0) e9 false _ ?side1 ?side2 A9.out).mono ?_); (case side1 => exact Kd.C_below i4.out (aB)); (case side2 => exact i5.out); rintro e S9 ⟨j5, rfl, g7, hb⟩; refine ⟨_, rfl, ?_⟩; have d1 := lN (ok' := fun k_ => (w.heap.size ≤ k_) ∧ some k_ ≠ (c4 : Value).ownBlock ∧ some k_ ≠ (c5 : Value).ownBlock ∧ k_ ≠ b2 ∧ k_ ≠ a9 ∧ k_ ≠ b1) g7;replace a5 := mk0 (Kd.N_elder' (tN a5.out) (Kd.N_base g7) hb);replace a4 := mk0 (Kd.N_elder' (tN a4.out) (Kd.N_base g7) hb);replace b0 := uB b0 hb;replace a7 := uB a7 hb;replace b3 := mk0 (blk_below (g := b1) (o := .cells #[.slice d5 ((rd_T37 l0 b4).f0).length d6, .string ((rd_T37 l0 b4).f1)] 37 (0, 0)) sB hb);replace HB := uW hb; (try clear hb); (try clear g7); have F0 := cZ b3 0; have F1 := cZ b3 1; have F2 := blk_frozen b3.out 0; have F3 := blk_frozen b3.out 1) | (refine gc 17 ?_; refine gl 29 Tryz.func17 #[.string ((rd_T37 l0 b4).f1)] ?_; (with_reducible refine (checker_read.calls k1 ((rd_T37 l0 b4).f1) d4 c9 d0 m9 _ A10.out).mono ?_); rintro e T0 ⟨n2, n3, rfl, g7, l4, hb⟩; refine ⟨_, rfl, ?_⟩; have b8 := lV (ok' := fun k_ => (w.heap.size ≤ k_) ∧ some k_ ≠ (c4 : Value).ownBlock ∧ some k_ ≠ (c5 : Value).ownBlock ∧ some k_ ≠ (j5 : Value).ownBlock ∧ k_ ≠ b2 ∧ k_ ≠ a9 ∧ k_ ≠ b1) g7;have b9 := lV (ok' := fun k_ => (w.heap.size ≤ k_) ∧ some k_ ≠ (c4 : Value).ownBlock ∧ some k_ ≠ (c5 : Value).ownBlock ∧ some k_ ≠ (j5 : Value).ownBlock ∧ k_ ≠ b2 ∧ k_ ≠ a9 ∧ k_ ≠ b1) l4;replace a5 := uN a5 hb;replace a4 := uN a4 hb;replace d1 := uN d1 hb;replace b0 := uB b0 hb;replace a7 := uB a7 hb;replace b3 := uB b3 hb;replace HB := uW hb; (try clear hb); (try clear g7); (try clear l4)) | (refine gd 12 ?_; (try (refine gate_guard (by rfl) ?_; dsimp only)); refine box_event ?hg (N := 12) ?hd (cs := #[.bool false, .slice none 0 0, .slice none 0 0]) (t := 61) ?hr ?_; (case hd => rfl); (case hg => rfl); (case hr => exact aH); intro a8 hg F4 hbox hb; replace a5 := eN a5 hg hb;replace a4 := eN a4 hg hb;replace d1 := eN d1 hg hb;replace b8 := eV b8 hg hb;replace b9 := eV b9 hg hb;have b5 := mk0 (hbox);have l5 := uG hg;have l6 := uG hg;replace HB := uW hb;have e4 := uL b0 hg;have g2 := uM b0 hg;replace b0 := uB b0 hb;have d8 := uL a7 hg;have f7 := uM a7 hg;replace a7 := uB a7 hb;have e5 := uL b3 hg;have g3 := uM b3 hg;replace b3 := uB b3 hb; clear hb hbox hg; have O5 := g2.out; have O6 := e4.out; have O7 := f7.out; have O8 := d8.out; have O9 := g3.out; have P0 := e5.out; have F5 : F4.cell? ⟨a8, 0, none⟩ = some (.bool false) := (blk_cell b5.out 0).trans rfl; have F6 : F4.cell? ⟨a8, 1, none⟩ = some (.slice none 0 0) := (blk_cell b5.out 1).trans rfl; have F7 : F4.cell? ⟨a8, 2, none⟩ = some (.slice none 0 0) := (blk_cell b5.out 2).trans rfl; have F8 := blk_frozen b5.out 0; have F9 := blk_frozen b5.out 1; have G0 := blk_frozen b5.out 2; obtain ⟨R6, R7, I5⟩ := Kd.V_slice b8.out; subst I5; obtain ⟨R8, R9, I6⟩ := Kd.V_slice b9.out; subst I6; have P1 := f4.out; have P2 := d9.out; have G1 := cZ a7 0; have G2 := cZ a7 1; have G3 : F4.cell? ⟨a9, 2, none⟩ = some (.slice none 0 0) := (blk_cell a7.out 2).trans rfl; have G4 := blk_frozen a7.out 0; have G5 := blk_frozen a7.out 1; have G6 := blk_frozen a7.out 2))
       refine bodyPost_ret (results_ct rfl _ _ a9 69 #[.slice none 0 0, .slice none 0 0, .slice none 0 0] (0, 0) _ rfl sB Tryz.underlying69 rfl (by kernel_rfl)) rfl ?_
       exact ⟨_, _, _, by first | rfl | (simp [*] <;> rfl), by first | exact Kd.R_nil _ _ _ _ _ | exact Kd.N_nil _ _ _ _ _ | exact Kd.V_nil _ _ _ _ _ | exact Kd.Q_nil _ _ _ _ _ | exact Kd.S_nil _ _ _ _ _, by first | exact Kd.S_nil _ _ _ _ _ | exact Kd.N_nil _ _ _ _ _ | exact Kd.V_nil _ _ _ _ _ | exact Kd.Q_nil _ _ _ _ _ | exact Kd.R_nil _ _ _ _ _, by first | exact Kd.S_nil _ _ _ _ _ | exact Kd.N_nil _ _ _ _ _ | exact Kd.V_nil _ _ _ _ _ | exact Kd.Q_nil _ _ _ _ _ | exact Kd.R_nil _ _ _ _ _, aB⟩
     ·
      rw [if_neg c8] at H
      exact absurd H (by simp)
    ·
     rw [if_neg c7] at H
     exact absurd H (by simp)
   ·
    rw [if_neg c6] at H
    have G8 : decide (b4 < (l0.length : Int)) = false := decide_eq_false c6
    clear c6
    obtain ⟨⟨g9, I7⟩, A97, H⟩ := bS H
    (try dsimp only at H)
    by_cases G7 : I7 = true
    ·
     subst G7
     have H1 : (if (g9.length : Int) = (l0.length : Int) then ((slices_ContainsFunc_at_checker_open_1_38.f k1 g9).bind fun k8 => (if k8 = true then (some (([] : List (List (S61))), ([] : List (S61)), ([] : List (S61)), false)) else (some (a6, a3, g9, true)))) else (some (([] : List (List (S61))), ([] : List (S61)), ([] : List (S61)), false))) = some (r1, r2, r3, r4) := by rw [if_pos rfl] at H; exact H
     clear H
     have H := H1
     clear H1
     by_cases l9 : (g9.length : Int) = (l0.length : Int)
     ·
      rw [if_pos l9] at H
      have p7 : ((g9.length : Int) == (l0.length : Int)) = true := beq_iff_eq.mpr l9
      have p8 : ((g9.length : Int) != (l0.length : Int)) = false := bne_eq_false_iff_eq.mpr l9
      have p9 : (g9.length == l0.length) = true := by first | simpa using l9 | (simp at l9 ⊢; omega)
      clear l9
      obtain ⟨k8, q0, H⟩ := bS H
      by_cases m3 : k8 = true
      ·
       subst m3
       have H1 : (some (([] : List (List (S61))), ([] : List (S61)), ([] : List (S61)), false)) = some (r1, r2, r3, r4) := by rw [if_pos rfl] at H; exact H
       clear H
       have H := H1
       clear H1
       simp only [Option.some.injEq, Prod.mk.injEq] at H
       obtain ⟨rfl, rfl, rfl, rfl⟩ := H
       have I8 := d9.out
       have I9 := f4.out
       have q1 := cZ b0 0
       have q2 := blk_frozen b0.out 0
       go_wp2_with (first | (refine gc 18 ?_; refine gl 61 Tryz.func18 #[.slice i2 e6.length i3] ?_; (with_reducible refine (checker_readAll.calls k1 _ _ e6 g9 true _ ?side1 ?side2 A97.out).mono ?_); (case side1 => exact pC (Kd.C_below k4.out HB.out)); (case side2 => exact k5.out); rintro e J0 ⟨n4, rfl, g7, hb⟩; refine ⟨_, rfl, ?_⟩; have g8 := lN (ok' := fun k_ => (w.heap.size ≤ k_) ∧ some k_ ≠ (c4 : Value).ownBlock ∧ some k_ ≠ (c5 : Value).ownBlock ∧ k_ ≠ b2 ∧ k_ ≠ a9) g7;replace a5 := dN a5 (Kd.N_base g7) hb;replace a4 := dN a4 (Kd.N_base g7) hb;replace b0 := uB b0 hb;replace a7 := uB a7 hb;replace HB := uW hb; (try clear hb); (try clear g7); obtain ⟨q3, m7, q4⟩ := Kd.N_slice g8.out; subst q4; have q5 := cZ a7 0; have q6 := cZ a7 1; have q7 : J0.cell? ⟨a9, 2, none⟩ = some (.slice none 0 0) := (blk_cell a7.out 2).trans rfl; have q8 := blk_frozen a7.out 0; have q9 := blk_frozen a7.out 1; have r0 := blk_frozen a7.out 2) | (go_at_call 38; (with_reducible refine (slices_ContainsFunc_at_checker_open_1_38.calls k1 _ _ g9  true _ ?side1 ?side2 q0.out).mono ?_); (case side1 => refine (Kd.N_reads' (e := 61) (base := w.heap.size) (ok := fun k_ => ((w.heap.size ≤ k_) ∧ (some k_ ≠ (c4 : Value).ownBlock ∧ (some k_ ≠ (c5 : Value).ownBlock ∧ (k_ ≠ b2 ∧ k_ ≠ a9))))) (n := g9.length) (c := m7) ?_).2.2; exact (sN g8.out)); (case side2 => exact (Kd.N_reads' g8.out).2.1); rintro e S0 ⟨rfl, hb⟩; replace a5 := mk0 (Kd.N_below (tN a5.out) hb);replace a4 := mk0 (Kd.N_below (tN a4.out) hb);replace g8 := mk0 (Kd.N_below (tN g8.out) hb);replace b0 := uB b0 hb;replace a7 := mk0 (blk_below (g := a9) (o := .cells #[c4, c5, .slice q3 g9.length m7] 69 (0, 0)) sB hb);replace HB := uW hb; (try clear hb); (try clear hb2); (try clear hk); (try clear hi); have r5 := cZ a7 0; have r6 := cZ a7 1; have r7 := cZ a7 2; have r8 := blk_frozen a7.out 0; have r9 := blk_frozen a7.out 1; have s0 := blk_frozen a7.out 2))
       refine bodyPost_ret (results_ct rfl _ _ a9 69 #[.slice none 0 0, .slice none 0 0, .slice none 0 0] (0, 0) _ rfl sB Tryz.underlying69 rfl (by kernel_rfl)) rfl ?_
       exact ⟨_, _, _, by first | rfl | (simp [*] <;> rfl), by first | exact Kd.R_nil _ _ _ _ _ | exact Kd.N_nil _ _ _ _ _ | exact Kd.V_nil _ _ _ _ _ | exact Kd.Q_nil _ _ _ _ _ | exact Kd.S_nil _ _ _ _ _, by first | exact Kd.S_nil _ _ _ _ _ | exact Kd.N_nil _ _ _ _ _ | exact Kd.V_nil _ _ _ _ _ | exact Kd.Q_nil _ _ _ _ _ | exact Kd.R_nil _ _ _ _ _, by first | exact Kd.S_nil _ _ _ _ _ | exact Kd.N_nil _ _ _ _ _ | exact Kd.V_nil _ _ _ _ _ | exact Kd.Q_nil _ _ _ _ _ | exact Kd.R_nil _ _ _ _ _, aB⟩
      ·
       replace m3 := Bool.eq_false_iff.mpr m3
       subst m3
       have H1 : (some (a6, a3, g9, true)) = some (r1, r2, r3, r4) := by rw [if_neg (show ¬ (false = true) by decide)] at H; exact H
       clear H
       have H := H1
       clear H1
       simp only [Option.some.injEq, Prod.mk.injEq] at H
       obtain ⟨rfl, rfl, rfl, rfl⟩ := H
       have J1 := d9.out
       have J2 := f4.out
       have s5 := cZ b0 0
       have s6 := blk_frozen b0.out 0
       go_wp2_with (first | (refine gc 18 ?_; refine gl 61 Tryz.func18 #[.slice i2 e6.length i3] ?_; (with_reducible refine (checker_readAll.calls k1 _ _ e6 g9 true _ ?side1 ?side2 A97.out).mono ?_); (case side1 => exact pC (Kd.C_below k4.out HB.out)); (case side2 => exact k5.out); rintro e J3 ⟨n4, rfl, g7, hb⟩; refine ⟨_, rfl, ?_⟩; have g8 := lN (ok' := fun k_ => (w.heap.size ≤ k_) ∧ some k_ ≠ (c4 : Value).ownBlock ∧ some k_ ≠ (c5 : Value).ownBlock ∧ k_ ≠ b2 ∧ k_ ≠ a9) g7;replace a5 := dN a5 (Kd.N_base g7) hb;replace a4 := dN a4 (Kd.N_base g7) hb;replace b0 := uB b0 hb;replace a7 := uB a7 hb;replace HB := uW hb; (try clear hb); (try clear g7); obtain ⟨m8, m0, s7⟩ := Kd.N_slice g8.out; subst s7; have s8 := cZ a7 0; have s9 := cZ a7 1; have t0 : J3.cell? ⟨a9, 2, none⟩ = some (.slice none 0 0) := (blk_cell a7.out 2).trans rfl; have t1 := blk_frozen a7.out 0; have t2 := blk_frozen a7.out 1; have t3 := blk_frozen a7.out 2) | (go_at_call 38; (with_reducible refine (slices_ContainsFunc_at_checker_open_1_38.calls k1 _ _ g9  false _ ?side1 ?side2 q0.out).mono ?_); (case side1 => refine (Kd.N_reads' (e := 61) (base := w.heap.size) (ok := fun k_ => ((w.heap.size ≤ k_) ∧ (some k_ ≠ (c4 : Value).ownBlock ∧ (some k_ ≠ (c5 : Value).ownBlock ∧ (k_ ≠ b2 ∧ k_ ≠ a9))))) (n := g9.length) (c := m0) ?_).2.2; exact (sN g8.out)); (case side2 => exact (Kd.N_reads' g8.out).2.1); rintro e S1 ⟨rfl, hb⟩; replace a5 := mk0 (Kd.N_below (tN a5.out) hb);replace a4 := mk0 (Kd.N_below (tN a4.out) hb);replace g8 := mk0 (Kd.N_below (tN g8.out) hb);replace b0 := uB b0 hb;replace a7 := mk0 (blk_below (g := a9) (o := .cells #[c4, c5, .slice m8 g9.length m0] 69 (0, 0)) sB hb);replace HB := uW hb; (try clear hb); (try clear hb2); (try clear hk); (try clear hi); have t4 := cZ a7 0; have t5 := cZ a7 1; have t6 := cZ a7 2; have t7 := blk_frozen a7.out 0; have t8 := blk_frozen a7.out 1; have t9 := blk_frozen a7.out 2; obtain ⟨u0, u2, u3⟩ := Kd.N_slice a5.out; subst u3; obtain ⟨u4, u5, u6⟩ := Kd.N_slice a4.out; subst u6))
       refine bodyPost_ret (results_ct rfl _ _ a9 69 #[.slice u0 a6.length u2, .slice u4 a3.length u5, .slice m8 g9.length m0] (0, 0) _ rfl sB Tryz.underlying69 rfl (by kernel_rfl)) rfl ?_
       exact ⟨_, _, _, by first | rfl | (simp [*] <;> rfl), sN a5.out, sN a4.out, sN g8.out, aB⟩
     ·
      rw [if_neg l9] at H
      have p7 : ((g9.length : Int) == (l0.length : Int)) = false := beq_eq_false_iff_ne.mpr l9
      have p8 : ((g9.length : Int) != (l0.length : Int)) = true := bne_iff_ne.mpr l9
      have p9 : (g9.length == l0.length) = false := by first | simpa using l9 | (simp at l9 ⊢; omega)
      simp only [Option.some.injEq, Prod.mk.injEq] at H
      obtain ⟨rfl, rfl, rfl, rfl⟩ := H
      have J4 := d9.out
      have J5 := f4.out
      have u7 := cZ b0 0
      have u9 := blk_frozen b0.out 0
      go_wp2_with (first | (refine gc 18 ?_; refine gl 61 Tryz.func18 #[.slice i2 e6.length i3] ?_; (with_reducible refine (checker_readAll.calls k1 _ _ e6 g9 true _ ?side1 ?side2 A97.out).mono ?_); (case side1 => exact pC (Kd.C_below k4.out HB.out)); (case side2 => exact k5.out); rintro e J6 ⟨n4, rfl, g7, hb⟩; refine ⟨_, rfl, ?_⟩; have g8 := lN (ok' := fun k_ => (w.heap.size ≤ k_) ∧ some k_ ≠ (c4 : Value).ownBlock ∧ some k_ ≠ (c5 : Value).ownBlock ∧ k_ ≠ b2 ∧ k_ ≠ a9) g7;replace a5 := dN a5 (Kd.N_base g7) hb;replace a4 := dN a4 (Kd.N_base g7) hb;replace b0 := uB b0 hb;replace a7 := uB a7 hb;replace HB := uW hb; (try clear hb); (try clear g7); obtain ⟨P3, P4, v0⟩ := Kd.N_slice g8.out; subst v0; have v2 := cZ a7 0; have v3 := cZ a7 1; have v4 : J6.cell? ⟨a9, 2, none⟩ = some (.slice none 0 0) := (blk_cell a7.out 2).trans rfl; have v5 := blk_frozen a7.out 0; have v6 := blk_frozen a7.out 1; have v7 := blk_frozen a7.out 2))
      refine bodyPost_ret (results_ct rfl _ _ a9 69 #[.slice none 0 0, .slice none 0 0, .slice none 0 0] (0, 0) _ rfl sB Tryz.underlying69 rfl (by kernel_rfl)) rfl ?_
      exact ⟨_, _, _, by first | rfl | (simp [*] <;> rfl), by first | exact Kd.R_nil _ _ _ _ _ | exact Kd.N_nil _ _ _ _ _ | exact Kd.V_nil _ _ _ _ _ | exact Kd.Q_nil _ _ _ _ _ | exact Kd.S_nil _ _ _ _ _, by first | exact Kd.S_nil _ _ _ _ _ | exact Kd.N_nil _ _ _ _ _ | exact Kd.V_nil _ _ _ _ _ | exact Kd.Q_nil _ _ _ _ _ | exact Kd.R_nil _ _ _ _ _, by first | exact Kd.S_nil _ _ _ _ _ | exact Kd.N_nil _ _ _ _ _ | exact Kd.V_nil _ _ _ _ _ | exact Kd.Q_nil _ _ _ _ _ | exact Kd.R_nil _ _ _ _ _, aB⟩
    ·
     replace G7 := Bool.eq_false_iff.mpr G7
     subst G7
     have H1 : (some (([] : List (List (S61))), ([] : List (S61)), ([] : List (S61)), false)) = some (r1, r2, r3, r4) := by rw [if_neg (show ¬ (false = true) by decide)] at H; exact H
     clear H
     have H := H1
     clear H1
     simp only [Option.some.injEq, Prod.mk.injEq] at H
     obtain ⟨rfl, rfl, rfl, rfl⟩ := H
     have J7 := d9.out
     have J8 := f4.out
     have v8 := cZ b0 0
     have v9 := blk_frozen b0.out 0
     go_wp2_with (first | (refine gc 18 ?_; refine gl 61 Tryz.func18 #[.slice i2 e6.length i3] ?_; (with_reducible refine (checker_readAll.calls k1 _ _ e6 g9 false _ ?side1 ?side2 A97.out).mono ?_); (case side1 => exact pC (Kd.C_below k4.out HB.out)); (case side2 => exact k5.out); rintro e J9 ⟨n4, rfl, g7, hb⟩; refine ⟨_, rfl, ?_⟩; have g8 := lN (ok' := fun k_ => (w.heap.size ≤ k_) ∧ some k_ ≠ (c4 : Value).ownBlock ∧ some k_ ≠ (c5 : Value).ownBlock ∧ k_ ≠ b2 ∧ k_ ≠ a9) g7;replace a5 := dN a5 (Kd.N_base g7) hb;replace a4 := dN a4 (Kd.N_base g7) hb;replace b0 := uB b0 hb;replace a7 := uB a7 hb;replace HB := uW hb; (try clear hb); (try clear g7); obtain ⟨P5, P6, w3⟩ := Kd.N_slice g8.out; subst w3; have w6 := cZ a7 0; have w7 := cZ a7 1; have w8 : J9.cell? ⟨a9, 2, none⟩ = some (.slice none 0 0) := (blk_cell a7.out 2).trans rfl; have w9 := blk_frozen a7.out 0; have x2 := blk_frozen a7.out 1; have x3 := blk_frozen a7.out 2))
     refine bodyPost_ret (results_ct rfl _ _ a9 69 #[.slice none 0 0, .slice none 0 0, .slice none 0 0] (0, 0) _ rfl sB Tryz.underlying69 rfl (by kernel_rfl)) rfl ?_
     exact ⟨_, _, _, by first | rfl | (simp [*] <;> rfl), by first | exact Kd.R_nil _ _ _ _ _ | exact Kd.N_nil _ _ _ _ _ | exact Kd.V_nil _ _ _ _ _ | exact Kd.Q_nil _ _ _ _ _ | exact Kd.S_nil _ _ _ _ _, by first | exact Kd.S_nil _ _ _ _ _ | exact Kd.N_nil _ _ _ _ _ | exact Kd.V_nil _ _ _ _ _ | exact Kd.Q_nil _ _ _ _ _ | exact Kd.R_nil _ _ _ _ _, by first | exact Kd.S_nil _ _ _ _ _ | exact Kd.N_nil _ _ _ _ _ | exact Kd.V_nil _ _ _ _ _ | exact Kd.Q_nil _ _ _ _ _ | exact Kd.R_nil _ _ _ _ _, aB⟩
mutual
def checker_natural_over.l0 : Nat → List Int → List Int → List Int → List Int → Int → Option (List Int)
 | 0, _, _, _, _, _ => none
 | k + 1, x0, x1, x5, x6, x7 => if x7 ≥ 0 then ((checker_natural_add.f k x6 x6).bind fun a7 => (if 0 ≤ (wrap64 (Int.tdiv x7 32)) then (if (wrap64 (Int.tdiv x7 32)) < (x0.length : Int) then (if 0 ≤ (Int.tmod x7 32) then (if (Go.bits .and .u32 (shr .u32 (rd x0 (wrap64 (Int.tdiv x7 32))) (Int.tmod x7 32)) 1) = 1 then ((checker_natural_add.f k a7 (([1] : List Int))).bind fun a8 => (checker_natural_over.j1 k x0 x1 x5 a8 x7)) else (checker_natural_over.j1 k x0 x1 x5 a7 x7)) else (none)) else (none)) else (none))) else ((checker_natural_trim.f k x5).bind fun d3 => (some d3))
def checker_natural_over.j1 : Nat → List Int → List Int → List Int → List Int → Int → Option (List Int)
 | 0, _, _, _, _, _ => none
 | k + 1, x0, x1, x5, x6, x7 => (checker_natural_compare.f k x6 x1).bind fun b5 => (if b5 ≥ 0 then ((checker_natural_sub.f k x6 x1).bind fun b4 => (if 0 ≤ (wrap64 (Int.tdiv x7 32)) then (if (wrap64 (Int.tdiv x7 32)) < (x5.length : Int) then (if 0 ≤ (Int.tmod x7 32) then (checker_natural_over.l0 k x0 x1 (x5.set ((wrap64 (Int.tdiv x7 32)) : Int).toNat (Go.bits .or .u32 (rd x5 (wrap64 (Int.tdiv x7 32))) (shl .u32 1 (Int.tmod x7 32)))) b4 (wrap64 (x7 - 1))) else (none)) else (none)) else (none))) else (checker_natural_over.l0 k x0 x1 x5 x6 (wrap64 (x7 - 1))))
end
def checker_natural_over.f (k : Nat) (l0 : List Int) (l1 : List Int) : Option (List Int) := if 0 ≤ (l0.length : Int) then (if ((l0.length : Int) : Int).toNat ≤ 70368744177664 then (checker_natural_over.l0 k l0 l1 (List.replicate ((l0.length : Int) : Int).toNat 0) ([] : List Int) (wrap64 ((wrap64 (32 * (l0.length : Int))) - 1))) else (none)) else (none)
theorem checker_natural_over.mono_l : ∀ k, (∀ y0 y1 y2 y3 y4, LeO (checker_natural_over.l0 k y0 y1 y2 y3 y4) (checker_natural_over.l0 (k + 1) y0 y1 y2 y3 y4)) ∧ (∀ y0 y1 y2 y3 y4, LeO (checker_natural_over.j1 k y0 y1 y2 y3 y4) (checker_natural_over.j1 (k + 1) y0 y1 y2 y3 y4))
 | 0 => ⟨fun _ _ _ _ _ r h => by simp [checker_natural_over.l0] at h, fun _ _ _ _ _ r h => by simp [checker_natural_over.j1] at h⟩
 | k + 1 => by
  obtain ⟨ih0, ih1⟩ := checker_natural_over.mono_l k
  refine ⟨?_, ?_⟩
  ·
   intro y0 y1 y2 y3 y4
   unfold checker_natural_over.l0
   repeat' first | (with_reducible first | exact ih0 .. | exact ih1 .. | exact checker_natural_add.mono .. | exact checker_natural_compare.mono .. | exact checker_natural_sub.mono .. | exact checker_natural_trim.mono .. | exact LeO.refl _ | exact LeO.none _ | refine LeO.ite ?_ ?_ | refine LeO.bind ?_ (fun _ => ?_))
  ·
   intro y0 y1 y2 y3 y4
   unfold checker_natural_over.j1
   repeat' first | (with_reducible first | exact ih0 .. | exact ih1 .. | exact checker_natural_add.mono .. | exact checker_natural_compare.mono .. | exact checker_natural_sub.mono .. | exact checker_natural_trim.mono .. | exact LeO.refl _ | exact LeO.none _ | refine LeO.ite ?_ ?_ | refine LeO.bind ?_ (fun _ => ?_))
theorem checker_natural_over.mono : ∀ a0 a1 k, LeO (checker_natural_over.f k a0 a1) (checker_natural_over.f (k + 1) a0 a1) := by
 intro a0 a1 k
 obtain ⟨ih0, ih1⟩ := checker_natural_over.mono_l k
 unfold checker_natural_over.f
 repeat' first | (with_reducible first | exact ih0 .. | exact ih1 .. | exact checker_natural_add.mono .. | exact checker_natural_compare.mono .. | exact checker_natural_sub.mono .. | exact checker_natural_trim.mono .. | exact LeO.refl _ | exact LeO.none _ | refine LeO.ite ?_ ?_ | refine LeO.bind ?_ (fun _ => ?_))
def checker_natural_over.T11 : Bool × List (List Nat × List Nat) := (true, [([], []), ([], []), ([1], [1]), ([0, 2], [0, 2]), ([3], [3]), ([], []), ([5], [5]), ([6], [6]), ([4, 7], [4, 7]), ([0, 2, 0, 1, 2, 3, 4, 5, 6, 7, 8], [0, 2]), ([9, 8, 0, 1, 2, 3, 4, 5, 6, 7, 8], [8, 9])])
def checker_natural_over.B11 : List Nat := [0, 0, 2, 7, 15, 0, 32, 96, 255, 511, 1023]
theorem checker_natural_over.tab11 : rtab .any (opsOf Tryz.f71 11) = checker_natural_over.T11 := by kernel_rfl
theorem checker_natural_over.bits11 : waitsOk checker_natural_over.T11.2 checker_natural_over.B11 = true := by kernel_rfl
set_option maxHeartbeats 8000000 in
set_option maxRecDepth 100000 in
theorem checker_natural_over.calls (k : Nat) (A0 : Option Addr) (c0 : Nat) (l0 : List Int) (A1 : Option Addr) (c1 : Nat) (l1 : List Int) (r : List Int) (w : World) (hr0 : Kd.C (Kd.int .u32) w A0 l0.length l0) (hc0 : l0.length ≤ c0) (hr1 : Kd.C (Kd.int .u32) w A1 l1.length l1) (hc1 : l1.length ≤ c1) (h : checker_natural_over.f k l0 l1 = some r) :
  Calls Tryz.prog 71 #[.slice A0 l0.length c0, .slice A1 l1.length c1] w fun e w' => ∃ v0_ : Value, e = .returned (v0_) ∧ Kd.V (Kd.int .u32) 107 w' w.heap.size (fun k_ => (w.heap.size ≤ k_)) v0_ r ∧ Below w.heap.size w w' := by
 have HR0 := mk0 hr0
 have m0 := mk0 hc0
 clear hr0 hc0
 have HR1 := mk0 hr1
 have i4 := mk0 hc1
 clear hr1 hc1
 have HB := mk0 (Below.refl w.heap.size w)
 have H : (if 0 ≤ (l0.length : Int) then (if ((l0.length : Int) : Int).toNat ≤ 70368744177664 then (checker_natural_over.l0 k l0 l1 (List.replicate ((l0.length : Int) : Int).toNat 0) ([] : List Int) (wrap64 ((wrap64 (32 * (l0.length : Int))) - 1))) else (none)) else (none)) = some r := h
 clear h
 by_cases c3 : 0 ≤ (l0.length : Int)
 ·
  rw [if_pos c3] at H
  have e6 := eq_true c3
  have e7 : decide (0 ≤ (l0.length : Int)) = true := decide_eq_true c3
  clear c3
  by_cases c4 : ((l0.length : Int) : Int).toNat ≤ 70368744177664
  ·
   rw [if_pos c4] at H
   have e8 := eq_true c4
   have e9 : decide (((l0.length : Int) : Int).toNat ≤ 70368744177664) = true := decide_eq_true c4
   clear c4
   obtain ⟨f0, hy314⟩ : ∃ y_ : List Int, y_ = (List.replicate ((l0.length : Int) : Int).toNat 0) := ⟨_, rfl⟩
   replace H : (checker_natural_over.l0 k l0 l1 f0 ([] : List Int) (wrap64 ((wrap64 (32 * (l0.length : Int))) - 1))) = some r := by first | (rw [hy314]; exact H) | (rw [hy314]; exact (Option.bind_some _ _).symm.trans H) | exact (Option.bind_some _ _).symm.trans H
   have Ny314 := mk0 hy314
   clear hy314
   have H' := mk0 H
   clear H
   go_enter Tryz.func71, Tryz.ntmps71
   go_wp2_with (first | (refine gd 10 ?_; refine Kd.R_make (Kd.int .u32) _ 107 rfl (N := 10) rfl 59 _ _ rfl (l0.length : Int) rfl rfl Tryz.underlying59 (.int .u32 0) 4 info107 rfl (by decide) (by omega) 0 (ok := fun _ => True) (okp := fun _ => True) rfl (fun _ hk => hk) trivial (aD) (Nat.le_trans (Nat.mul_le_mul_right _ (aD : (l0.length : Int).toNat ≤ 70368744177664)) (by omega)) (Below.refl _ _) (Nat.le_refl _) ?_; intro a9 w5 i5 hb hg_ hnew_; clear hg_ hnew_; rw [← Ny314.out] at i5; have f1 := mk0 (Kd.R_lower (Kd.R_newM (M := fun k_ => (w.heap.size ≤ k_)) i5 (below_size (aB)) (fun k_ h_ => h_)) (below_size (aB)));replace HB := uW hb; clear hb i5))
   go_loopg [6, 7] k (fun kq v6 v7 w' => ∃ (a2 : List Int) (b6 : List Int) (a3 : Int), v7 = .int .i64 a3 ∧ Aside0 (checker_natural_over.l0 kq l0 l1 a2 b6 a3 = some r) ∧ Aside0 (kq ≤ k) ∧ Aside0 (Kd.R (Kd.int .u32) 107 w' w.heap.size (fun k_ => (w.heap.size ≤ k_)) a9 a2) ∧ Aside0 (Kd.V (Kd.int .u32) 107 w' w.heap.size (fun k_ => (w.heap.size ≤ k_) ∧ some k_ ≠ (a9 : Value).ownBlock) v6 b6) ∧ Aside0 (Below w.heap.size w w'))
   case atStart => exact ⟨(f0), (([] : List Int)), (wrap64 ((wrap64 (32 * (l0.length : Int))) - 1)), (by first | rfl | simp [*]), H', ⟨Nat.le_refl _⟩, ⟨sR f1.out⟩, ⟨Kd.V_nil _ _ _ _ _⟩, ⟨aB⟩⟩
   case round =>
    clear H'
    try clear c1
    try clear p2
    try clear c3
    try clear e6
    try clear e7
    try clear c4
    try clear e8
    try clear e9
    try clear p6
    obtain ⟨a2, b6, a3, rfl, HA, HK1, a5, a4, HB⟩ := hrel
    cases gk with
    | zero => exact absurd HA.out (by simp [checker_natural_over.l0])
    | succ k1 =>
     have H := HA.out
     clear HA
     simp only [checker_natural_over.l0] at H
     by_cases c7 : a3 ≥ 0
     ·
      rw [if_pos c7] at H
      have f2 : decide (0 ≤ a3) = true := decide_eq_true c7
      clear c7
      obtain ⟨a7, A8, H⟩ := bS H
      obtain ⟨ji9, hji9⟩ : ∃ j_ : Int, (wrap64 (Int.tdiv a3 32)) = j_ := ⟨_, rfl⟩
      replace H : (if 0 ≤ (ji9) then (if (ji9) < (l0.length : Int) then (if 0 ≤ (Int.tmod a3 32) then (if (Go.bits .and .u32 (shr .u32 (rd l0 (ji9)) (Int.tmod a3 32)) 1) = 1 then ((checker_natural_add.f k1 a7 (([1] : List Int))).bind fun a8 => (checker_natural_over.j1 k1 l0 l1 a2 a8 a3)) else (checker_natural_over.j1 k1 l0 l1 a2 a7 a3)) else (none)) else (none)) else (none)) = some r := by first | (rw [hji9] at H; exact H) | (simp only [hji9] at H ⊢; exact H)
      (try rw [hji9] at A8)
      have hji9w : (IntKind.i64.wrap (Int.tdiv a3 32)) = ji9 := (i64_w _).trans hji9
      by_cases f3 : 0 ≤ (ji9)
      ·
       rw [if_pos f3] at H
       have f4 : decide (0 ≤ (ji9)) = true := decide_eq_true f3
       clear f3
       by_cases f5 : (ji9) < (l0.length : Int)
       ·
        rw [if_pos f5] at H
        have f6 : decide ((ji9) < (l0.length : Int)) = true := decide_eq_true f5
        clear f5
        obtain ⟨ji12, hji12⟩ : ∃ j_ : Int, (Int.tmod a3 32) = j_ := ⟨_, rfl⟩
        replace H : (if 0 ≤ (ji12) then (if (Go.bits .and .u32 (shr .u32 (rd l0 (ji9)) (ji12)) 1) = 1 then ((checker_natural_add.f k1 a7 (([1] : List Int))).bind fun a8 => (checker_natural_over.j1 k1 l0 l1 a2 a8 a3)) else (checker_natural_over.j1 k1 l0 l1 a2 a7 a3)) else (none)) = some r := by first | (rw [hji12] at H; exact H) | (simp only [hji12] at H ⊢; exact H)
        (try rw [hji12] at A8)
        by_cases e4 : 0 ≤ (ji12)
        ·
         rw [if_pos e4] at H
         have f7 := eq_true e4
         have f8 : decide (0 ≤ (ji12)) = true := decide_eq_true e4
         clear e4
         obtain ⟨ji14, hji14⟩ : ∃ j_ : Int, (shr .u32 (rd l0 (ji9)) (ji12)) = j_ := ⟨_, rfl⟩
         replace H : (if (Go.bits .and .u32 (ji14) 1) = 1 then ((checker_natural_add.f k1 a7 (([1] : List Int))).bind fun a8 => (checker_natural_over.j1 k1 l0 l1 a2 a8 a3)) else (checker_natural_over.j1 k1 l0 l1 a2 a7 a3)) = some r := by first | (rw [hji14] at H; exact H) | (simp only [hji14] at H ⊢; exact H)
         (try rw [hji14] at A8)
         have hji14_ : ((rd l0 (ji9)) / 2 ^ min (ji12).toNat 32) = ji14 := hji14
         have hji14z : (ji12) ≤ 32 → ((rd l0 (ji9)) / 2 ^ (ji12).toNat) = ji14 := shr_small hji14
         have d4 := mk0 H
         clear H
         obtain ⟨f9, g0, i6⟩ := Kd.V_slice a4.out
         subst i6
         go_upto_if 31 with (first | (refine gc 45 ?_; refine gl 21 Tryz.func45 #[.slice f9 b6.length g0, .slice f9 b6.length g0] ?_; (with_reducible refine (checker_natural_add.calls k1 (fun k_ => ((w.heap.size ≤ k_) ∧ some k_ ≠ (a9 : Value).ownBlock)) _ _ b6 (fun k_ => ((w.heap.size ≤ k_) ∧ some k_ ≠ (a9 : Value).ownBlock)) _ _ b6 a7 _ ?side1 ?side2 A8.out).mono ?_); (case side1 => exact Kd.V_mono (Go.Proofs.YtbgmfgndldnmcaaGreatDoorMyWords.V_base (a4.out)) (fun k_ hk => by first | exact hk | (simp only [hk, ne_eq, not_false_eq_true, and_self]; done))); (case side2 => exact Kd.V_mono (Go.Proofs.YtbgmfgndldnmcaaGreatDoorMyWords.V_base (a4.out)) (fun k_ hk => by first | exact hk | (simp only [hk, ne_eq, not_false_eq_true, and_self]; done))); rintro e m1 ⟨k9, rfl, c6, hb⟩; refine ⟨_, rfl, ?_⟩; replace a4 := uV a4 hb;have b1 := lV (ok' := fun k_ => (w.heap.size ≤ k_) ∧ some k_ ≠ (a9 : Value).ownBlock) c6;replace a5 := uR a5 hb;replace HB := uW hb; (try clear hb); (try clear c6); have c9 : 0 ≤ ((ji9) : Int) := aD; have d0 : (ji9) < (l0.length : Int) := aD; obtain ⟨j9, e323, b0⟩ := Kd.at_int HR0.out (ji9) c9 d0; cases e323; replace b0 := (HB.out.cell (World.block_lt_of_cell? w _ b0)).trans b0; replace c9 := eq_true c9; replace d0 := eq_true d0))
         (try simp only [Act.put, List.setIfInBounds_toArray, List.set_cons_zero, List.set_cons_succ])
         go_cut [6] (fun v6 wc => ∃ (kq : Nat) (a6 : List Int), Aside0 (checker_natural_over.j1 kq l0 l1 a2 a6 a3 = some r) ∧ Aside0 (kq ≤ k1) ∧ Aside0 (Kd.R (Kd.int .u32) 107 wc w.heap.size (fun k_ => (w.heap.size ≤ k_)) a9 a2) ∧ Aside0 (Kd.V (Kd.int .u32) 107 wc w.heap.size (fun k_ => (w.heap.size ≤ k_) ∧ some k_ ≠ (a9 : Value).ownBlock) v6 a6) ∧ Aside0 (Below w.heap.size w wc))
         case first =>
          have H := d4.out
          clear d4
          by_cases d1 : (Go.bits .and .u32 (ji14) 1) = 1
          ·
           rw [if_pos d1] at H
           have b2 : ((Go.bits .and .u32 (ji14) 1) == 1) = true := beq_iff_eq.mpr d1
           have b7 : ((Go.bits .and .u32 (ji14) 1) != 1) = false := bne_eq_false_iff_eq.mpr d1
           clear d1
           (first | rw [b2] | rw [b7] | (simp only [i64_w, i32_w]; rw [b2]) | skip)
           obtain ⟨c8, hy324⟩ : ∃ y_ : List Int, y_ = (([1] : List Int)) := ⟨_, rfl⟩
           replace H : ((checker_natural_add.f k1 a7 c8).bind fun a8 => (checker_natural_over.j1 k1 l0 l1 a2 a8 a3)) = some r := by first | (rw [hy324]; exact H) | (rw [hy324]; exact (Option.bind_some _ _).symm.trans H) | exact (Option.bind_some _ _).symm.trans H
           have Ny324 := mk0 hy324
           clear hy324
           obtain ⟨a8, A19, H⟩ := bS H
           have H' := mk0 H
           clear H
           go_wp2_with (first | (refine gd 33 ?_; refine Kd.R_lit (Kd.int .u32) _ 107 ?hg (N := 33) ?hd (xs := ([1] : List Int)) (inner := [.int .u32 1]) (ok := fun _ => True) (okp := fun _ => True) ?hr ?hp (fun _ hk => hk) trivial (Below.refl _ _) (Nat.le_refl _) (by simp) ?_; (case hd => rfl); (case hg => rfl); (case hr => exact aH); (case hp => exact (Reps.one (show Kd.M (Kd.int .u32) _ _ _ 1 [.int .u32 1] from rfl) (Reps.none _ _))); intro l2 m2 c5 hb hg_ hnew_; clear hg_ hnew_; rw [← Ny324.out] at c5; replace a4 := dV a4 (Kd.R_base c5) hb;replace b1 := dV b1 (Kd.R_base c5) hb;have b8 := mk0 (Kd.R_lower (Kd.R_new' (Kd.R_newM (M := fun k_ => (w.heap.size ≤ k_)) c5 (below_size (aB)) (fun k_ h_ => h_)) (Kd.R_lt (pR a5.out))) (below_size (aB)));replace a5 := dR a5 (Kd.R_base c5) hb;replace HB := uW hb; clear hb c5; obtain ⟨i7, i8, i9⟩ := Kd.V_slice b1.out; subst i9; obtain ⟨d5, d6, j0⟩ := Kd.R_slice b8.out; subst j0) | (refine gc 45 ?_; refine gl 34 Tryz.func45 #[.slice i7 a7.length i8, .slice d5 c8.length d6] ?_; (with_reducible refine (checker_natural_add.calls k1 (fun k_ => (((w.heap.size ≤ k_) ∧ some k_ ≠ (a9 : Value).ownBlock) ∧ some k_ ≠ (.slice d5 c8.length d6 : Value).ownBlock)) _ _ a7 (fun k_ => some k_ = (.slice d5 c8.length d6 : Value).ownBlock) _ _ c8 a8 _ ?side1 ?side2 A19.out).mono ?_); (case side1 => exact Kd.V_mono (Go.Proofs.YtbgmfgndldnmcaaGreatDoorMyWords.V_base (b1.out)) (fun k_ hk => by first | exact hk | (simp only [hk, ne_eq, not_false_eq_true, and_self]; done))); (case side2 => exact Kd.R_V (Kd.R_tight rfl (b8.out))); rintro e m3 ⟨l3, rfl, c6, hb⟩; refine ⟨_, rfl, ?_⟩; replace a4 := uV a4 hb;replace b1 := uV b1 hb;have g1 := lV (ok' := fun k_ => (w.heap.size ≤ k_) ∧ some k_ ≠ (a9 : Value).ownBlock) c6;replace a5 := uR a5 hb;replace b8 := uR b8 hb;replace HB := uW hb; (try clear hb); (try clear c6)))
           go_meet
           case rel => exact ⟨_, (a8), H', ⟨by have := HK1.out; omega⟩, ⟨sR a5.out⟩, ⟨pV g1.out⟩, ⟨aB⟩⟩
          ·
           rw [if_neg d1] at H
           have b2 : ((Go.bits .and .u32 (ji14) 1) == 1) = false := beq_eq_false_iff_ne.mpr d1
           have b7 : ((Go.bits .and .u32 (ji14) 1) != 1) = true := bne_iff_ne.mpr d1
           (first | rw [b2] | rw [b7] | (simp only [i64_w, i32_w]; rw [b2]) | skip)
           have H' := mk0 H
           clear H
           go_wp2
           go_meet
           case rel => exact ⟨_, (a7), H', ⟨by have := HK1.out; omega⟩, ⟨pR a5.out⟩, ⟨pV b1.out⟩, ⟨aB⟩⟩
         case rest =>
          clear d4
          try clear c1
          try clear p2
          try clear c3
          try clear e6
          try clear e7
          try clear p3
          try clear q3
          try clear hx3
          try clear c4
          try clear e8
          try clear e9
          try clear p6
          try clear c7
          try clear f2
          try clear f3
          try clear f4
          try clear f5
          try clear f6
          try clear e4
          try clear f7
          try clear f8
          try clear d1
          try clear b2
          try clear b7
          try clear b0
          try clear p2
          try clear c9
          try clear p6
          try clear d0
          obtain ⟨kq, a6, HA, HJ14, a5, a4, HB⟩ := hcut
          cases kq with
          | zero => exact absurd HA.out (by simp [checker_natural_over.j1])
          | succ kj14 =>
           have H := HA.out
           clear HA
           simp only [checker_natural_over.j1] at H
           obtain ⟨b5, A25, H⟩ := bS H
           by_cases e5 : b5 ≥ 0
           ·
            rw [if_pos e5] at H
            have g2 : decide (0 ≤ b5) = true := decide_eq_true e5
            clear e5
            obtain ⟨b4, A27, H⟩ := bS H
            (try clear hji9)
            (try clear hji9w)
            obtain ⟨ji28, hji28⟩ : ∃ j_ : Int, (wrap64 (Int.tdiv a3 32)) = j_ := ⟨_, rfl⟩
            replace H : (if 0 ≤ (ji28) then (if (ji28) < (a2.length : Int) then (if 0 ≤ (Int.tmod a3 32) then (checker_natural_over.l0 kj14 l0 l1 (a2.set ((ji28) : Int).toNat (Go.bits .or .u32 (rd a2 (ji28)) (shl .u32 1 (Int.tmod a3 32)))) b4 (wrap64 (a3 - 1))) else (none)) else (none)) else (none)) = some r := by first | (rw [hji28] at H; exact H) | (simp only [hji28] at H ⊢; exact H)
            (try rw [hji28] at A25)
            (try rw [hji28] at A27)
            have hji28w : (IntKind.i64.wrap (Int.tdiv a3 32)) = ji28 := (i64_w _).trans hji28
            by_cases i2 : 0 ≤ (ji28)
            ·
             rw [if_pos i2] at H
             have k0 : decide (0 ≤ (ji28)) = true := decide_eq_true i2
             clear i2
             by_cases i3 : (ji28) < (a2.length : Int)
             ·
              rw [if_pos i3] at H
              have k2 : decide ((ji28) < (a2.length : Int)) = true := decide_eq_true i3
              clear i3
              (try clear hji12)
              (try clear hji12w)
              obtain ⟨ji31, hji31⟩ : ∃ j_ : Int, (Int.tmod a3 32) = j_ := ⟨_, rfl⟩
              replace H : (if 0 ≤ (ji31) then (checker_natural_over.l0 kj14 l0 l1 (a2.set ((ji28) : Int).toNat (Go.bits .or .u32 (rd a2 (ji28)) (shl .u32 1 (ji31)))) b4 (wrap64 (a3 - 1))) else (none)) = some r := by first | (rw [hji31] at H; exact H) | (simp only [hji31] at H ⊢; exact H)
              (try rw [hji31] at A25)
              (try rw [hji31] at A27)
              by_cases g3 : 0 ≤ (ji31)
              ·
               rw [if_pos g3] at H
               have k3 := eq_true g3
               have k4 : decide (0 ≤ (ji31)) = true := decide_eq_true g3
               clear g3
               obtain ⟨ji33, hji33⟩ : ∃ j_ : Int, (shl .u32 1 (ji31)) = j_ := ⟨_, rfl⟩
               replace H : (checker_natural_over.l0 kj14 l0 l1 (a2.set ((ji28) : Int).toNat (Go.bits .or .u32 (rd a2 (ji28)) (ji33))) b4 (wrap64 (a3 - 1))) = some r := by first | (rw [hji33] at H; exact H) | (simp only [hji33] at H ⊢; exact H)
               (try rw [hji33] at A25)
               (try rw [hji33] at A27)
               have hji33_ : (IntKind.u32.wrap (1 * 2 ^ min (ji31).toNat 32)) = ji33 := hji33
               have hji33z : (ji31) ≤ 32 → (IntKind.u32.wrap (1 * 2 ^ (ji31).toNat)) = ji33 := shl_small hji33
               have hji33u : (IntKind.u32.wrap (2 ^ min (ji31).toNat 32)) = ji33 := by have h_ := hji33_; rw [Int.one_mul] at h_; exact h_
               have hji33v : (ji31) ≤ 32 → (IntKind.u32.wrap (2 ^ (ji31).toNat)) = ji33 := fun hle_ => by have h_ := hji33z hle_; rw [Int.one_mul] at h_; exact h_
               obtain ⟨g4, hy335⟩ : ∃ y_ : List Int, y_ = (a2.set ((ji28) : Int).toNat (Go.bits .or .u32 (rd a2 (ji28)) (ji33))) := ⟨_, rfl⟩
               replace H : (checker_natural_over.l0 kj14 l0 l1 g4 b4 (wrap64 (a3 - 1))) = some r := by first | (rw [hy335]; exact H) | (rw [hy335]; exact (Option.bind_some _ _).symm.trans H) | exact (Option.bind_some _ _).symm.trans H
               have Ny335 := mk0 hy335
               clear hy335
               have H' := mk0 H
               clear H
               obtain ⟨d7, d8, j2⟩ := Kd.V_slice a4.out
               subst j2
               try go_wp2_with (first | (refine gc 36 ?_; refine gl 37 Tryz.func36 #[.slice d7 a6.length d8, .slice A1 l1.length c1] ?_; (with_reducible refine (checker_natural_compare.calls kj14 _ _ a6 _ _ l1 b5 _ ?side1 ?side2 ?side3 ?side4 A25.out).mono ?_); (case side1 => exact pC ((Kd.V_reads' a4.out).2.2)); (case side2 => exact (Kd.V_reads' a4.out).2.1); (case side3 => exact pC (Kd.C_below HR1.out HB.out)); (case side4 => exact i4.out); rintro e w' ⟨rfl, ⟨nd, rfl⟩⟩; refine ⟨_, rfl, ?_⟩; (try (rw [drewN_self wc]; generalize hq_ : World.drewN wc _ = wc; have k5 : Aside0 (Kd.R (Kd.int .u32) 107 wc w.heap.size (fun k_ => (w.heap.size ≤ k_)) a9 a2) := ⟨by rw [← hq_]; exact (pR a5.out)⟩; have k6 : Aside0 (Kd.V (Kd.int .u32) 107 wc w.heap.size (fun k_ => (w.heap.size ≤ k_) ∧ some k_ ≠ (a9 : Value).ownBlock) (.slice d7 a6.length d8) a6) := ⟨by rw [← hq_]; exact (pV a4.out)⟩; have k7 : Aside0 (Below w.heap.size w wc) := ⟨by rw [← hq_]; exact (aB)⟩; clear a5 a4 HB hq_; have a5 := k5; have a4 := k6; have HB := k7; clear k5 k6 k7))) | (refine gc 46 ?_; refine gl 41 Tryz.func46 #[.slice d7 a6.length d8, .slice A1 l1.length c1] ?_; (with_reducible refine (checker_natural_sub.calls kj14 _ _ a6 _ _ l1 b4 _ ?side1 ?side2 ?side3 ?side4 A27.out).mono ?_); (case side1 => exact pC ((Kd.V_reads' a4.out).2.2)); (case side2 => exact (Kd.V_reads' a4.out).2.1); (case side3 => exact pC (Kd.C_below HR1.out HB.out)); (case side4 => exact i4.out); rintro e l4 ⟨l5, rfl, c6, hb⟩; refine ⟨_, rfl, ?_⟩; replace a4 := uV a4 hb;have b9 := lV (ok' := fun k_ => (w.heap.size ≤ k_) ∧ some k_ ≠ (a9 : Value).ownBlock) c6;replace a5 := uR a5 hb;replace HB := uW hb; (try clear hb); (try clear c6)))
               replace a5 := mk0 (Kd.R_drew a5.out)
               replace a4 := mk0 (Kd.V_drew a4.out)
               replace b9 := mk0 (Kd.V_drew b9.out)
               replace HB := mk0 (below_drew1 HB.out)
               obtain ⟨l6, l7, g5⟩ := Kd.R_slice a5.out
               (first | subst g5 | (injection g5 with f1_ f2_ f3_; have f4_ := f1_.symm; have f5_ := f3_.symm; clear f1_ f2_ f3_; subst f4_; subst f5_))
               have d9 : 0 ≤ ((ji28) : Int) := aD
               have e1 : (ji28) < (a2.length : Int) := aD
               obtain ⟨k8, e334, b3⟩ := Kd.at_int (Kd.R_reads' a5.out).2.2 (ji28) d9 e1
               cases e334
               replace d9 := eq_true d9
               replace e1 := eq_true e1
               have j3 : 0 ≤ ((ji28) : Int) := aD
               have j4 : ((ji28) : Int) < ((a2.length : Int) : Int) := aD
               obtain ⟨e2, l8, g6, g7, gl34, cl34, HG34⟩ := Kd.R_form a5.out (by omega)
               (first | cases g6 | (injection g6 with ea_ en_ ec_; (first | subst ea_ | (injection ea_ with ea_; subst ea_)); subst ec_; clear en_))
               have GB34 := mk0 g7
               have GG34 := mk0 HG34
               clear g7 gl34 HG34
               (first | simp only [add_plain] at b3 | skip)
               obtain ⟨e3, hf34_0⟩ := Kd.R_celln 0 a5.out ((ji28) : Int) j3 j4
               replace j3 := eq_true j3
               replace j4 := eq_true j4
               have HP39 := Kd.R_putn a5.out ((ji28) : Int) (Go.bits .or .u32 (rd a2 (ji28)) (ji33))
               rw [← Ny335.out] at HP39
               have HQ39 := mk0 HP39
               clear HP39
               refine start_ (n := 11) (S := fun w' => w'.cell? ⟨e2, ((ji28)).toNat, none⟩ = some (.int .u32 (rd a2 (ji28)))) (ds := [10]) #[false, false, false, false, false, false, false, false, false, false, false] (by kernel_rfl) rfl rfl (b3) (fun d2 => ?_); refine with_tabW checker_natural_over.tab11 checker_natural_over.bits11 (fun HT_ HW_ => ?_)
               generalize l4.drew = m4 at a5 a4 b9 HB GG34 HQ39 hf34_0 b3 e3 d2 ⊢
               refine pu 0 42 HT_ ?_
               refine pu 1 43 HT_ ?_
               refine pu 2 44 HT_ ?_
               refine pu 3 45 HT_ ?_
               refine pu 5 47 HT_ ?_
               refine pu 6 48 HT_ ?_
               refine pu 7 49 HT_ ?_
               refine take_ (i := 4) (N := some 46) (v := ?_) (a' := ?_) #[true, true, true, true, true, true, true, true, false, false, false] rfl rfl (take_ofW HT_.out HW_.out (by kernel_rfl)) (fun _ _ _ h => h) (Or.inl ⟨by rfl, ?_⟩) d2 ?_ ?_
               rotate_left
               ·
                intro w' s0
                go_simp
                with_reducible rfl
               rotate_left
               ·
                exact aP
               refine pu 8 50 HT_ ?_
               refine pu 9 51 HT_ ?_
               refine last_ (i := 10) (N := none) #[true, true, true, true, true, true, true, true, true, true, true] rfl rfl (one_of HT_.out (by kernel_rfl)) (by decide) (fun K hK => ?_)
               refine skip_ (w1 := ?_) (by rfl) rfl ?_ ?_
               rotate_left
               ·
                go_simp
                rfl
               refine hK.out _ _ ?_
               clear hK K
               refine done_ (done_of HT_.out (by kernel_rfl)) ?_
               try go_wp2
               go_roundg kj14
               case measure => have := HK1.out; have := HJ14.out; omega
               case rel => exact ⟨(g4), (b4), (wrap64 (a3 - 1)), (by first | rfl | simp [*]), H', ⟨by have := HK1.out; have := HJ14.out; omega⟩, ⟨pR HQ39.out⟩, ⟨by (with_reducible repeat (first | apply Kd.V_alloc | apply Kd.V_drewN | apply Kd.V_drew)); exact Kd.V_mono (Kd.V_far (p := ⟨e2, ((ji28) : Int).toNat, none⟩) (Kd.V_mono b9.out (fun k_ hk => (⟨hk, fun e_ => hk.2 (by rw [e_]; rfl)⟩ : _ ∧ k_ ≠ e2))) (fun _ hk => hk.2) (.int .u32 (Go.bits .or .u32 (rd a2 (ji28)) (ji33)))) (fun _ hk => ⟨hk.1.1, hk.1.2⟩)⟩, ⟨aB⟩⟩
              ·
               rw [if_neg g3] at H
               exact absurd H (by simp)
             ·
              rw [if_neg i3] at H
              exact absurd H (by simp)
            ·
             rw [if_neg i2] at H
             exact absurd H (by simp)
           ·
            rw [if_neg e5] at H
            have g2 : decide (0 ≤ b5) = false := decide_eq_false e5
            clear e5
            have H' := mk0 H
            clear H
            obtain ⟨j5, j6, j7⟩ := Kd.V_slice a4.out
            subst j7
            go_wp2_with (first | (refine gc 36 ?_; refine gl 37 Tryz.func36 #[.slice j5 a6.length j6, .slice A1 l1.length c1] ?_; (with_reducible refine (checker_natural_compare.calls kj14 _ _ a6 _ _ l1 b5 _ ?side1 ?side2 ?side3 ?side4 A25.out).mono ?_); (case side1 => exact pC ((Kd.V_reads' a4.out).2.2)); (case side2 => exact (Kd.V_reads' a4.out).2.1); (case side3 => exact pC (Kd.C_below HR1.out HB.out)); (case side4 => exact i4.out); rintro e w' ⟨rfl, ⟨nd, rfl⟩⟩; refine ⟨_, rfl, ?_⟩))
            go_roundg kj14
            case measure => have := HK1.out; have := HJ14.out; omega
            case rel => exact ⟨(a2), (a6), (wrap64 (a3 - 1)), (by first | rfl | simp [*]), H', ⟨by have := HK1.out; have := HJ14.out; omega⟩, ⟨pR a5.out⟩, ⟨pV a4.out⟩, ⟨aB⟩⟩
        ·
         rw [if_neg e4] at H
         exact absurd H (by simp)
       ·
        rw [if_neg f5] at H
        exact absurd H (by simp)
      ·
       rw [if_neg f3] at H
       exact absurd H (by simp)
     ·
      rw [if_neg c7] at H
      have f2 : decide (0 ≤ a3) = false := decide_eq_false c7
      clear c7
      obtain ⟨d3, A41, H⟩ := bS H
      obtain rfl := Option.some.inj H
      obtain ⟨g8, g9, j8⟩ := Kd.R_slice a5.out
      subst j8
      go_wp2_with (first | (refine gc 65 ?_; refine gl 53 Tryz.func65 #[.slice g8 a2.length g9] ?_; (with_reducible refine (checker_natural_trim.calls k1 (fun k_ => some k_ = (.slice g8 a2.length g9 : Value).ownBlock) _ _ a2 d3 _ ?side1 A41.out).mono ?_); (case side1 => exact Kd.R_V (Kd.R_tight rfl (a5.out))); rintro e m5 ⟨l9, rfl, c6, hb⟩; refine ⟨_, rfl, ?_⟩; replace a4 := uV a4 hb;have i1 := lV (ok' := fun k_ => (w.heap.size ≤ k_)) c6;replace a5 := uR a5 hb;replace HB := uW hb; (try clear hb); (try clear c6)))
      go_ret
      exact ⟨_, by first | rfl | (simp [*] <;> rfl), pV i1.out, aB⟩
  ·
   rw [if_neg c4] at H
   exact absurd H (by simp)
 ·
  rw [if_neg c3] at H
  exact absurd H (by simp)
def checker_lowest.f (k : Nat) (a0 : Bool) (l1 : List Int) (l2 : List Int) : Option (Bool × List Int × List Int) := if (l1.length : Int) = 0 then (some (false, ([] : List Int), (([1] : List Int)))) else ((checker_natural_gcd.f k l1 l2).bind fun a7 => ((checker_natural_compare.f k a7 (([1] : List Int))).bind fun b1 => (if b1 > 0 then ((checker_natural_over.f k l1 a7).bind fun b4 => ((checker_natural_over.f k l2 a7).bind fun b5 => (some (a0, b4, b5)))) else (some (a0, l1, l2)))))
theorem checker_lowest.mono : ∀ a0 a1 a2 k, LeO (checker_lowest.f k a0 a1 a2) (checker_lowest.f (k + 1) a0 a1 a2) := by
 intro a0 a1 a2 k
 unfold checker_lowest.f
 repeat' first | (with_reducible first | exact checker_natural_compare.mono .. | exact checker_natural_gcd.mono .. | exact checker_natural_over.mono .. | exact LeO.refl _ | exact LeO.none _ | refine LeO.ite ?_ ?_ | refine LeO.bind ?_ (fun _ => ?_))
set_option maxHeartbeats 8000000 in
set_option maxRecDepth 100000 in
theorem checker_lowest.calls (k : Nat) (a0 : Bool) (b2 : Nat → Prop) (A1 : Option Addr) (c1 : Nat) (l1 : List Int) (b3 : Nat → Prop) (A2 : Option Addr) (c2 : Nat) (l2 : List Int) (r1 : Bool) (r2 : List Int) (r3 : List Int) (w : World) (hs1 : Kd.V (Kd.int .u32) 107 w w.heap.size (fun k_ => b2 k_) (.slice A1 l1.length c1) l1) (hs2 : Kd.V (Kd.int .u32) 107 w w.heap.size (fun k_ => b3 k_) (.slice A2 l2.length c2) l2) (h : checker_lowest.f k a0 l1 l2 = some (r1, r2, r3)) :
  Calls Tryz.prog 44 #[.bool a0, .slice A1 l1.length c1, .slice A2 l2.length c2] w fun e w' => ∃ v1_ v2_ : Value, e = .returned (.agg #[.bool r1, v1_, v2_]) ∧ Kd.V (Kd.int .u32) 107 w' w.heap.size (fun k_ => ((b2 k_ ∨ b3 k_) ∨ w.heap.size ≤ k_)) v1_ r2 ∧ Kd.V (Kd.int .u32) 107 w' w.heap.size (fun k_ => ((b2 k_ ∨ b3 k_) ∨ w.heap.size ≤ k_)) v2_ r3 ∧ Below w.heap.size w w' := by
 have hu61 := Tryz.underlying61
 have a9 := mk0 (show Kd.V (Kd.int .u32) 107 w w.heap.size (fun k_ => ((b2 k_ ∨ b3 k_) ∨ w.heap.size ≤ k_)) (.slice A1 l1.length c1) l1 from Kd.V_mono hs1 (fun k_ hk => .inl (.inl hk)))
 have b0 := mk0 (show Kd.V (Kd.int .u32) 107 w w.heap.size (fun k_ => ((b2 k_ ∨ b3 k_) ∨ w.heap.size ≤ k_)) (.slice A2 l2.length c2) l2 from Kd.V_mono hs2 (fun k_ hk => .inl (.inr hk)))
 have HB := mk0 (Below.refl w.heap.size w)
 have H : (if (l1.length : Int) = 0 then (some (false, ([] : List Int), (([1] : List Int)))) else ((checker_natural_gcd.f k l1 l2).bind fun a7 => ((checker_natural_compare.f k a7 (([1] : List Int))).bind fun b1 => (if b1 > 0 then ((checker_natural_over.f k l1 a7).bind fun b4 => ((checker_natural_over.f k l2 a7).bind fun b5 => (some (a0, b4, b5)))) else (some (a0, l1, l2)))))) = some (r1, r2, r3) := h
 clear h
 by_cases c4 : (l1.length : Int) = 0
 ·
  rw [if_pos c4] at H
  have g2 : ((l1.length : Int) == 0) = true := beq_iff_eq.mpr c4
  have g3 : ((l1.length : Int) != 0) = false := bne_eq_false_iff_eq.mpr c4
  clear c4
  obtain ⟨d7, hy337⟩ : ∃ y_ : List Int, y_ = (([1] : List Int)) := ⟨_, rfl⟩
  replace H : (some (false, ([] : List Int), d7)) = some (r1, r2, r3) := by first | (rw [hy337]; exact H) | (rw [hy337]; exact (Option.bind_some _ _).symm.trans H) | exact (Option.bind_some _ _).symm.trans H
  have Ny337 := mk0 hy337
  clear hy337
  simp only [Option.some.injEq, Prod.mk.injEq] at H
  obtain ⟨rfl, rfl, rfl⟩ := H
  go_enter Tryz.func44, Tryz.ntmps44
  go_wp2_with (first | (refine gd 6 ?_; refine box_event ?hg (N := 6) ?hd (cs := #[.bool false, .slice none 0 0, .slice none 0 0]) (t := 61) ?hr ?_; (case hd => rfl); (case hg => rfl); (case hr => exact aH); intro a4 hg w5 hbox hb; replace a9 := eV a9 hg hb;replace b0 := eV b0 hg hb;have a3 := mk0 (hbox);have d3 := uG hg;have d4 := uG hg;replace HB := uW hb; clear hb hbox hg) | (refine gd 11 ?_; refine Kd.R_lit (Kd.int .u32) _ 107 ?hg (N := 11) ?hd (xs := ([1] : List Int)) (inner := [.int .u32 1]) (ok := fun _ => True) (okp := fun _ => True) ?hr ?hp (fun _ hk => hk) trivial (Below.refl _ _) (Nat.le_refl _) (by simp) ?_; (case hd => rfl); (case hg => rfl); (case hr => exact aH); (case hp => exact (Reps.one (show Kd.M (Kd.int .u32) _ _ _ 1 [.int .u32 1] from rfl) (Reps.none _ _))); intro j6 w6 d9 hb hg_ hnew_; clear hg_ hnew_; rw [← Ny337.out] at d9; replace a9 := dV a9 (Kd.R_base d9) hb;replace b0 := dV b0 (Kd.R_base d9) hb;have d5 := mk0 (Kd.R_lower (Kd.R_newM (M := fun k_ => (w.heap.size ≤ k_)) d9 (below_size (aB)) (fun k_ h_ => h_)) (below_size (aB)));replace a3 := uB a3 hb;replace HB := uW hb; clear hb d9; obtain ⟨j4, j5, j7⟩ := Kd.R_slice d5.out; subst j7; have g4 : w6.cell? ⟨a4, 0, none⟩ = some (.bool false) := (blk_cell a3.out 0).trans rfl; have g5 : w6.cell? ⟨a4, 1, none⟩ = some (.slice none 0 0) := (blk_cell a3.out 1).trans rfl; have g6 : w6.cell? ⟨a4, 2, none⟩ = some (.slice none 0 0) := (blk_cell a3.out 2).trans rfl; have g7 := blk_frozen a3.out 0; have g8 := blk_frozen a3.out 1; have g9 := blk_frozen a3.out 2))
  refine bodyPost_ret (results_cell_row rfl _ _ a4 61 #[.bool false, .slice none 0 0, .slice j4 d7.length j5] (0, 0) _ rfl sB Tryz.underlying61 rfl (by kernel_rfl)) rfl ?_
  exact ⟨_, _, by first | rfl | (simp [*] <;> rfl), Kd.V_nil _ _ _ _ _, Kd.V_mono (Kd.R_V (by (with_reducible repeat (first | apply Kd.R_alloc | apply Kd.R_drewN | apply Kd.R_drew)); exact Kd.R_mono (Kd.R_far (p := ⟨a4, 2, none⟩) (Kd.R_far (p := ⟨a4, 1, none⟩) (Kd.R_far (p := ⟨a4, 0, none⟩) (Kd.R_types d5.out a3.out (by decide)) (fun _ hk => hk.2) (.bool false)) (fun _ hk => hk.2) (.slice none 0 0)) (fun _ hk => hk.2) (.slice j4 d7.length j5)) (fun _ hk => (by first | exact hk.1.1 | (have hq_ := hk; revert hq_; simp only [and_imp]; intros; assumption))))) (fun k_ hk => by first | exact ⟨(.inr (hk.1)), hk.2⟩ | exact (.inr (hk))), aB⟩
 ·
  rw [if_neg c4] at H
  have g2 : ((l1.length : Int) == 0) = false := beq_eq_false_iff_ne.mpr c4
  have g3 : ((l1.length : Int) != 0) = true := bne_iff_ne.mpr c4
  have j8 : ¬ (l1 = []) := fun h_ => c4 (by rw [h_]; rfl)
  obtain ⟨a7, A10, H⟩ := bS H
  obtain ⟨a8, hy343⟩ : ∃ y_ : List Int, y_ = (([1] : List Int)) := ⟨_, rfl⟩
  replace H : ((checker_natural_compare.f k a7 a8).bind fun b1 => (if b1 > 0 then ((checker_natural_over.f k l1 a7).bind fun b4 => ((checker_natural_over.f k l2 a7).bind fun b5 => (some (a0, b4, b5)))) else (some (a0, l1, l2)))) = some (r1, r2, r3) := by first | (rw [hy343]; exact H) | (rw [hy343]; exact (Option.bind_some _ _).symm.trans H) | exact (Option.bind_some _ _).symm.trans H
  have Ny343 := mk0 hy343
  clear hy343
  obtain ⟨b1, A11, H⟩ := bS H
  by_cases d8 : b1 > 0
  ·
   rw [if_pos d8] at H
   have e1 : decide (0 < b1) = true := decide_eq_true d8
   clear d8
   obtain ⟨b4, A13, H⟩ := bS H
   obtain ⟨b5, A14, H⟩ := bS H
   simp only [Option.some.injEq, Prod.mk.injEq] at H
   obtain ⟨rfl, rfl, rfl⟩ := H
   go_enter Tryz.func44, Tryz.ntmps44
   go_wp2_with (first | (refine gd 6 ?_; refine box_event ?hg (N := 6) ?hd (cs := #[.bool false, .slice none 0 0, .slice none 0 0]) (t := 61) ?hr ?_; (case hd => rfl); (case hg => rfl); (case hr => exact aH); intro a4 hg k1 hbox hb; replace a9 := eV a9 hg hb;replace b0 := eV b0 hg hb;have a3 := mk0 (hbox);have d3 := uG hg;have d4 := uG hg;replace HB := uW hb; clear hb hbox hg) | (refine gc 37 ?_; refine gl 15 Tryz.func37 #[.slice A1 l1.length c1, .slice A2 l2.length c2] ?_; (with_reducible refine (checker_natural_gcd.calls k (fun k_ => (((b2 k_ ∨ b3 k_) ∨ w.heap.size ≤ k_) ∧ k_ ≠ a4)) _ _ l1 (fun k_ => (((b2 k_ ∨ b3 k_) ∨ w.heap.size ≤ k_) ∧ k_ ≠ a4)) _ _ l2 a7 _ ?side1 ?side2 A10.out).mono ?_); (case side1 => exact Kd.V_mono (Go.Proofs.YtbgmfgndldnmcaaGreatDoorMyWords.V_base (a9.out)) (fun k_ hk => by first | exact hk | (simp only [hk, ne_eq, not_false_eq_true, and_self]; done))); (case side2 => exact Kd.V_mono (Go.Proofs.YtbgmfgndldnmcaaGreatDoorMyWords.V_base (b0.out)) (fun k_ hk => by first | exact hk | (simp only [hk, ne_eq, not_false_eq_true, and_self]; done))); rintro e k2 ⟨i1, rfl, c7, hb⟩; refine ⟨_, rfl, ?_⟩; replace a9 := uV a9 hb;replace b0 := uV b0 hb;have a5 := lV (ok' := fun k_ => ((b2 k_ ∨ b3 k_) ∨ w.heap.size ≤ k_) ∧ k_ ≠ a4) c7;replace a3 := uB a3 hb;replace HB := uW hb; (try clear hb); (try clear c7)) | (refine gd 17 ?_; refine Kd.R_lit (Kd.int .u32) _ 107 ?hg (N := 17) ?hd (xs := ([1] : List Int)) (inner := [.int .u32 1]) (ok := fun _ => True) (okp := fun _ => True) ?hr ?hp (fun _ hk => hk) trivial (Below.refl _ _) (Nat.le_refl _) (by simp) ?_; (case hd => rfl); (case hg => rfl); (case hr => exact aH); (case hp => exact (Reps.one (show Kd.M (Kd.int .u32) _ _ _ 1 [.int .u32 1] from rfl) (Reps.none _ _))); intro i2 d0 b9 hb hg_ hnew_; clear hg_ hnew_; rw [← Ny343.out] at b9; replace a9 := dV a9 (Kd.R_base b9) hb;replace b0 := dV b0 (Kd.R_base b9) hb;replace a5 := dV a5 (Kd.R_base b9) hb;have a6 := mk0 (Kd.R_lower (Kd.R_newM (M := fun k_ => (w.heap.size ≤ k_)) b9 (below_size (aB)) (fun k_ h_ => h_)) (below_size (aB)));replace a3 := uB a3 hb;replace HB := uW hb; clear hb b9; obtain ⟨d1, d2, i3⟩ := Kd.V_slice a5.out; subst i3; obtain ⟨b6, b7, i4⟩ := Kd.R_slice a6.out; subst i4) | (refine gc 36 ?_; refine gl 18 Tryz.func36 #[.slice d1 a7.length d2, .slice b6 a8.length b7] ?_; (with_reducible refine (checker_natural_compare.calls k _ _ a7 _ _ a8 b1 _ ?side1 ?side2 ?side3 ?side4 A11.out).mono ?_); (case side1 => exact pC ((Kd.V_reads' a5.out).2.2)); (case side2 => exact (Kd.V_reads' a5.out).2.1); (case side3 => exact pC ((Kd.R_reads' a6.out).2.2)); (case side4 => exact (Kd.R_reads' a6.out).2.1); rintro e w' ⟨rfl, ⟨nd, rfl⟩⟩; refine ⟨_, rfl, ?_⟩; (try (rw [drewN_self d0]; generalize hq_ : World.drewN d0 _ = d0; have e2 : Aside0 (Kd.V (Kd.int .u32) 107 d0 w.heap.size (fun k_ => ((b2 k_ ∨ b3 k_) ∨ w.heap.size ≤ k_) ∧ some k_ ≠ (.slice b6 a8.length b7 : Value).ownBlock ∧ k_ ≠ a4) (.slice A1 l1.length c1) l1) := ⟨by rw [← hq_]; exact (sV a9.out)⟩; have e3 : Aside0 (Kd.V (Kd.int .u32) 107 d0 w.heap.size (fun k_ => ((b2 k_ ∨ b3 k_) ∨ w.heap.size ≤ k_) ∧ some k_ ≠ (.slice b6 a8.length b7 : Value).ownBlock ∧ k_ ≠ a4) (.slice A2 l2.length c2) l2) := ⟨by rw [← hq_]; exact (sV b0.out)⟩; have e4 : Aside0 (Kd.V (Kd.int .u32) 107 d0 w.heap.size (fun k_ => ((b2 k_ ∨ b3 k_) ∨ w.heap.size ≤ k_) ∧ some k_ ≠ (.slice b6 a8.length b7 : Value).ownBlock ∧ k_ ≠ a4) (.slice d1 a7.length d2) a7) := ⟨by rw [← hq_]; exact (sV a5.out)⟩; have e5 : Aside0 (Kd.R (Kd.int .u32) 107 d0 w.heap.size (fun k_ => (w.heap.size ≤ k_)) (.slice b6 a8.length b7) a8) := ⟨by rw [← hq_]; exact (sR a6.out)⟩; have e6 : Aside0 (d0.heap[a4]? = some (.cells #[.bool false, .slice none 0 0, .slice none 0 0] 61 (0, 0))) := ⟨by rw [← hq_]; exact (pB a3.out)⟩; have e7 : Aside0 (Below w.heap.size w d0) := ⟨by rw [← hq_]; exact (aB)⟩; clear a9 b0 a5 a6 a3 HB hq_; have a9 := e2; have b0 := e3; have a5 := e4; have a6 := e5; have a3 := e6; have HB := e7; clear e2 e3 e4 e5 e6 e7))) | (refine gc 71 ?_; refine gl 22 Tryz.func71 #[.slice A1 l1.length c1, .slice d1 a7.length d2] ?_; (with_reducible refine (checker_natural_over.calls k _ _ l1 _ _ a7 b4 _ ?side1 ?side2 ?side3 ?side4 A13.out).mono ?_); (case side1 => exact pC ((Kd.V_reads' a9.out).2.2)); (case side2 => exact (Kd.V_reads' a9.out).2.1); (case side3 => exact pC ((Kd.V_reads' a5.out).2.2)); (case side4 => exact (Kd.V_reads' a5.out).2.1); rintro e k3 ⟨j9, rfl, c7, hb⟩; refine ⟨_, rfl, ?_⟩; replace a9 := uV a9 hb;replace b0 := uV b0 hb;replace a5 := uV a5 hb;have b8 := lV (ok' := fun k_ => ((b2 k_ ∨ b3 k_) ∨ w.heap.size ≤ k_) ∧ some k_ ≠ (.slice b6 a8.length b7 : Value).ownBlock ∧ k_ ≠ a4) c7;replace a6 := uR a6 hb;replace a3 := uB a3 hb;replace HB := uW hb; (try clear hb); (try clear c7)) | (refine gc 71 ?_; refine gl 25 Tryz.func71 #[.slice A2 l2.length c2, .slice d1 a7.length d2] ?_; (with_reducible refine (checker_natural_over.calls k _ _ l2 _ _ a7 b5 _ ?side1 ?side2 ?side3 ?side4 A14.out).mono ?_); (case side1 => exact pC ((Kd.V_reads' b0.out).2.2)); (case side2 => exact (Kd.V_reads' b0.out).2.1); (case side3 => exact pC ((Kd.V_reads' a5.out).2.2)); (case side4 => exact (Kd.V_reads' a5.out).2.1); rintro e i5 ⟨k0, rfl, c7, hb⟩; refine ⟨_, rfl, ?_⟩; replace a9 := uV a9 hb;replace b0 := uV b0 hb;replace a5 := uV a5 hb;replace b8 := uV b8 hb;have d6 := lV (ok' := fun k_ => ((b2 k_ ∨ b3 k_) ∨ w.heap.size ≤ k_) ∧ some k_ ≠ (.slice b6 a8.length b7 : Value).ownBlock ∧ k_ ≠ a4) c7;replace a6 := uR a6 hb;replace a3 := uB a3 hb;replace HB := uW hb; (try clear hb); (try clear c7); obtain ⟨i6, i7, i8⟩ := Kd.V_slice d6.out; subst i8; obtain ⟨i9, j0, j1⟩ := Kd.V_slice b8.out; subst j1; have f0 : i5.cell? ⟨a4, 0, none⟩ = some (.bool false) := (blk_cell a3.out 0).trans rfl; have f1 : i5.cell? ⟨a4, 1, none⟩ = some (.slice none 0 0) := (blk_cell a3.out 1).trans rfl; have f2 : i5.cell? ⟨a4, 2, none⟩ = some (.slice none 0 0) := (blk_cell a3.out 2).trans rfl; have f3 := blk_frozen a3.out 0; have f4 := blk_frozen a3.out 1; have f5 := blk_frozen a3.out 2))
   refine bodyPost_ret (results_cell_row rfl _ _ a4 61 #[.bool a0, .slice i9 b4.length j0, .slice i6 b5.length i7] (0, 0) _ rfl sB Tryz.underlying61 rfl (by kernel_rfl)) rfl ?_
   exact ⟨_, _, by first | rfl | (simp [*] <;> rfl), sV b8.out, sV d6.out, aB⟩
  ·
   rw [if_neg d8] at H
   have e1 : decide (0 < b1) = false := decide_eq_false d8
   clear d8
   simp only [Option.some.injEq, Prod.mk.injEq] at H
   obtain ⟨rfl, rfl, rfl⟩ := H
   go_enter Tryz.func44, Tryz.ntmps44
   go_wp2_with (first | (refine gd 6 ?_; refine box_event ?hg (N := 6) ?hd (cs := #[.bool false, .slice none 0 0, .slice none 0 0]) (t := 61) ?hr ?_; (case hd => rfl); (case hg => rfl); (case hr => exact aH); intro a4 hg k4 hbox hb; replace a9 := eV a9 hg hb;replace b0 := eV b0 hg hb;have a3 := mk0 (hbox);have d3 := uG hg;have d4 := uG hg;replace HB := uW hb; clear hb hbox hg) | (refine gc 37 ?_; refine gl 15 Tryz.func37 #[.slice A1 l1.length c1, .slice A2 l2.length c2] ?_; (with_reducible refine (checker_natural_gcd.calls k (fun k_ => (((b2 k_ ∨ b3 k_) ∨ w.heap.size ≤ k_) ∧ k_ ≠ a4)) _ _ l1 (fun k_ => (((b2 k_ ∨ b3 k_) ∨ w.heap.size ≤ k_) ∧ k_ ≠ a4)) _ _ l2 a7 _ ?side1 ?side2 A10.out).mono ?_); (case side1 => exact Kd.V_mono (Go.Proofs.YtbgmfgndldnmcaaGreatDoorMyWords.V_base (a9.out)) (fun k_ hk => by first | exact hk | (simp only [hk, ne_eq, not_false_eq_true, and_self]; done))); (case side2 => exact Kd.V_mono (Go.Proofs.YtbgmfgndldnmcaaGreatDoorMyWords.V_base (b0.out)) (fun k_ hk => by first | exact hk | (simp only [hk, ne_eq, not_false_eq_true, and_self]; done))); rintro e k5 ⟨i1, rfl, c7, hb⟩; refine ⟨_, rfl, ?_⟩; replace a9 := uV a9 hb;replace b0 := uV b0 hb;have a5 := lV (ok' := fun k_ => ((b2 k_ ∨ b3 k_) ∨ w.heap.size ≤ k_) ∧ k_ ≠ a4) c7;replace a3 := uB a3 hb;replace HB := uW hb; (try clear hb); (try clear c7)) | (refine gd 17 ?_; refine Kd.R_lit (Kd.int .u32) _ 107 ?hg (N := 17) ?hd (xs := ([1] : List Int)) (inner := [.int .u32 1]) (ok := fun _ => True) (okp := fun _ => True) ?hr ?hp (fun _ hk => hk) trivial (Below.refl _ _) (Nat.le_refl _) (by simp) ?_; (case hd => rfl); (case hg => rfl); (case hr => exact aH); (case hp => exact (Reps.one (show Kd.M (Kd.int .u32) _ _ _ 1 [.int .u32 1] from rfl) (Reps.none _ _))); intro i2 c6 c5 hb hg_ hnew_; clear hg_ hnew_; rw [← Ny343.out] at c5; replace a9 := dV a9 (Kd.R_base c5) hb;replace b0 := dV b0 (Kd.R_base c5) hb;replace a5 := dV a5 (Kd.R_base c5) hb;have a6 := mk0 (Kd.R_lower (Kd.R_newM (M := fun k_ => (w.heap.size ≤ k_)) c5 (below_size (aB)) (fun k_ h_ => h_)) (below_size (aB)));replace a3 := uB a3 hb;replace HB := uW hb; clear hb c5; obtain ⟨e8, e9, j2⟩ := Kd.V_slice a5.out; subst j2; obtain ⟨c8, c9, j3⟩ := Kd.R_slice a6.out; subst j3) | (refine gc 36 ?_; refine gl 18 Tryz.func36 #[.slice e8 a7.length e9, .slice c8 a8.length c9] ?_; (with_reducible refine (checker_natural_compare.calls k _ _ a7 _ _ a8 b1 _ ?side1 ?side2 ?side3 ?side4 A11.out).mono ?_); (case side1 => exact pC ((Kd.V_reads' a5.out).2.2)); (case side2 => exact (Kd.V_reads' a5.out).2.1); (case side3 => exact pC ((Kd.R_reads' a6.out).2.2)); (case side4 => exact (Kd.R_reads' a6.out).2.1); rintro e w' ⟨rfl, ⟨nd, rfl⟩⟩; refine ⟨_, rfl, ?_⟩; (try (rw [drewN_self c6]; generalize hq_ : World.drewN c6 _ = c6; have e2 : Aside0 (Kd.V (Kd.int .u32) 107 c6 w.heap.size (fun k_ => ((b2 k_ ∨ b3 k_) ∨ w.heap.size ≤ k_) ∧ some k_ ≠ (.slice c8 a8.length c9 : Value).ownBlock ∧ k_ ≠ a4) (.slice A1 l1.length c1) l1) := ⟨by rw [← hq_]; exact (sV a9.out)⟩; have e3 : Aside0 (Kd.V (Kd.int .u32) 107 c6 w.heap.size (fun k_ => ((b2 k_ ∨ b3 k_) ∨ w.heap.size ≤ k_) ∧ some k_ ≠ (.slice c8 a8.length c9 : Value).ownBlock ∧ k_ ≠ a4) (.slice A2 l2.length c2) l2) := ⟨by rw [← hq_]; exact (sV b0.out)⟩; have e4 : Aside0 (Kd.V (Kd.int .u32) 107 c6 w.heap.size (fun k_ => ((b2 k_ ∨ b3 k_) ∨ w.heap.size ≤ k_) ∧ some k_ ≠ (.slice c8 a8.length c9 : Value).ownBlock ∧ k_ ≠ a4) (.slice e8 a7.length e9) a7) := ⟨by rw [← hq_]; exact (sV a5.out)⟩; have e5 : Aside0 (Kd.R (Kd.int .u32) 107 c6 w.heap.size (fun k_ => (w.heap.size ≤ k_)) (.slice c8 a8.length c9) a8) := ⟨by rw [← hq_]; exact (sR a6.out)⟩; have e6 : Aside0 (c6.heap[a4]? = some (.cells #[.bool false, .slice none 0 0, .slice none 0 0] 61 (0, 0))) := ⟨by rw [← hq_]; exact (pB a3.out)⟩; have e7 : Aside0 (Below w.heap.size w c6) := ⟨by rw [← hq_]; exact (aB)⟩; clear a9 b0 a5 a6 a3 HB hq_; have a9 := e2; have b0 := e3; have a5 := e4; have a6 := e5; have a3 := e6; have HB := e7; clear e2 e3 e4 e5 e6 e7)); have f6 : c6.cell? ⟨a4, 0, none⟩ = some (.bool false) := (blk_cell a3.out 0).trans rfl; have f7 : c6.cell? ⟨a4, 1, none⟩ = some (.slice none 0 0) := (blk_cell a3.out 1).trans rfl; have f8 : c6.cell? ⟨a4, 2, none⟩ = some (.slice none 0 0) := (blk_cell a3.out 2).trans rfl; have f9 := blk_frozen a3.out 0; have g0 := blk_frozen a3.out 1; have g1 := blk_frozen a3.out 2))
   refine bodyPost_ret (results_cell_row rfl _ _ a4 61 #[.bool a0, .slice A1 l1.length c1, .slice A2 l2.length c2] (0, 0) _ rfl sB Tryz.underlying61 rfl (by kernel_rfl)) rfl ?_
   exact ⟨_, _, by first | rfl | (simp [*] <;> rfl), sV a9.out, sV b0.out, aB⟩
def checker_fraction_add.f (k : Nat) (a0_0 : Bool) (c7 : List Int) (c4 : List Int) (a1_0 : Bool) (d0 : List Int) (c5 : List Int) : Option (Bool × List Int × List Int) := (checker_natural_mul.f k c7 c5).bind fun c8 => ((checker_natural_mul.f k d0 c4).bind fun c9 => ((checker_natural_mul.f k c4 c5).bind fun d8 => (if (a0_0 == a1_0) = true then ((checker_natural_add.f k c8 c9).bind fun f2 => ((checker_lowest.f k a0_0 f2 d8).bind fun e4 => (some (e4.1, e4.2.1, e4.2.2)))) else ((checker_natural_compare.f k c8 c9).bind fun f1 => (if f1 ≥ 0 then ((checker_natural_sub.f k c8 c9).bind fun f3 => ((checker_lowest.f k a0_0 f3 d8).bind fun e5 => (some (e5.1, e5.2.1, e5.2.2)))) else ((checker_natural_sub.f k c9 c8).bind fun f4 => ((checker_lowest.f k a1_0 f4 d8).bind fun e6 => (some (e6.1, e6.2.1, e6.2.2)))))))))
theorem checker_fraction_add.mono : ∀ a0 a1 a2 a3 a4 a5 k, LeO (checker_fraction_add.f k a0 a1 a2 a3 a4 a5) (checker_fraction_add.f (k + 1) a0 a1 a2 a3 a4 a5) := by
 intro a0 a1 a2 a3 a4 a5 k
 unfold checker_fraction_add.f
 repeat' first | (with_reducible first | exact checker_lowest.mono .. | exact checker_natural_add.mono .. | exact checker_natural_compare.mono .. | exact checker_natural_mul.mono .. | exact checker_natural_sub.mono .. | exact LeO.refl _ | exact LeO.none _ | refine LeO.ite ?_ ?_ | refine LeO.bind ?_ (fun _ => ?_))
def checker_fraction_add.T1 : Bool × List (List Nat × List Nat) := (true, [([], []), ([0], [0]), ([], []), ([2], [2]), ([1, 3], [1, 3]), ([], []), ([5], [5]), ([], []), ([7], [7]), ([6, 8, 4], [6, 8]), ([], []), ([10], [10]), ([], []), ([12], [12]), ([11, 13, 9], [11, 13]), ([4, 14, 0, 1, 2, 3, 4], [4]), ([9, 15, 0, 1, 2, 3, 4, 5, 6, 7, 8, 9, 15], [9]), ([14, 16, 0, 1, 2, 3, 4, 5, 6, 7, 8, 9, 10, 11, 12, 13, 14, 15, 16], [14])])
def checker_fraction_add.B1 : List Nat := [0, 1, 0, 4, 15, 0, 32, 0, 128, 511, 0, 1024, 0, 4096, 16383, 32767, 65535, 131071]
theorem checker_fraction_add.tab1 : rtab .any (opsOf Tryz.f23 1) = checker_fraction_add.T1 := by kernel_rfl
theorem checker_fraction_add.bits1 : waitsOk checker_fraction_add.T1.2 checker_fraction_add.B1 = true := by kernel_rfl
def checker_fraction_add.T3 : Bool × List (List Nat × List Nat) := (true, [([], []), ([0], [0]), ([], []), ([], []), ([2, 3], [2, 3]), ([], []), ([1, 4, 5, 4], [1, 4, 5]), ([6, 6, 0, 1, 2, 3, 4, 5, 6], [6])])
def checker_fraction_add.B3 : List Nat := [0, 1, 0, 0, 12, 0, 63, 127]
theorem checker_fraction_add.tab3 : rtab .any (opsOf Tryz.f23 3) = checker_fraction_add.T3 := by kernel_rfl
theorem checker_fraction_add.bits3 : waitsOk checker_fraction_add.T3.2 checker_fraction_add.B3 = true := by kernel_rfl
def checker_fraction_add.T5 : Bool × List (List Nat × List Nat) := (true, [([], []), ([0], [0]), ([], []), ([], []), ([2, 3], [2, 3]), ([], []), ([1, 4, 5, 4], [1, 4, 5]), ([6, 6, 0, 1, 2, 3, 4, 5, 6], [6])])
def checker_fraction_add.B5 : List Nat := [0, 1, 0, 0, 12, 0, 63, 127]
theorem checker_fraction_add.tab5 : rtab .any (opsOf Tryz.f23 5) = checker_fraction_add.T5 := by kernel_rfl
theorem checker_fraction_add.bits5 : waitsOk checker_fraction_add.T5.2 checker_fraction_add.B5 = true := by kernel_rfl
def checker_fraction_add.T6 : Bool × List (List Nat × List Nat) := (true, [([], []), ([0], [0]), ([], []), ([], []), ([2, 3], [2, 3]), ([], []), ([1, 4, 5, 4], [1, 4, 5]), ([6, 6, 0, 1, 2, 3, 4, 5, 6], [6])])
def checker_fraction_add.B6 : List Nat := [0, 1, 0, 0, 12, 0, 63, 127]
theorem checker_fraction_add.tab6 : rtab .any (opsOf Tryz.f23 6) = checker_fraction_add.T6 := by kernel_rfl
theorem checker_fraction_add.bits6 : waitsOk checker_fraction_add.T6.2 checker_fraction_add.B6 = true := by kernel_rfl
set_option maxHeartbeats 8000000 in
set_option maxRecDepth 100000 in
theorem checker_fraction_add.calls (k : Nat) (a0_0 : Bool) (d9 : Option Addr) (e1 : Nat) (c7 : List Int) (d2 : Option Addr) (d3 : Nat) (c4 : List Int) (a1_0 : Bool) (e2 : Option Addr) (e3 : Nat) (d0 : List Int) (d4 : Option Addr) (d5 : Nat) (c5 : List Int) (r1 : Bool) (r2 : List Int) (r3 : List Int) (w : World) (g5 : Kd.C (Kd.int .u32) w d9 c7.length c7) (g6 : c7.length ≤ e1) (g7 : Kd.C (Kd.int .u32) w d2 c4.length c4) (g8 : c4.length ≤ d3) (g9 : Kd.C (Kd.int .u32) w e2 d0.length d0) (i1 : d0.length ≤ e3) (i2 : Kd.C (Kd.int .u32) w d4 c5.length c5) (i3 : c5.length ≤ d5) (h : checker_fraction_add.f k a0_0 c7 c4 a1_0 d0 c5 = some (r1, r2, r3)) :
  Calls Tryz.prog 23 #[.agg #[.bool a0_0, .slice d9 c7.length e1, .slice d2 c4.length d3], .agg #[.bool a1_0, .slice e2 d0.length e3, .slice d4 c5.length d5]] w fun e w' => ∃ v1_ v2_ : Value, e = .returned (.agg #[.bool r1, v1_, v2_]) ∧ Kd.V (Kd.int .u32) 107 w' w.heap.size (fun k_ => (w.heap.size ≤ k_)) v1_ r2 ∧ Kd.V (Kd.int .u32) 107 w' w.heap.size (fun k_ => (w.heap.size ≤ k_)) v2_ r3 ∧ Below w.heap.size w w' := by
 have hu61 := Tryz.underlying61
 have g0 := mk0 g5
 have g1 := mk0 g6
 clear g5 g6
 have e7 := mk0 g7
 have e8 := mk0 g8
 clear g7 g8
 have g2 := mk0 g9
 have g3 := mk0 i1
 clear g9 i1
 have e9 := mk0 i2
 have f0 := mk0 i3
 clear i2 i3
 have HB := mk0 (Below.refl w.heap.size w)
 have H : ((checker_natural_mul.f k c7 c5).bind fun c8 => ((checker_natural_mul.f k d0 c4).bind fun c9 => ((checker_natural_mul.f k c4 c5).bind fun d8 => (if (a0_0 == a1_0) = true then ((checker_natural_add.f k c8 c9).bind fun f2 => ((checker_lowest.f k a0_0 f2 d8).bind fun e4 => (some (e4.1, e4.2.1, e4.2.2)))) else ((checker_natural_compare.f k c8 c9).bind fun f1 => (if f1 ≥ 0 then ((checker_natural_sub.f k c8 c9).bind fun f3 => ((checker_lowest.f k a0_0 f3 d8).bind fun e5 => (some (e5.1, e5.2.1, e5.2.2)))) else ((checker_natural_sub.f k c9 c8).bind fun f4 => ((checker_lowest.f k a1_0 f4 d8).bind fun e6 => (some (e6.1, e6.2.1, e6.2.2)))))))))) = some (r1, r2, r3) := h
 clear h
 obtain ⟨c8, A3, H⟩ := bS H
 obtain ⟨c9, A4, H⟩ := bS H
 obtain ⟨d8, A5, H⟩ := bS H
 by_cases c6 : (a0_0 == a1_0) = true
 ·
  rw [if_pos c6] at H
  have s0 : (a0_0 == a1_0) = true := c6
  (try (have s5 : decide (a0_0 = a1_0) = true := by simpa using c6))
  (try (have s6 : (a0_0 == a1_0) = true := by simpa using c6))
  clear c6
  obtain ⟨f2, A7, H⟩ := bS H
  obtain ⟨⟨k6, k7, k8⟩, A8, H⟩ := bS H
  (try dsimp only at H)
  simp only [Option.some.injEq, Prod.mk.injEq] at H
  obtain ⟨rfl, rfl, rfl⟩ := H
  go_enter Tryz.func23, Tryz.ntmps23
  try go_wp2_with (first | (refine gd 2 ?_; refine box_event ?hg (N := 2) ?hd (cs := #[.bool a0_0, .slice d9 c7.length e1, .slice d2 c4.length d3]) (t := 61) ?hr ?_; (case hd => rfl); (case hg => rfl); (case hr => exact aH); intro b2 hg w9 hbox hb; have a6 := mk0 (hbox);have i4 := uG hg;have i5 := uG hg;replace HB := uW hb; clear hb hbox hg) | (refine gd 3 ?_; refine box_event ?hg (N := 3) ?hd (cs := #[.bool a1_0, .slice e2 d0.length e3, .slice d4 c5.length d5]) (t := 61) ?hr ?_; (case hd => rfl); (case hg => rfl); (case hr => exact aH); intro b4 hg A1 hbox hb; have a7 := mk0 (hbox);have i6 := uG hg;have i7 := uG hg;replace HB := uW hb;have d6 := uL a6 hg;have d7 := uM a6 hg;replace a6 := uB a6 hb; clear hb hbox hg) | (refine gd 4 ?_; refine box_event ?hg (N := 4) ?hd (cs := #[.bool false, .slice none 0 0, .slice none 0 0]) (t := 61) ?hr ?_; (case hd => rfl); (case hg => rfl); (case hr => exact aH); intro a9 hg y7 hbox hb; have b0 := mk0 (hbox);have i8 := uG hg;have i9 := uG hg;replace HB := uW hb;have a8 := uL a6 hg;have b8 := uM a6 hg;replace a6 := uB a6 hb;have b3 := uL a7 hg;have b9 := uM a7 hg;replace a7 := uB a7 hb; clear hb hbox hg))
  replace a6 := mk0 (blk_drew a6.out)
  replace a7 := mk0 (blk_drew a7.out)
  replace b0 := mk0 (blk_drew b0.out)
  replace HB := mk0 (below_drew1 HB.out)
  refine start_ (n := 18) (S := fun w' => w'.cell? ⟨b2, 0, none⟩ = some (.bool a0_0) ∧ w'.cell? ⟨b2, 1, none⟩ = some (.slice d9 c7.length e1) ∧ w'.cell? ⟨b2, 2, none⟩ = some (.slice d2 c4.length d3) ∧ w'.cell? ⟨b4, 0, none⟩ = some (.bool a1_0) ∧ w'.cell? ⟨b4, 1, none⟩ = some (.slice e2 d0.length e3) ∧ w'.cell? ⟨b4, 2, none⟩ = some (.slice d4 c5.length d5)) (ds := []) #[false, false, false, false, false, false, false, false, false, false, false, false, false, false, false, false, false, false] (by kernel_rfl) rfl rfl cS (fun b1 => ?_); refine with_tabW checker_fraction_add.tab1 checker_fraction_add.bits1 (fun HT_ HW_ => ?_)
  generalize y7.drew = A2 at a6 a7 b0 HB b1 ⊢
  refine pu 0 8 HT_ ?_
  refine pu 2 10 HT_ ?_
  refine pu 5 13 HT_ ?_
  refine pu 7 15 HT_ ?_
  refine pu 10 18 HT_ ?_
  refine pu 12 20 HT_ ?_
  refine tk 1 9 HT_ HW_ b1 ?_
  refine tk 3 11 HT_ HW_ b1 ?_
  refine tk 6 14 HT_ HW_ b1 ?_
  refine tk 8 16 HT_ HW_ b1 ?_
  refine tk 11 19 HT_ HW_ b1 ?_
  refine tk 13 21 HT_ HW_ b1 ?_
  refine oN 4 12 HT_ (fun K hK => ?_)
  refine gz Tryz.func43 #[.slice d9 c7.length e1, .slice d4 c5.length d5] ?_
  with_reducible refine (checker_natural_mul.calls k _ _ c7 _ _ c5 c8 _ ?side1 ?side2 ?side3 ?side4 A3.out).mono ?_
  (case side1 => exact pC (Kd.C_below g0.out HB.out))
  (case side2 => exact g1.out)
  (case side3 => exact pC (Kd.C_below e9.out HB.out))
  (case side4 => exact f0.out)
  rintro e A6 ⟨k9, rfl, d1, hb⟩
  refine ⟨_, rfl, ?_⟩
  have b5 := lV (ok' := fun k_ => (w.heap.size ≤ k_) ∧ k_ ≠ b2 ∧ k_ ≠ b4 ∧ k_ ≠ a9) d1
  replace a6 := uB a6 hb
  replace a7 := uB a7 hb
  replace b0 := uB b0 hb
  replace HB := uW hb
  (try clear hb)
  (try clear hb2)
  (try clear hk)
  (try clear hi)
  (try clear d1)
  refine hK.out _ _ cS (fun b1 => ?_)
  clear hK K
  refine norm_ (a' := ?_) ?_ ?_
  rotate_left
  ·
   show Act.put _ (some 12) _ = _
   exact aP
  refine oN 9 17 HT_ (fun K hK => ?_)
  refine gz Tryz.func43 #[.slice e2 d0.length e3, .slice d2 c4.length d3] ?_
  with_reducible refine (checker_natural_mul.calls k _ _ d0 _ _ c4 c9 _ ?side1 ?side2 ?side3 ?side4 A4.out).mono ?_
  (case side1 => exact pC (Kd.C_below g2.out HB.out))
  (case side2 => exact g3.out)
  (case side3 => exact pC (Kd.C_below e7.out HB.out))
  (case side4 => exact e8.out)
  rintro e A9 ⟨l0, rfl, d1, hb⟩
  refine ⟨_, rfl, ?_⟩
  replace b5 := uV b5 hb
  have b6 := lV (ok' := fun k_ => (w.heap.size ≤ k_) ∧ k_ ≠ b2 ∧ k_ ≠ b4 ∧ k_ ≠ a9) d1
  replace a6 := uB a6 hb
  replace a7 := uB a7 hb
  replace b0 := uB b0 hb
  replace HB := uW hb
  (try clear hb)
  (try clear hb2)
  (try clear hk)
  (try clear hi)
  (try clear d1)
  refine hK.out _ _ cS (fun b1 => ?_)
  clear hK K
  refine norm_ (a' := ?_) ?_ ?_
  rotate_left
  ·
   show Act.put _ (some 17) _ = _
   exact aP
  refine oN 14 22 HT_ (fun K hK => ?_)
  refine gz Tryz.func43 #[.slice d2 c4.length d3, .slice d4 c5.length d5] ?_
  with_reducible refine (checker_natural_mul.calls k _ _ c4 _ _ c5 d8 _ ?side1 ?side2 ?side3 ?side4 A5.out).mono ?_
  (case side1 => exact pC (Kd.C_below e7.out HB.out))
  (case side2 => exact e8.out)
  (case side3 => exact pC (Kd.C_below e9.out HB.out))
  (case side4 => exact f0.out)
  rintro e l1 ⟨g4, rfl, d1, hb⟩
  refine ⟨_, rfl, ?_⟩
  replace b5 := uV b5 hb
  replace b6 := uV b6 hb
  have b7 := lV (ok' := fun k_ => (w.heap.size ≤ k_) ∧ k_ ≠ b2 ∧ k_ ≠ b4 ∧ k_ ≠ a9) d1
  replace a6 := uB a6 hb
  replace a7 := uB a7 hb
  replace b0 := uB b0 hb
  replace HB := uW hb
  (try clear hb)
  (try clear hb2)
  (try clear hk)
  (try clear hi)
  (try clear d1)
  refine hK.out _ _ cS (fun b1 => ?_)
  clear hK K
  refine norm_ (a' := ?_) ?_ ?_
  rotate_left
  ·
   show Act.put _ (some 22) _ = _
   exact aP
  refine pu 15 5 HT_ ?_
  refine pu 16 6 HT_ ?_
  refine pu 17 7 HT_ ?_
  refine done_ (done_of HT_.out (by kernel_rfl)) ?_
  have w8 := d6.out
  have x0 := d7.out
  have x1 := a8.out
  have x2 := b8.out
  have o1 := cZ a6 0
  have o2 : l1.cell? ⟨b2, 1, none⟩ = some (.slice d9 c7.length e1) := (blk_cell a6.out 1).trans rfl
  have o3 : l1.cell? ⟨b2, 2, none⟩ = some (.slice d2 c4.length d3) := (blk_cell a6.out 2).trans rfl
  have o4 := blk_frozen a6.out 0
  have o5 := blk_frozen a6.out 1
  have o6 := blk_frozen a6.out 2
  have x3 := b3.out
  have x4 := b9.out
  have o7 := cZ a7 0
  have o8 : l1.cell? ⟨b4, 1, none⟩ = some (.slice e2 d0.length e3) := (blk_cell a7.out 1).trans rfl
  have o9 : l1.cell? ⟨b4, 2, none⟩ = some (.slice d4 c5.length d5) := (blk_cell a7.out 2).trans rfl
  have p0 := blk_frozen a7.out 0
  have p1 := blk_frozen a7.out 1
  have p2 := blk_frozen a7.out 2
  try go_wp2
  replace b5 := mk0 (Kd.V_drew b5.out)
  replace b6 := mk0 (Kd.V_drew b6.out)
  replace b7 := mk0 (Kd.V_drew b7.out)
  replace a6 := mk0 (blk_drew a6.out)
  replace a7 := mk0 (blk_drew a7.out)
  replace b0 := mk0 (blk_drew b0.out)
  replace HB := mk0 (below_drew1 HB.out)
  obtain ⟨s7, s8, l2⟩ := Kd.V_slice b5.out
  (first | subst l2 | (injection l2 with f1_ f2_ f3_; have f4_ := f1_.symm; have f5_ := f3_.symm; clear f1_ f2_ f3_; subst f4_; subst f5_))
  obtain ⟨s9, t0, l3⟩ := Kd.V_slice b6.out
  (first | subst l3 | (injection l3 with f1_ f2_ f3_; have f4_ := f1_.symm; have f5_ := f3_.symm; clear f1_ f2_ f3_; subst f4_; subst f5_))
  refine start_ (n := 8) (S := fun w' => w'.cell? ⟨b2, 0, none⟩ = some (.bool a0_0) ∧ w'.cell? ⟨b2, 1, none⟩ = some (.slice d9 c7.length e1) ∧ w'.cell? ⟨b2, 2, none⟩ = some (.slice d2 c4.length d3)) (ds := []) #[false, false, false, false, false, false, false, false] (by kernel_rfl) rfl rfl cS (fun b1 => ?_); refine with_tabW checker_fraction_add.tab3 checker_fraction_add.bits3 (fun HT_ HW_ => ?_)
  generalize l1.drew = B0 at b5 b6 b7 a6 a7 b0 HB b1 ⊢
  refine pu 0 29 HT_ ?_
  refine pu 2 31 HT_ ?_
  refine pu 3 32 HT_ ?_
  refine pu 5 34 HT_ ?_
  refine tk 1 30 HT_ HW_ b1 ?_
  refine oN 4 33 HT_ (fun K hK => ?_)
  refine gz Tryz.func45 #[.slice s7 c8.length s8, .slice s9 c9.length t0] ?_
  with_reducible refine (checker_natural_add.calls k (fun k_ => ((w.heap.size ≤ k_) ∧ (k_ ≠ b2 ∧ (k_ ≠ b4 ∧ k_ ≠ a9)))) _ _ c8 (fun k_ => ((w.heap.size ≤ k_) ∧ (k_ ≠ b2 ∧ (k_ ≠ b4 ∧ k_ ≠ a9)))) _ _ c9 f2 _ ?side1 ?side2 A7.out).mono ?_
  (case side1 => exact Kd.V_mono (Go.Proofs.YtbgmfgndldnmcaaGreatDoorMyWords.V_base (b5.out)) (fun k_ hk => by first | exact hk | (simp only [hk, ne_eq, not_false_eq_true, and_self]; done)))
  (case side2 => exact Kd.V_mono (Go.Proofs.YtbgmfgndldnmcaaGreatDoorMyWords.V_base (b6.out)) (fun k_ hk => by first | exact hk | (simp only [hk, ne_eq, not_false_eq_true, and_self]; done)))
  rintro e B2 ⟨y8, rfl, d1, hb⟩
  refine ⟨_, rfl, ?_⟩
  replace b5 := uV b5 hb
  replace b6 := uV b6 hb
  replace b7 := uV b7 hb
  have f7 := lV (ok' := fun k_ => (w.heap.size ≤ k_) ∧ k_ ≠ b2 ∧ k_ ≠ b4 ∧ k_ ≠ a9) d1
  replace a6 := uB a6 hb
  replace a7 := uB a7 hb
  replace b0 := uB b0 hb
  replace HB := uW hb
  (try clear hb)
  (try clear hb2)
  (try clear hk)
  (try clear hi)
  (try clear d1)
  obtain ⟨t1, t2, l4⟩ := Kd.V_slice f7.out
  (first | subst l4 | (injection l4 with f1_ f2_ f3_; have f4_ := f1_.symm; have f5_ := f3_.symm; clear f1_ f2_ f3_; subst f4_; subst f5_))
  obtain ⟨t3, t4, l5⟩ := Kd.V_slice b7.out
  (first | subst l5 | (injection l5 with f1_ f2_ f3_; have f4_ := f1_.symm; have f5_ := f3_.symm; clear f1_ f2_ f3_; subst f4_; subst f5_))
  refine hK.out _ _ cS (fun b1 => ?_)
  clear hK K
  refine norm_ (a' := ?_) ?_ ?_
  rotate_left
  ·
   show Act.put _ (some 33) _ = _
   exact aP
  refine oN 6 35 HT_ (fun K hK => ?_)
  refine gz Tryz.func44 #[.bool a0_0, .slice t1 f2.length t2, .slice t3 d8.length t4] ?_
  with_reducible refine (checker_lowest.calls k a0_0 (fun k_ => ((w.heap.size ≤ k_) ∧ (k_ ≠ b2 ∧ (k_ ≠ b4 ∧ k_ ≠ a9)))) _ _ f2 (fun k_ => ((w.heap.size ≤ k_) ∧ (k_ ≠ b2 ∧ (k_ ≠ b4 ∧ k_ ≠ a9)))) _ _ d8 k6 k7 k8 _ ?side1 ?side2 A8.out).mono ?_
  (case side1 => exact Kd.V_mono (Go.Proofs.YtbgmfgndldnmcaaGreatDoorMyWords.V_base (f7.out)) (fun k_ hk => by first | exact hk | (simp only [hk, ne_eq, not_false_eq_true, and_self]; done)))
  (case side2 => exact Kd.V_mono (Go.Proofs.YtbgmfgndldnmcaaGreatDoorMyWords.V_base (b7.out)) (fun k_ hk => by first | exact hk | (simp only [hk, ne_eq, not_false_eq_true, and_self]; done)))
  rintro e t5 ⟨y9, z1, rfl, d1, j0, hb⟩
  refine ⟨_, rfl, ?_⟩
  replace b5 := uV b5 hb
  replace b6 := uV b6 hb
  replace b7 := uV b7 hb
  replace f7 := uV f7 hb
  have j1 := lV (ok' := fun k_ => (w.heap.size ≤ k_) ∧ k_ ≠ b2 ∧ k_ ≠ b4 ∧ k_ ≠ a9) d1
  have j2 := lV (ok' := fun k_ => (w.heap.size ≤ k_) ∧ k_ ≠ b2 ∧ k_ ≠ b4 ∧ k_ ≠ a9) j0
  replace a6 := uB a6 hb
  replace a7 := uB a7 hb
  replace b0 := uB b0 hb
  replace HB := uW hb
  (try clear hb)
  (try clear hb2)
  (try clear hk)
  (try clear hi)
  (try clear d1)
  (try clear j0)
  obtain ⟨t6, t7, l6⟩ := Kd.V_slice j1.out
  (first | subst l6 | (injection l6 with f1_ f2_ f3_; have f4_ := f1_.symm; have f5_ := f3_.symm; clear f1_ f2_ f3_; subst f4_; subst f5_))
  obtain ⟨t8, t9, l7⟩ := Kd.V_slice j2.out
  (first | subst l7 | (injection l7 with f1_ f2_ f3_; have f4_ := f1_.symm; have f5_ := f3_.symm; clear f1_ f2_ f3_; subst f4_; subst f5_))
  refine hK.out _ _ cS (fun b1 => ?_)
  clear hK K
  refine norm_ (a' := ?_) ?_ ?_
  rotate_left
  ·
   show Act.put _ (some 35) _ = _
   exact aP
  refine one_ (i := 7) (N := none) #[true, true, true, true, true, true, true, true] rfl rfl (one_of HT_.out (by kernel_rfl)) (by decide) (fun K hK => ?_)
  have hs28 : t5.cell? ⟨a9, 0, none⟩ = some (.bool false) := (blk_cell b0.out 0).trans rfl
  have hfs28 := blk_frozen b0.out 0
  have hns28_0 := a8.out
  have hns28_1 := b3.out
  have hms28_0 := b8.out
  have hms28_1 := b9.out
  have hs30 : t5.cell? ⟨a9, 1, none⟩ = some (.slice none 0 0) := (blk_cell b0.out 1).trans rfl
  have hfs30 := blk_frozen b0.out 1
  have hns30_0 := a8.out
  have hns30_1 := b3.out
  have hms30_0 := b8.out
  have hms30_1 := b9.out
  have hs32 : t5.cell? ⟨a9, 2, none⟩ = some (.slice none 0 0) := (blk_cell b0.out 2).trans rfl
  have hfs32 := blk_frozen b0.out 2
  have hns32_0 := a8.out
  have hns32_1 := b3.out
  have hms32_0 := b8.out
  have hms32_1 := b9.out
  refine skip_ (w1 := ?_) (by rfl) rfl ?_ ?_
  rotate_left
  ·
   go_simp
   rfl
  refine hK.out _ _ ⟨((cell_far (p := ⟨a9, _, none⟩) a8.out _).trans (((cell_far (p := ⟨a9, _, none⟩) a8.out _).trans (((cell_far (p := ⟨a9, _, none⟩) a8.out _).trans (b1.1)))))), ((cell_far (p := ⟨a9, _, none⟩) a8.out _).trans (((cell_far (p := ⟨a9, _, none⟩) a8.out _).trans (((cell_far (p := ⟨a9, _, none⟩) a8.out _).trans (b1.2.1)))))), ((cell_far (p := ⟨a9, _, none⟩) a8.out _).trans (((cell_far (p := ⟨a9, _, none⟩) a8.out _).trans (((cell_far (p := ⟨a9, _, none⟩) a8.out _).trans (b1.2.2))))))⟩ (fun b1 => ?_)
  clear hK K
  refine done_ (done_of HT_.out (by kernel_rfl)) ?_
  try go_wp2
  refine bodyPost_ret (results_cell_row rfl _ _ a9 61 #[.bool k6, .slice t6 k7.length t7, .slice t8 k8.length t9] (0, 0) _ rfl sB Tryz.underlying61 rfl (by kernel_rfl)) rfl ?_
  exact ⟨_, _, by first | rfl | (simp [*] <;> rfl), sV j1.out, sV j2.out, aB⟩
 ·
  rw [if_neg c6] at H
  have s0 : (a0_0 == a1_0) = false := by simpa using c6
  (try (have s5 : decide (a0_0 = a1_0) = false := by simpa using c6))
  (try (have s6 : (a0_0 == a1_0) = false := by simpa using c6))
  (try (have z2 : ¬ (a0_0 = a1_0) := by simpa using c6))
  clear c6
  obtain ⟨f1, A33, H⟩ := bS H
  by_cases k5 : f1 ≥ 0
  ·
   rw [if_pos k5] at H
   have l8 : decide (0 ≤ f1) = true := decide_eq_true k5
   clear k5
   obtain ⟨f3, A35, H⟩ := bS H
   obtain ⟨⟨l9, m0, m1⟩, A36, H⟩ := bS H
   (try dsimp only at H)
   simp only [Option.some.injEq, Prod.mk.injEq] at H
   obtain ⟨rfl, rfl, rfl⟩ := H
   go_enter Tryz.func23, Tryz.ntmps23
   try go_wp2_with (first | (refine gd 2 ?_; refine box_event ?hg (N := 2) ?hd (cs := #[.bool a0_0, .slice d9 c7.length e1, .slice d2 c4.length d3]) (t := 61) ?hr ?_; (case hd => rfl); (case hg => rfl); (case hr => exact aH); intro b2 hg B4 hbox hb; have a6 := mk0 (hbox);have i4 := uG hg;have i5 := uG hg;replace HB := uW hb; clear hb hbox hg) | (refine gd 3 ?_; refine box_event ?hg (N := 3) ?hd (cs := #[.bool a1_0, .slice e2 d0.length e3, .slice d4 c5.length d5]) (t := 61) ?hr ?_; (case hd => rfl); (case hg => rfl); (case hr => exact aH); intro b4 hg B7 hbox hb; have a7 := mk0 (hbox);have i6 := uG hg;have i7 := uG hg;replace HB := uW hb;have d6 := uL a6 hg;have d7 := uM a6 hg;replace a6 := uB a6 hb; clear hb hbox hg) | (refine gd 4 ?_; refine box_event ?hg (N := 4) ?hd (cs := #[.bool false, .slice none 0 0, .slice none 0 0]) (t := 61) ?hr ?_; (case hd => rfl); (case hg => rfl); (case hr => exact aH); intro a9 hg z3 hbox hb; have b0 := mk0 (hbox);have i8 := uG hg;have i9 := uG hg;replace HB := uW hb;have a8 := uL a6 hg;have b8 := uM a6 hg;replace a6 := uB a6 hb;have b3 := uL a7 hg;have b9 := uM a7 hg;replace a7 := uB a7 hb; clear hb hbox hg))
   replace a6 := mk0 (blk_drew a6.out)
   replace a7 := mk0 (blk_drew a7.out)
   replace b0 := mk0 (blk_drew b0.out)
   replace HB := mk0 (below_drew1 HB.out)
   refine start_ (n := 18) (S := fun w' => w'.cell? ⟨b2, 0, none⟩ = some (.bool a0_0) ∧ w'.cell? ⟨b2, 1, none⟩ = some (.slice d9 c7.length e1) ∧ w'.cell? ⟨b2, 2, none⟩ = some (.slice d2 c4.length d3) ∧ w'.cell? ⟨b4, 0, none⟩ = some (.bool a1_0) ∧ w'.cell? ⟨b4, 1, none⟩ = some (.slice e2 d0.length e3) ∧ w'.cell? ⟨b4, 2, none⟩ = some (.slice d4 c5.length d5)) (ds := []) #[false, false, false, false, false, false, false, false, false, false, false, false, false, false, false, false, false, false] (by kernel_rfl) rfl rfl cS (fun b1 => ?_); refine with_tabW checker_fraction_add.tab1 checker_fraction_add.bits1 (fun HT_ HW_ => ?_)
   generalize z3.drew = B8 at a6 a7 b0 HB b1 ⊢
   refine pu 0 8 HT_ ?_
   refine pu 2 10 HT_ ?_
   refine pu 5 13 HT_ ?_
   refine pu 7 15 HT_ ?_
   refine pu 10 18 HT_ ?_
   refine pu 12 20 HT_ ?_
   refine tk 1 9 HT_ HW_ b1 ?_
   refine tk 3 11 HT_ HW_ b1 ?_
   refine tk 6 14 HT_ HW_ b1 ?_
   refine tk 8 16 HT_ HW_ b1 ?_
   refine tk 11 19 HT_ HW_ b1 ?_
   refine tk 13 21 HT_ HW_ b1 ?_
   refine oN 4 12 HT_ (fun K hK => ?_)
   refine gz Tryz.func43 #[.slice d9 c7.length e1, .slice d4 c5.length d5] ?_
   with_reducible refine (checker_natural_mul.calls k _ _ c7 _ _ c5 c8 _ ?side1 ?side2 ?side3 ?side4 A3.out).mono ?_
   (case side1 => exact pC (Kd.C_below g0.out HB.out))
   (case side2 => exact g1.out)
   (case side3 => exact pC (Kd.C_below e9.out HB.out))
   (case side4 => exact f0.out)
   rintro e B9 ⟨k9, rfl, d1, hb⟩
   refine ⟨_, rfl, ?_⟩
   have b5 := lV (ok' := fun k_ => (w.heap.size ≤ k_) ∧ k_ ≠ b2 ∧ k_ ≠ b4 ∧ k_ ≠ a9) d1
   replace a6 := uB a6 hb
   replace a7 := uB a7 hb
   replace b0 := uB b0 hb
   replace HB := uW hb
   (try clear hb)
   (try clear hb2)
   (try clear hk)
   (try clear hi)
   (try clear d1)
   refine hK.out _ _ cS (fun b1 => ?_)
   clear hK K
   refine norm_ (a' := ?_) ?_ ?_
   rotate_left
   ·
    show Act.put _ (some 12) _ = _
    exact aP
   refine oN 9 17 HT_ (fun K hK => ?_)
   refine gz Tryz.func43 #[.slice e2 d0.length e3, .slice d2 c4.length d3] ?_
   with_reducible refine (checker_natural_mul.calls k _ _ d0 _ _ c4 c9 _ ?side1 ?side2 ?side3 ?side4 A4.out).mono ?_
   (case side1 => exact pC (Kd.C_below g2.out HB.out))
   (case side2 => exact g3.out)
   (case side3 => exact pC (Kd.C_below e7.out HB.out))
   (case side4 => exact e8.out)
   rintro e C0 ⟨l0, rfl, d1, hb⟩
   refine ⟨_, rfl, ?_⟩
   replace b5 := uV b5 hb
   have b6 := lV (ok' := fun k_ => (w.heap.size ≤ k_) ∧ k_ ≠ b2 ∧ k_ ≠ b4 ∧ k_ ≠ a9) d1
   replace a6 := uB a6 hb
   replace a7 := uB a7 hb
   replace b0 := uB b0 hb
   replace HB := uW hb
   (try clear hb)
   (try clear hb2)
   (try clear hk)
   (try clear hi)
   (try clear d1)
   refine hK.out _ _ cS (fun b1 => ?_)
   clear hK K
   refine norm_ (a' := ?_) ?_ ?_
   rotate_left
   ·
    show Act.put _ (some 17) _ = _
    exact aP
   refine oN 14 22 HT_ (fun K hK => ?_)
   refine gz Tryz.func43 #[.slice d2 c4.length d3, .slice d4 c5.length d5] ?_
   with_reducible refine (checker_natural_mul.calls k _ _ c4 _ _ c5 d8 _ ?side1 ?side2 ?side3 ?side4 A5.out).mono ?_
   (case side1 => exact pC (Kd.C_below e7.out HB.out))
   (case side2 => exact e8.out)
   (case side3 => exact pC (Kd.C_below e9.out HB.out))
   (case side4 => exact f0.out)
   rintro e f5 ⟨g4, rfl, d1, hb⟩
   refine ⟨_, rfl, ?_⟩
   replace b5 := uV b5 hb
   replace b6 := uV b6 hb
   have b7 := lV (ok' := fun k_ => (w.heap.size ≤ k_) ∧ k_ ≠ b2 ∧ k_ ≠ b4 ∧ k_ ≠ a9) d1
   replace a6 := uB a6 hb
   replace a7 := uB a7 hb
   replace b0 := uB b0 hb
   replace HB := uW hb
   (try clear hb)
   (try clear hb2)
   (try clear hk)
   (try clear hi)
   (try clear d1)
   refine hK.out _ _ cS (fun b1 => ?_)
   clear hK K
   refine norm_ (a' := ?_) ?_ ?_
   rotate_left
   ·
    show Act.put _ (some 22) _ = _
    exact aP
   refine pu 15 5 HT_ ?_
   refine pu 16 6 HT_ ?_
   refine pu 17 7 HT_ ?_
   refine done_ (done_of HT_.out (by kernel_rfl)) ?_
   have x5 := d6.out
   have x6 := d7.out
   have x7 := a8.out
   have x8 := b8.out
   have p3 := cZ a6 0
   have p4 : f5.cell? ⟨b2, 1, none⟩ = some (.slice d9 c7.length e1) := (blk_cell a6.out 1).trans rfl
   have p5 : f5.cell? ⟨b2, 2, none⟩ = some (.slice d2 c4.length d3) := (blk_cell a6.out 2).trans rfl
   have p6 := blk_frozen a6.out 0
   have p7 := blk_frozen a6.out 1
   have p8 := blk_frozen a6.out 2
   have x9 := b3.out
   have y0 := b9.out
   have p9 := cZ a7 0
   have q0 : f5.cell? ⟨b4, 1, none⟩ = some (.slice e2 d0.length e3) := (blk_cell a7.out 1).trans rfl
   have q1 : f5.cell? ⟨b4, 2, none⟩ = some (.slice d4 c5.length d5) := (blk_cell a7.out 2).trans rfl
   have q2 := blk_frozen a7.out 0
   have q3 := blk_frozen a7.out 1
   have q4 := blk_frozen a7.out 2
   obtain ⟨j7, j8, u0⟩ := Kd.V_slice b5.out
   subst u0
   obtain ⟨j9, k0, u2⟩ := Kd.V_slice b6.out
   subst u2
   try go_wp2_with (first | (refine gc 36 ?_; refine gl 39 Tryz.func36 #[.slice j7 c8.length j8, .slice j9 c9.length k0] ?_; (with_reducible refine (checker_natural_compare.calls k _ _ c8 _ _ c9 f1 _ ?side1 ?side2 ?side3 ?side4 A33.out).mono ?_); (case side1 => exact pC ((Kd.V_reads' b5.out).2.2)); (case side2 => exact (Kd.V_reads' b5.out).2.1); (case side3 => exact pC ((Kd.V_reads' b6.out).2.2)); (case side4 => exact (Kd.V_reads' b6.out).2.1); rintro e w' ⟨rfl, ⟨nd, rfl⟩⟩; refine ⟨_, rfl, ?_⟩; (try (rw [drewN_self f5]; generalize hq_ : World.drewN f5 _ = f5; have m2 : Aside0 (Kd.V (Kd.int .u32) 107 f5 w.heap.size (fun k_ => (w.heap.size ≤ k_) ∧ k_ ≠ b2 ∧ k_ ≠ b4 ∧ k_ ≠ a9) (.slice j7 c8.length j8) c8) := ⟨by rw [← hq_]; exact (pV b5.out)⟩; have m3 : Aside0 (Kd.V (Kd.int .u32) 107 f5 w.heap.size (fun k_ => (w.heap.size ≤ k_) ∧ k_ ≠ b2 ∧ k_ ≠ b4 ∧ k_ ≠ a9) (.slice j9 c9.length k0) c9) := ⟨by rw [← hq_]; exact (pV b6.out)⟩; have m4 : Aside0 (Kd.V (Kd.int .u32) 107 f5 w.heap.size (fun k_ => (w.heap.size ≤ k_) ∧ k_ ≠ b2 ∧ k_ ≠ b4 ∧ k_ ≠ a9) g4 d8) := ⟨by rw [← hq_]; exact (pV b7.out)⟩; have m5 : Aside0 (f5.heap[b2]? = some (.cells #[.bool a0_0, .slice d9 c7.length e1, .slice d2 c4.length d3] 61 (0, 0))) := ⟨by rw [← hq_]; exact (pB a6.out)⟩; have m6 : Aside0 (f5.heap[b4]? = some (.cells #[.bool a1_0, .slice e2 d0.length e3, .slice d4 c5.length d5] 61 (0, 0))) := ⟨by rw [← hq_]; exact (pB a7.out)⟩; have m7 : Aside0 (f5.heap[a9]? = some (.cells #[.bool false, .slice none 0 0, .slice none 0 0] 61 (0, 0))) := ⟨by rw [← hq_]; exact (pB b0.out)⟩; have m8 : Aside0 (Below w.heap.size w f5) := ⟨by rw [← hq_]; exact (aB)⟩; clear b5 b6 b7 a6 a7 b0 HB hq_; have b5 := m2; have b6 := m3; have b7 := m4; have a6 := m5; have a7 := m6; have b0 := m7; have HB := m8; clear m2 m3 m4 m5 m6 m7 m8))))
   replace b5 := mk0 (Kd.V_drew b5.out)
   replace b6 := mk0 (Kd.V_drew b6.out)
   replace b7 := mk0 (Kd.V_drew b7.out)
   replace a6 := mk0 (blk_drew a6.out)
   replace a7 := mk0 (blk_drew a7.out)
   replace b0 := mk0 (blk_drew b0.out)
   replace HB := mk0 (below_drew1 HB.out)
   refine start_ (n := 8) (S := fun w' => w'.cell? ⟨b2, 0, none⟩ = some (.bool a0_0) ∧ w'.cell? ⟨b2, 1, none⟩ = some (.slice d9 c7.length e1) ∧ w'.cell? ⟨b2, 2, none⟩ = some (.slice d2 c4.length d3)) (ds := []) #[false, false, false, false, false, false, false, false] (by kernel_rfl) rfl rfl cS (fun b1 => ?_); refine with_tabW checker_fraction_add.tab5 checker_fraction_add.bits5 (fun HT_ HW_ => ?_)
   generalize f5.drew = C1 at b5 b6 b7 a6 a7 b0 HB b1 ⊢
   refine pu 0 41 HT_ ?_
   refine pu 2 43 HT_ ?_
   refine pu 3 44 HT_ ?_
   refine pu 5 46 HT_ ?_
   refine tk 1 42 HT_ HW_ b1 ?_
   refine oN 4 45 HT_ (fun K hK => ?_)
   refine gz Tryz.func46 #[.slice j7 c8.length j8, .slice j9 c9.length k0] ?_
   with_reducible refine (checker_natural_sub.calls k _ _ c8 _ _ c9 f3 _ ?side1 ?side2 ?side3 ?side4 A35.out).mono ?_
   (case side1 => exact pC ((Kd.V_reads' b5.out).2.2))
   (case side2 => exact (Kd.V_reads' b5.out).2.1)
   (case side3 => exact pC ((Kd.V_reads' b6.out).2.2))
   (case side4 => exact (Kd.V_reads' b6.out).2.1)
   rintro e C2 ⟨z4, rfl, d1, hb⟩
   refine ⟨_, rfl, ?_⟩
   replace b5 := uV b5 hb
   replace b6 := uV b6 hb
   replace b7 := uV b7 hb
   have f8 := lV (ok' := fun k_ => (w.heap.size ≤ k_) ∧ k_ ≠ b2 ∧ k_ ≠ b4 ∧ k_ ≠ a9) d1
   replace a6 := uB a6 hb
   replace a7 := uB a7 hb
   replace b0 := uB b0 hb
   replace HB := uW hb
   (try clear hb)
   (try clear hb2)
   (try clear hk)
   (try clear hi)
   (try clear d1)
   obtain ⟨u3, u4, m9⟩ := Kd.V_slice f8.out
   (first | subst m9 | (injection m9 with f1_ f2_ f3_; have f4_ := f1_.symm; have f5_ := f3_.symm; clear f1_ f2_ f3_; subst f4_; subst f5_))
   obtain ⟨u5, u6, n0⟩ := Kd.V_slice b7.out
   (first | subst n0 | (injection n0 with f1_ f2_ f3_; have f4_ := f1_.symm; have f5_ := f3_.symm; clear f1_ f2_ f3_; subst f4_; subst f5_))
   refine hK.out _ _ cS (fun b1 => ?_)
   clear hK K
   refine norm_ (a' := ?_) ?_ ?_
   rotate_left
   ·
    show Act.put _ (some 45) _ = _
    exact aP
   refine oN 6 47 HT_ (fun K hK => ?_)
   refine gz Tryz.func44 #[.bool a0_0, .slice u3 f3.length u4, .slice u5 d8.length u6] ?_
   with_reducible refine (checker_lowest.calls k a0_0 (fun k_ => ((w.heap.size ≤ k_) ∧ (k_ ≠ b2 ∧ (k_ ≠ b4 ∧ k_ ≠ a9)))) _ _ f3 (fun k_ => ((w.heap.size ≤ k_) ∧ (k_ ≠ b2 ∧ (k_ ≠ b4 ∧ k_ ≠ a9)))) _ _ d8 l9 m0 m1 _ ?side1 ?side2 A36.out).mono ?_
   (case side1 => exact Kd.V_mono (Go.Proofs.YtbgmfgndldnmcaaGreatDoorMyWords.V_base (f8.out)) (fun k_ hk => by first | exact hk | (simp only [hk, ne_eq, not_false_eq_true, and_self]; done)))
   (case side2 => exact Kd.V_mono (Go.Proofs.YtbgmfgndldnmcaaGreatDoorMyWords.V_base (b7.out)) (fun k_ hk => by first | exact hk | (simp only [hk, ne_eq, not_false_eq_true, and_self]; done)))
   rintro e u7 ⟨z5, z6, rfl, d1, j0, hb⟩
   refine ⟨_, rfl, ?_⟩
   replace b5 := uV b5 hb
   replace b6 := uV b6 hb
   replace b7 := uV b7 hb
   replace f8 := uV f8 hb
   have j3 := lV (ok' := fun k_ => (w.heap.size ≤ k_) ∧ k_ ≠ b2 ∧ k_ ≠ b4 ∧ k_ ≠ a9) d1
   have j4 := lV (ok' := fun k_ => (w.heap.size ≤ k_) ∧ k_ ≠ b2 ∧ k_ ≠ b4 ∧ k_ ≠ a9) j0
   replace a6 := uB a6 hb
   replace a7 := uB a7 hb
   replace b0 := uB b0 hb
   replace HB := uW hb
   (try clear hb)
   (try clear hb2)
   (try clear hk)
   (try clear hi)
   (try clear d1)
   (try clear j0)
   obtain ⟨u9, v0, n1⟩ := Kd.V_slice j3.out
   (first | subst n1 | (injection n1 with f1_ f2_ f3_; have f4_ := f1_.symm; have f5_ := f3_.symm; clear f1_ f2_ f3_; subst f4_; subst f5_))
   obtain ⟨v2, v3, n2⟩ := Kd.V_slice j4.out
   (first | subst n2 | (injection n2 with f1_ f2_ f3_; have f4_ := f1_.symm; have f5_ := f3_.symm; clear f1_ f2_ f3_; subst f4_; subst f5_))
   refine hK.out _ _ cS (fun b1 => ?_)
   clear hK K
   refine norm_ (a' := ?_) ?_ ?_
   rotate_left
   ·
    show Act.put _ (some 47) _ = _
    exact aP
   refine one_ (i := 7) (N := none) #[true, true, true, true, true, true, true, true] rfl rfl (one_of HT_.out (by kernel_rfl)) (by decide) (fun K hK => ?_)
   have hs56 : u7.cell? ⟨a9, 0, none⟩ = some (.bool false) := (blk_cell b0.out 0).trans rfl
   have hfs56 := blk_frozen b0.out 0
   have hns56_0 := a8.out
   have hns56_1 := b3.out
   have hms56_0 := b8.out
   have hms56_1 := b9.out
   have hs58 : u7.cell? ⟨a9, 1, none⟩ = some (.slice none 0 0) := (blk_cell b0.out 1).trans rfl
   have hfs58 := blk_frozen b0.out 1
   have hns58_0 := a8.out
   have hns58_1 := b3.out
   have hms58_0 := b8.out
   have hms58_1 := b9.out
   have hs60 : u7.cell? ⟨a9, 2, none⟩ = some (.slice none 0 0) := (blk_cell b0.out 2).trans rfl
   have hfs60 := blk_frozen b0.out 2
   have hns60_0 := a8.out
   have hns60_1 := b3.out
   have hms60_0 := b8.out
   have hms60_1 := b9.out
   refine skip_ (w1 := ?_) (by rfl) rfl ?_ ?_
   rotate_left
   ·
    go_simp
    rfl
   refine hK.out _ _ ⟨((cell_far (p := ⟨a9, _, none⟩) a8.out _).trans (((cell_far (p := ⟨a9, _, none⟩) a8.out _).trans (((cell_far (p := ⟨a9, _, none⟩) a8.out _).trans (b1.1)))))), ((cell_far (p := ⟨a9, _, none⟩) a8.out _).trans (((cell_far (p := ⟨a9, _, none⟩) a8.out _).trans (((cell_far (p := ⟨a9, _, none⟩) a8.out _).trans (b1.2.1)))))), ((cell_far (p := ⟨a9, _, none⟩) a8.out _).trans (((cell_far (p := ⟨a9, _, none⟩) a8.out _).trans (((cell_far (p := ⟨a9, _, none⟩) a8.out _).trans (b1.2.2))))))⟩ (fun b1 => ?_)
   clear hK K
   refine done_ (done_of HT_.out (by kernel_rfl)) ?_
   try go_wp2
   refine bodyPost_ret (results_cell_row rfl _ _ a9 61 #[.bool l9, .slice u9 m0.length v0, .slice v2 m1.length v3] (0, 0) _ rfl sB Tryz.underlying61 rfl (by kernel_rfl)) rfl ?_
   exact ⟨_, _, by first | rfl | (simp [*] <;> rfl), sV j3.out, sV j4.out, aB⟩
  ·
   rw [if_neg k5] at H
   have l8 : decide (0 ≤ f1) = false := decide_eq_false k5
   clear k5
   obtain ⟨f4, A61, H⟩ := bS H
   obtain ⟨⟨n3, n4, n5⟩, A62, H⟩ := bS H
   (try dsimp only at H)
   simp only [Option.some.injEq, Prod.mk.injEq] at H
   obtain ⟨rfl, rfl, rfl⟩ := H
   go_enter Tryz.func23, Tryz.ntmps23
   try go_wp2_with (first | (refine gd 2 ?_; refine box_event ?hg (N := 2) ?hd (cs := #[.bool a0_0, .slice d9 c7.length e1, .slice d2 c4.length d3]) (t := 61) ?hr ?_; (case hd => rfl); (case hg => rfl); (case hr => exact aH); intro b2 hg C3 hbox hb; have a6 := mk0 (hbox);have i4 := uG hg;have i5 := uG hg;replace HB := uW hb; clear hb hbox hg) | (refine gd 3 ?_; refine box_event ?hg (N := 3) ?hd (cs := #[.bool a1_0, .slice e2 d0.length e3, .slice d4 c5.length d5]) (t := 61) ?hr ?_; (case hd => rfl); (case hg => rfl); (case hr => exact aH); intro b4 hg C4 hbox hb; have a7 := mk0 (hbox);have i6 := uG hg;have i7 := uG hg;replace HB := uW hb;have d6 := uL a6 hg;have d7 := uM a6 hg;replace a6 := uB a6 hb; clear hb hbox hg) | (refine gd 4 ?_; refine box_event ?hg (N := 4) ?hd (cs := #[.bool false, .slice none 0 0, .slice none 0 0]) (t := 61) ?hr ?_; (case hd => rfl); (case hg => rfl); (case hr => exact aH); intro a9 hg z7 hbox hb; have b0 := mk0 (hbox);have i8 := uG hg;have i9 := uG hg;replace HB := uW hb;have a8 := uL a6 hg;have b8 := uM a6 hg;replace a6 := uB a6 hb;have b3 := uL a7 hg;have b9 := uM a7 hg;replace a7 := uB a7 hb; clear hb hbox hg))
   replace a6 := mk0 (blk_drew a6.out)
   replace a7 := mk0 (blk_drew a7.out)
   replace b0 := mk0 (blk_drew b0.out)
   replace HB := mk0 (below_drew1 HB.out)
   refine start_ (n := 18) (S := fun w' => w'.cell? ⟨b2, 0, none⟩ = some (.bool a0_0) ∧ w'.cell? ⟨b2, 1, none⟩ = some (.slice d9 c7.length e1) ∧ w'.cell? ⟨b2, 2, none⟩ = some (.slice d2 c4.length d3) ∧ w'.cell? ⟨b4, 0, none⟩ = some (.bool a1_0) ∧ w'.cell? ⟨b4, 1, none⟩ = some (.slice e2 d0.length e3) ∧ w'.cell? ⟨b4, 2, none⟩ = some (.slice d4 c5.length d5)) (ds := []) #[false, false, false, false, false, false, false, false, false, false, false, false, false, false, false, false, false, false] (by kernel_rfl) rfl rfl cS (fun b1 => ?_); refine with_tabW checker_fraction_add.tab1 checker_fraction_add.bits1 (fun HT_ HW_ => ?_)
   generalize z7.drew = C5 at a6 a7 b0 HB b1 ⊢
   refine pu 0 8 HT_ ?_
   refine pu 2 10 HT_ ?_
   refine pu 5 13 HT_ ?_
   refine pu 7 15 HT_ ?_
   refine pu 10 18 HT_ ?_
   refine pu 12 20 HT_ ?_
   refine tk 1 9 HT_ HW_ b1 ?_
   refine tk 3 11 HT_ HW_ b1 ?_
   refine tk 6 14 HT_ HW_ b1 ?_
   refine tk 8 16 HT_ HW_ b1 ?_
   refine tk 11 19 HT_ HW_ b1 ?_
   refine tk 13 21 HT_ HW_ b1 ?_
   refine oN 4 12 HT_ (fun K hK => ?_)
   refine gz Tryz.func43 #[.slice d9 c7.length e1, .slice d4 c5.length d5] ?_
   with_reducible refine (checker_natural_mul.calls k _ _ c7 _ _ c5 c8 _ ?side1 ?side2 ?side3 ?side4 A3.out).mono ?_
   (case side1 => exact pC (Kd.C_below g0.out HB.out))
   (case side2 => exact g1.out)
   (case side3 => exact pC (Kd.C_below e9.out HB.out))
   (case side4 => exact f0.out)
   rintro e C6 ⟨k9, rfl, d1, hb⟩
   refine ⟨_, rfl, ?_⟩
   have b5 := lV (ok' := fun k_ => (w.heap.size ≤ k_) ∧ k_ ≠ b2 ∧ k_ ≠ b4 ∧ k_ ≠ a9) d1
   replace a6 := uB a6 hb
   replace a7 := uB a7 hb
   replace b0 := uB b0 hb
   replace HB := uW hb
   (try clear hb)
   (try clear hb2)
   (try clear hk)
   (try clear hi)
   (try clear d1)
   refine hK.out _ _ cS (fun b1 => ?_)
   clear hK K
   refine norm_ (a' := ?_) ?_ ?_
   rotate_left
   ·
    show Act.put _ (some 12) _ = _
    exact aP
   refine oN 9 17 HT_ (fun K hK => ?_)
   refine gz Tryz.func43 #[.slice e2 d0.length e3, .slice d2 c4.length d3] ?_
   with_reducible refine (checker_natural_mul.calls k _ _ d0 _ _ c4 c9 _ ?side1 ?side2 ?side3 ?side4 A4.out).mono ?_
   (case side1 => exact pC (Kd.C_below g2.out HB.out))
   (case side2 => exact g3.out)
   (case side3 => exact pC (Kd.C_below e7.out HB.out))
   (case side4 => exact e8.out)
   rintro e C7 ⟨l0, rfl, d1, hb⟩
   refine ⟨_, rfl, ?_⟩
   replace b5 := uV b5 hb
   have b6 := lV (ok' := fun k_ => (w.heap.size ≤ k_) ∧ k_ ≠ b2 ∧ k_ ≠ b4 ∧ k_ ≠ a9) d1
   replace a6 := uB a6 hb
   replace a7 := uB a7 hb
   replace b0 := uB b0 hb
   replace HB := uW hb
   (try clear hb)
   (try clear hb2)
   (try clear hk)
   (try clear hi)
   (try clear d1)
   refine hK.out _ _ cS (fun b1 => ?_)
   clear hK K
   refine norm_ (a' := ?_) ?_ ?_
   rotate_left
   ·
    show Act.put _ (some 17) _ = _
    exact aP
   refine oN 14 22 HT_ (fun K hK => ?_)
   refine gz Tryz.func43 #[.slice d2 c4.length d3, .slice d4 c5.length d5] ?_
   with_reducible refine (checker_natural_mul.calls k _ _ c4 _ _ c5 d8 _ ?side1 ?side2 ?side3 ?side4 A5.out).mono ?_
   (case side1 => exact pC (Kd.C_below e7.out HB.out))
   (case side2 => exact e8.out)
   (case side3 => exact pC (Kd.C_below e9.out HB.out))
   (case side4 => exact f0.out)
   rintro e f6 ⟨g4, rfl, d1, hb⟩
   refine ⟨_, rfl, ?_⟩
   replace b5 := uV b5 hb
   replace b6 := uV b6 hb
   have b7 := lV (ok' := fun k_ => (w.heap.size ≤ k_) ∧ k_ ≠ b2 ∧ k_ ≠ b4 ∧ k_ ≠ a9) d1
   replace a6 := uB a6 hb
   replace a7 := uB a7 hb
   replace b0 := uB b0 hb
   replace HB := uW hb
   (try clear hb)
   (try clear hb2)
   (try clear hk)
   (try clear hi)
   (try clear d1)
   refine hK.out _ _ cS (fun b1 => ?_)
   clear hK K
   refine norm_ (a' := ?_) ?_ ?_
   rotate_left
   ·
    show Act.put _ (some 22) _ = _
    exact aP
   refine pu 15 5 HT_ ?_
   refine pu 16 6 HT_ ?_
   refine pu 17 7 HT_ ?_
   refine done_ (done_of HT_.out (by kernel_rfl)) ?_
   have y1 := d6.out
   have y2 := d7.out
   have y3 := a8.out
   have y4 := b8.out
   have q5 := cZ a6 0
   have q6 : f6.cell? ⟨b2, 1, none⟩ = some (.slice d9 c7.length e1) := (blk_cell a6.out 1).trans rfl
   have q7 : f6.cell? ⟨b2, 2, none⟩ = some (.slice d2 c4.length d3) := (blk_cell a6.out 2).trans rfl
   have q8 := blk_frozen a6.out 0
   have q9 := blk_frozen a6.out 1
   have r0 := blk_frozen a6.out 2
   have y5 := b3.out
   have y6 := b9.out
   have r4 := cZ a7 0
   have r5 : f6.cell? ⟨b4, 1, none⟩ = some (.slice e2 d0.length e3) := (blk_cell a7.out 1).trans rfl
   have r6 : f6.cell? ⟨b4, 2, none⟩ = some (.slice d4 c5.length d5) := (blk_cell a7.out 2).trans rfl
   have r7 := blk_frozen a7.out 0
   have r8 := blk_frozen a7.out 1
   have r9 := blk_frozen a7.out 2
   obtain ⟨k1, k2, v4⟩ := Kd.V_slice b5.out
   subst v4
   obtain ⟨k3, k4, v5⟩ := Kd.V_slice b6.out
   subst v5
   try go_wp2_with (first | (refine gc 36 ?_; refine gl 39 Tryz.func36 #[.slice k1 c8.length k2, .slice k3 c9.length k4] ?_; (with_reducible refine (checker_natural_compare.calls k _ _ c8 _ _ c9 f1 _ ?side1 ?side2 ?side3 ?side4 A33.out).mono ?_); (case side1 => exact pC ((Kd.V_reads' b5.out).2.2)); (case side2 => exact (Kd.V_reads' b5.out).2.1); (case side3 => exact pC ((Kd.V_reads' b6.out).2.2)); (case side4 => exact (Kd.V_reads' b6.out).2.1); rintro e w' ⟨rfl, ⟨nd, rfl⟩⟩; refine ⟨_, rfl, ?_⟩; (try (rw [drewN_self f6]; generalize hq_ : World.drewN f6 _ = f6; have m2 : Aside0 (Kd.V (Kd.int .u32) 107 f6 w.heap.size (fun k_ => (w.heap.size ≤ k_) ∧ k_ ≠ b2 ∧ k_ ≠ b4 ∧ k_ ≠ a9) (.slice k1 c8.length k2) c8) := ⟨by rw [← hq_]; exact (pV b5.out)⟩; have m3 : Aside0 (Kd.V (Kd.int .u32) 107 f6 w.heap.size (fun k_ => (w.heap.size ≤ k_) ∧ k_ ≠ b2 ∧ k_ ≠ b4 ∧ k_ ≠ a9) (.slice k3 c9.length k4) c9) := ⟨by rw [← hq_]; exact (pV b6.out)⟩; have m4 : Aside0 (Kd.V (Kd.int .u32) 107 f6 w.heap.size (fun k_ => (w.heap.size ≤ k_) ∧ k_ ≠ b2 ∧ k_ ≠ b4 ∧ k_ ≠ a9) g4 d8) := ⟨by rw [← hq_]; exact (pV b7.out)⟩; have m5 : Aside0 (f6.heap[b2]? = some (.cells #[.bool a0_0, .slice d9 c7.length e1, .slice d2 c4.length d3] 61 (0, 0))) := ⟨by rw [← hq_]; exact (pB a6.out)⟩; have m6 : Aside0 (f6.heap[b4]? = some (.cells #[.bool a1_0, .slice e2 d0.length e3, .slice d4 c5.length d5] 61 (0, 0))) := ⟨by rw [← hq_]; exact (pB a7.out)⟩; have m7 : Aside0 (f6.heap[a9]? = some (.cells #[.bool false, .slice none 0 0, .slice none 0 0] 61 (0, 0))) := ⟨by rw [← hq_]; exact (pB b0.out)⟩; have m8 : Aside0 (Below w.heap.size w f6) := ⟨by rw [← hq_]; exact (aB)⟩; clear b5 b6 b7 a6 a7 b0 HB hq_; have b5 := m2; have b6 := m3; have b7 := m4; have a6 := m5; have a7 := m6; have b0 := m7; have HB := m8; clear m2 m3 m4 m5 m6 m7 m8))))
   replace b5 := mk0 (Kd.V_drew b5.out)
   replace b6 := mk0 (Kd.V_drew b6.out)
   replace b7 := mk0 (Kd.V_drew b7.out)
   replace a6 := mk0 (blk_drew a6.out)
   replace a7 := mk0 (blk_drew a7.out)
   replace b0 := mk0 (blk_drew b0.out)
   replace HB := mk0 (below_drew1 HB.out)
   refine start_ (n := 8) (S := fun w' => w'.cell? ⟨b4, 0, none⟩ = some (.bool a1_0) ∧ w'.cell? ⟨b4, 1, none⟩ = some (.slice e2 d0.length e3) ∧ w'.cell? ⟨b4, 2, none⟩ = some (.slice d4 c5.length d5)) (ds := []) #[false, false, false, false, false, false, false, false] (by kernel_rfl) rfl rfl cS (fun b1 => ?_); refine with_tabW checker_fraction_add.tab6 checker_fraction_add.bits6 (fun HT_ HW_ => ?_)
   generalize f6.drew = C8 at b5 b6 b7 a6 a7 b0 HB b1 ⊢
   refine pu 0 48 HT_ ?_
   refine pu 2 50 HT_ ?_
   refine pu 3 51 HT_ ?_
   refine pu 5 53 HT_ ?_
   refine tk 1 49 HT_ HW_ b1 ?_
   refine oN 4 52 HT_ (fun K hK => ?_)
   refine gz Tryz.func46 #[.slice k3 c9.length k4, .slice k1 c8.length k2] ?_
   with_reducible refine (checker_natural_sub.calls k _ _ c9 _ _ c8 f4 _ ?side1 ?side2 ?side3 ?side4 A61.out).mono ?_
   (case side1 => exact pC ((Kd.V_reads' b6.out).2.2))
   (case side2 => exact (Kd.V_reads' b6.out).2.1)
   (case side3 => exact pC ((Kd.V_reads' b5.out).2.2))
   (case side4 => exact (Kd.V_reads' b5.out).2.1)
   rintro e C9 ⟨z8, rfl, d1, hb⟩
   refine ⟨_, rfl, ?_⟩
   replace b5 := uV b5 hb
   replace b6 := uV b6 hb
   replace b7 := uV b7 hb
   have f9 := lV (ok' := fun k_ => (w.heap.size ≤ k_) ∧ k_ ≠ b2 ∧ k_ ≠ b4 ∧ k_ ≠ a9) d1
   replace a6 := uB a6 hb
   replace a7 := uB a7 hb
   replace b0 := uB b0 hb
   replace HB := uW hb
   (try clear hb)
   (try clear hb2)
   (try clear hk)
   (try clear hi)
   (try clear d1)
   obtain ⟨v6, v7, n6⟩ := Kd.V_slice f9.out
   (first | subst n6 | (injection n6 with f1_ f2_ f3_; have f4_ := f1_.symm; have f5_ := f3_.symm; clear f1_ f2_ f3_; subst f4_; subst f5_))
   obtain ⟨v8, v9, n7⟩ := Kd.V_slice b7.out
   (first | subst n7 | (injection n7 with f1_ f2_ f3_; have f4_ := f1_.symm; have f5_ := f3_.symm; clear f1_ f2_ f3_; subst f4_; subst f5_))
   refine hK.out _ _ cS (fun b1 => ?_)
   clear hK K
   refine norm_ (a' := ?_) ?_ ?_
   rotate_left
   ·
    show Act.put _ (some 52) _ = _
    exact aP
   refine oN 6 54 HT_ (fun K hK => ?_)
   refine gz Tryz.func44 #[.bool a1_0, .slice v6 f4.length v7, .slice v8 d8.length v9] ?_
   with_reducible refine (checker_lowest.calls k a1_0 (fun k_ => ((w.heap.size ≤ k_) ∧ (k_ ≠ b2 ∧ (k_ ≠ b4 ∧ k_ ≠ a9)))) _ _ f4 (fun k_ => ((w.heap.size ≤ k_) ∧ (k_ ≠ b2 ∧ (k_ ≠ b4 ∧ k_ ≠ a9)))) _ _ d8 n3 n4 n5 _ ?side1 ?side2 A62.out).mono ?_
   (case side1 => exact Kd.V_mono (Go.Proofs.YtbgmfgndldnmcaaGreatDoorMyWords.V_base (f9.out)) (fun k_ hk => by first | exact hk | (simp only [hk, ne_eq, not_false_eq_true, and_self]; done)))
   (case side2 => exact Kd.V_mono (Go.Proofs.YtbgmfgndldnmcaaGreatDoorMyWords.V_base (b7.out)) (fun k_ hk => by first | exact hk | (simp only [hk, ne_eq, not_false_eq_true, and_self]; done)))
   rintro e w3 ⟨z9, A0, rfl, d1, j0, hb⟩
   refine ⟨_, rfl, ?_⟩
   replace b5 := uV b5 hb
   replace b6 := uV b6 hb
   replace b7 := uV b7 hb
   replace f9 := uV f9 hb
   have j5 := lV (ok' := fun k_ => (w.heap.size ≤ k_) ∧ k_ ≠ b2 ∧ k_ ≠ b4 ∧ k_ ≠ a9) d1
   have j6 := lV (ok' := fun k_ => (w.heap.size ≤ k_) ∧ k_ ≠ b2 ∧ k_ ≠ b4 ∧ k_ ≠ a9) j0
   replace a6 := uB a6 hb
   replace a7 := uB a7 hb
   replace b0 := uB b0 hb
   replace HB := uW hb
   (try clear hb)
   (try clear hb2)
   (try clear hk)
   (try clear hi)
   (try clear d1)
   (try clear j0)
   obtain ⟨w4, w5, n8⟩ := Kd.V_slice j5.out
   (first | subst n8 | (injection n8 with f1_ f2_ f3_; have f4_ := f1_.symm; have f5_ := f3_.symm; clear f1_ f2_ f3_; subst f4_; subst f5_))
   obtain ⟨w6, w7, n9⟩ := Kd.V_slice j6.out
   (first | subst n9 | (injection n9 with f1_ f2_ f3_; have f4_ := f1_.symm; have f5_ := f3_.symm; clear f1_ f2_ f3_; subst f4_; subst f5_))
   refine hK.out _ _ cS (fun b1 => ?_)
   clear hK K
   refine norm_ (a' := ?_) ?_ ?_
   rotate_left
   ·
    show Act.put _ (some 54) _ = _
    exact aP
   refine one_ (i := 7) (N := none) #[true, true, true, true, true, true, true, true] rfl rfl (one_of HT_.out (by kernel_rfl)) (by decide) (fun K hK => ?_)
   have hs82 : w3.cell? ⟨a9, 0, none⟩ = some (.bool false) := (blk_cell b0.out 0).trans rfl
   have hfs82 := blk_frozen b0.out 0
   have hns82_0 := a8.out
   have hns82_1 := b3.out
   have hms82_0 := b8.out
   have hms82_1 := b9.out
   have hs84 : w3.cell? ⟨a9, 1, none⟩ = some (.slice none 0 0) := (blk_cell b0.out 1).trans rfl
   have hfs84 := blk_frozen b0.out 1
   have hns84_0 := a8.out
   have hns84_1 := b3.out
   have hms84_0 := b8.out
   have hms84_1 := b9.out
   have hs86 : w3.cell? ⟨a9, 2, none⟩ = some (.slice none 0 0) := (blk_cell b0.out 2).trans rfl
   have hfs86 := blk_frozen b0.out 2
   have hns86_0 := a8.out
   have hns86_1 := b3.out
   have hms86_0 := b8.out
   have hms86_1 := b9.out
   refine skip_ (w1 := ?_) (by rfl) rfl ?_ ?_
   rotate_left
   ·
    go_simp
    rfl
   refine hK.out _ _ ⟨((cell_far (p := ⟨a9, _, none⟩) b3.out _).trans (((cell_far (p := ⟨a9, _, none⟩) b3.out _).trans (((cell_far (p := ⟨a9, _, none⟩) b3.out _).trans (b1.1)))))), ((cell_far (p := ⟨a9, _, none⟩) b3.out _).trans (((cell_far (p := ⟨a9, _, none⟩) b3.out _).trans (((cell_far (p := ⟨a9, _, none⟩) b3.out _).trans (b1.2.1)))))), ((cell_far (p := ⟨a9, _, none⟩) b3.out _).trans (((cell_far (p := ⟨a9, _, none⟩) b3.out _).trans (((cell_far (p := ⟨a9, _, none⟩) b3.out _).trans (b1.2.2))))))⟩ (fun b1 => ?_)
   clear hK K
   refine done_ (done_of HT_.out (by kernel_rfl)) ?_
   try go_wp2
   refine bodyPost_ret (results_cell_row rfl _ _ a9 61 #[.bool n3, .slice w4 n4.length w5, .slice w6 n5.length w7] (0, 0) _ rfl sB Tryz.underlying61 rfl (by kernel_rfl)) rfl ?_
   exact ⟨_, _, by first | rfl | (simp [*] <;> rfl), sV j5.out, sV j6.out, aB⟩
/-- The table of powers that Itoa reads. -/
def GW (w : World) : Prop := Lib.TabIs Tryz.prog w "internal/strconv.uint64pow10" .u64 Lib.pow10Tab
theorem GW.below {w W : World} (h : GW w) (hb : Below w.heap.size w W) : GW W := by
 obtain ⟨g, hg⟩ : ∃ g, Tryz.prog.globalNamed "internal/strconv.uint64pow10" = some g := by
  refine Option.isSome_iff_exists.1 ?_
  kernel_rfl
 have hc := Lib.TabIs.cell h hg 0 (by decide)
 exact var?_below hb hg (World.block_lt_of_cell? w _ hc) h
/-- The decimal digits, by rounds. -/
def decF : Nat → Nat → List UInt8
 | 0, _ => []
 | k + 1, u => if u < 10 then [UInt8.ofNat (48 + u)] else decF k (u / 10) ++ [UInt8.ofNat (48 + u % 10)]
theorem decF_eq : ∀ (k u : Nat), u < 10 ^ (k + 1) → decF (k + 1) u = Lib.decDigits u
 | 0, u, h => by
  have hu : u < 10 := by simpa using h
  rw [decF, Lib.decDigits, if_pos hu, dif_pos hu]
 | k + 1, u, h => by
  rw [decF, Lib.decDigits]
  by_cases hu : u < 10
  ·
   rw [if_pos hu, dif_pos hu]
  ·
   rw [if_neg hu, dif_neg hu, decF_eq k (u / 10) (by rw [Nat.pow_succ] at h; omega)]
def itoaF (n : Int) : List UInt8 := if n < 0 then 45 :: decF 25 n.natAbs else decF 25 n.toNat
theorem itoaF_eq (n : Int) (h0 : -9223372036854775808 ≤ n) (h1 : n ≤ 9223372036854775807) : itoaF n = Lib.itoa n := by
 unfold itoaF Lib.itoa
 rw [decF_eq 24 n.natAbs (by omega), decF_eq 24 n.toNat (by omega)]
def strconv_Itoa.f (a0 : Int) : Option (ByteArray) := if -9223372036854775808 ≤ a0 then (if a0 ≤ 9223372036854775807 then (some ⟨(itoaF a0).toArray⟩) else none) else none
theorem strconv_Itoa.calls (a0 : Int) (r : ByteArray) (w : World) (hG : GW w) (h : strconv_Itoa.f a0 = some r) :
  Calls Tryz.prog 69 #[.int .i64 a0] w fun e w' => e = .returned (.string r) ∧ Below w.heap.size w w' := by
 unfold strconv_Itoa.f at h
 by_cases h0 : -9223372036854775808 ≤ a0
 ·
  rw [if_pos h0] at h
  by_cases h1 : a0 ≤ 9223372036854775807
  ·
   rw [if_pos h1] at h
   obtain rfl := Option.some.inj h
   refine (Tryz.strconv_Itoa a0 h0 h1 w hG).mono ?_
   rintro e w' ⟨rfl, n, os, rfl⟩
   refine ⟨by rw [itoaF_eq a0 h0 h1], ?_⟩
   exact ⟨rfl, rfl, rfl, by simp [Go.Sort.grow], fun i hi => by simp [Go.Sort.grow, Array.getElem?_append_left, hi]⟩
  ·
   rw [if_neg h1] at h
   cases h
 ·
  rw [if_neg h0] at h
  cases h
def checker_of.f (k : Nat) (a0 : Int) : Option (Bool × List Int × List Int) := (strconv_Itoa.f a0).bind fun a5 => ((checker_read.f k a5).bind fun a2 => (some (a2.1, a2.2.1, a2.2.2.1)))
theorem checker_of.mono : ∀ a0 k, LeO (checker_of.f k a0) (checker_of.f (k + 1) a0) := by
 intro a0 k
 unfold checker_of.f
 repeat' first | (with_reducible first | exact checker_read.mono .. | exact LeO.refl _ | exact LeO.none _ | refine LeO.ite ?_ ?_ | refine LeO.bind ?_ (fun _ => ?_))
set_option maxHeartbeats 8000000 in
set_option maxRecDepth 100000 in
theorem checker_of.calls (k : Nat) (a0 : Int) (r1 : Bool) (r2 : List Int) (r3 : List Int) (w : World) (hG : GW w) (h : checker_of.f k a0 = some (r1, r2, r3)) :
  Calls Tryz.prog 40 #[.int .i64 a0] w fun e w' => ∃ v1_ v2_ : Value, e = .returned (.agg #[.bool r1, v1_, v2_]) ∧ Kd.V (Kd.int .u32) 107 w' w.heap.size (fun k_ => (w.heap.size ≤ k_)) v1_ r2 ∧ Kd.V (Kd.int .u32) 107 w' w.heap.size (fun k_ => (w.heap.size ≤ k_)) v2_ r3 ∧ Below w.heap.size w w' := by
 have hu61 := Tryz.underlying61
 have HB := mk0 (Below.refl w.heap.size w)
 have HG := mk0 hG
 clear hG
 have H : ((strconv_Itoa.f a0).bind fun a5 => ((checker_read.f k a5).bind fun a2 => (some (a2.1, a2.2.1, a2.2.2.1)))) = some (r1, r2, r3) := h
 clear h
 obtain ⟨a5, A2, H⟩ := bS H
 obtain ⟨⟨b1, b2, b3, c4⟩, A3, H⟩ := bS H
 (try dsimp only at H)
 simp only [Option.some.injEq, Prod.mk.injEq] at H
 obtain ⟨rfl, rfl, rfl⟩ := H
 go_enter Tryz.func40, Tryz.ntmps40
 go_wp2_with (first | (refine gd 2 ?_; refine box_event ?hg (N := 2) ?hd (cs := #[.bool false, .slice none 0 0, .slice none 0 0]) (t := 61) ?hr ?_; (case hd => rfl); (case hg => rfl); (case hr => exact aH); intro a3 hg w4 hbox hb; have a1 := mk0 (hbox);have d7 := uG hg;have d8 := uG hg;replace HB := uW hb; clear hb hbox hg) | (refine gc 69 ?_; refine gl 7 Tryz.func69 #[.int .i64 a0] ?_; (with_reducible refine (strconv_Itoa.calls a0 a5 _ ?side1 A2.out).mono ?_); (case side1 => exact GW.below HG.out (aB)); rintro e w5 ⟨rfl, hb⟩; refine ⟨_, rfl, ?_⟩; replace a1 := uB a1 hb;replace HB := uW hb; (try clear hb); (try clear hb2); (try clear hk); (try clear hi)) | (refine gc 17 ?_; refine gl 8 Tryz.func17 #[.string a5] ?_; (with_reducible refine (checker_read.calls k a5 b1 b2 b3 c4 _ A3.out).mono ?_); rintro e w6 ⟨e4, e5, rfl, d9, e1, hb⟩; refine ⟨_, rfl, ?_⟩; have a6 := lV (ok' := fun k_ => (w.heap.size ≤ k_) ∧ k_ ≠ a3) d9;have a7 := lV (ok' := fun k_ => (w.heap.size ≤ k_) ∧ k_ ≠ a3) e1;replace a1 := uB a1 hb;replace HB := uW hb; (try clear hb); (try clear d9); (try clear e1)) | (refine gd 3 ?_; refine box_event ?hg (N := 3) ?hd (cs := #[.bool false, .slice none 0 0, .slice none 0 0]) (t := 61) ?hr ?_; (case hd => rfl); (case hg => rfl); (case hr => exact aH); intro b0 hg w7 hbox hb; replace a6 := eV a6 hg hb;replace a7 := eV a7 hg hb;have a4 := mk0 (hbox);have e2 := uG hg;have e3 := uG hg;replace HB := uW hb;have a8 := uL a1 hg;have a9 := uM a1 hg;replace a1 := uB a1 hb; clear hb hbox hg; have e6 := a9.out; have e7 := a8.out; have c5 : w7.cell? ⟨b0, 0, none⟩ = some (.bool false) := (blk_cell a4.out 0).trans rfl; have c6 : w7.cell? ⟨b0, 1, none⟩ = some (.slice none 0 0) := (blk_cell a4.out 1).trans rfl; have c7 : w7.cell? ⟨b0, 2, none⟩ = some (.slice none 0 0) := (blk_cell a4.out 2).trans rfl; have c8 := blk_frozen a4.out 0; have c9 := blk_frozen a4.out 1; have d0 := blk_frozen a4.out 2; obtain ⟨d1, d2, d3⟩ := Kd.V_slice a6.out; subst d3; obtain ⟨d4, d5, d6⟩ := Kd.V_slice a7.out; subst d6; have b4 : w7.cell? ⟨a3, 0, none⟩ = some (.bool false) := (blk_cell a1.out 0).trans rfl; have b5 : w7.cell? ⟨a3, 1, none⟩ = some (.slice none 0 0) := (blk_cell a1.out 1).trans rfl; have b6 : w7.cell? ⟨a3, 2, none⟩ = some (.slice none 0 0) := (blk_cell a1.out 2).trans rfl; have b7 := blk_frozen a1.out 0; have b8 := blk_frozen a1.out 1; have b9 := blk_frozen a1.out 2))
 refine bodyPost_ret (results_cell_row rfl _ _ a3 61 #[.bool b1, .slice d1 b2.length d2, .slice d4 b3.length d5] (0, 0) _ rfl sB Tryz.underlying61 rfl (by kernel_rfl)) rfl ?_
 exact ⟨_, _, by first | rfl | (simp [*] <;> rfl), sV a6.out, sV a7.out, aB⟩
def checker_fraction_mul.f (k : Nat) (a0_0 : Bool) (b7 : List Int) (b8 : List Int) (a1_0 : Bool) (b9 : List Int) (c4 : List Int) : Option (Bool × List Int × List Int) := (checker_natural_mul.f k b7 b9).bind fun c7 => ((checker_natural_mul.f k b8 c4).bind fun c8 => ((checker_lowest.f k (!(a0_0 == a1_0)) c7 c8).bind fun c5 => (some (c5.1, c5.2.1, c5.2.2))))
theorem checker_fraction_mul.mono : ∀ a0 a1 a2 a3 a4 a5 k, LeO (checker_fraction_mul.f k a0 a1 a2 a3 a4 a5) (checker_fraction_mul.f (k + 1) a0 a1 a2 a3 a4 a5) := by
 intro a0 a1 a2 a3 a4 a5 k
 unfold checker_fraction_mul.f
 repeat' first | (with_reducible first | exact checker_lowest.mono .. | exact checker_natural_mul.mono .. | exact LeO.refl _ | exact LeO.none _ | refine LeO.ite ?_ ?_ | refine LeO.bind ?_ (fun _ => ?_))
def checker_fraction_mul.T1 : Bool × List (List Nat × List Nat) := (true, [([], []), ([0], [0]), ([], []), ([2], [2]), ([1, 3], [1, 3]), ([], []), ([5], [5]), ([], []), ([7], [7]), ([6, 8], [6, 8]), ([], []), ([10], [10]), ([], []), ([12], [12]), ([11, 13, 9], [11, 13]), ([4, 9, 14, 14], [4, 9, 14]), ([15, 15, 0, 1, 2, 3, 4, 5, 6, 7, 8, 9, 10, 11, 12, 13, 14, 15], [15])])
def checker_fraction_mul.B1 : List Nat := [0, 1, 0, 4, 15, 0, 32, 0, 128, 480, 0, 1024, 0, 4096, 16352, 32767, 65535]
theorem checker_fraction_mul.tab1 : rtab .any (opsOf Tryz.f41 1) = checker_fraction_mul.T1 := by kernel_rfl
theorem checker_fraction_mul.bits1 : waitsOk checker_fraction_mul.T1.2 checker_fraction_mul.B1 = true := by kernel_rfl
set_option maxHeartbeats 8000000 in
set_option maxRecDepth 100000 in
theorem checker_fraction_mul.calls (k : Nat) (a0_0 : Bool) (d0 : Option Addr) (d1 : Nat) (b7 : List Int) (d2 : Option Addr) (d3 : Nat) (b8 : List Int) (a1_0 : Bool) (d4 : Option Addr) (d5 : Nat) (b9 : List Int) (d6 : Option Addr) (d7 : Nat) (c4 : List Int) (r1 : Bool) (r2 : List Int) (r3 : List Int) (w : World) (d8 : Kd.C (Kd.int .u32) w d0 b7.length b7) (d9 : b7.length ≤ d1) (e1 : Kd.C (Kd.int .u32) w d2 b8.length b8) (e2 : b8.length ≤ d3) (e3 : Kd.C (Kd.int .u32) w d4 b9.length b9) (e4 : b9.length ≤ d5) (e5 : Kd.C (Kd.int .u32) w d6 c4.length c4) (e6 : c4.length ≤ d7) (h : checker_fraction_mul.f k a0_0 b7 b8 a1_0 b9 c4 = some (r1, r2, r3)) :
  Calls Tryz.prog 41 #[.agg #[.bool a0_0, .slice d0 b7.length d1, .slice d2 b8.length d3], .agg #[.bool a1_0, .slice d4 b9.length d5, .slice d6 c4.length d7]] w fun e w' => ∃ v1_ v2_ : Value, e = .returned (.agg #[.bool r1, v1_, v2_]) ∧ Kd.V (Kd.int .u32) 107 w' w.heap.size (fun k_ => (w.heap.size ≤ k_)) v1_ r2 ∧ Kd.V (Kd.int .u32) 107 w' w.heap.size (fun k_ => (w.heap.size ≤ k_)) v2_ r3 ∧ Below w.heap.size w w' := by
 have hu61 := Tryz.underlying61
 have f2 := mk0 d8
 have f3 := mk0 d9
 clear d8 d9
 have f4 := mk0 e1
 have f5 := mk0 e2
 clear e1 e2
 have f6 := mk0 e3
 have f7 := mk0 e4
 clear e3 e4
 have f8 := mk0 e5
 have f9 := mk0 e6
 clear e5 e6
 have HB := mk0 (Below.refl w.heap.size w)
 have H : ((checker_natural_mul.f k b7 b9).bind fun c7 => ((checker_natural_mul.f k b8 c4).bind fun c8 => ((checker_lowest.f k (!(a0_0 == a1_0)) c7 c8).bind fun c5 => (some (c5.1, c5.2.1, c5.2.2))))) = some (r1, r2, r3) := h
 clear h
 obtain ⟨c7, A3, H⟩ := bS H
 obtain ⟨c8, A4, H⟩ := bS H
 obtain ⟨⟨g0, g1, g2⟩, A5, H⟩ := bS H
 (try dsimp only at H)
 simp only [Option.some.injEq, Prod.mk.injEq] at H
 obtain ⟨rfl, rfl, rfl⟩ := H
 go_enter Tryz.func41, Tryz.ntmps41
 try go_wp2_with (first | (refine gd 2 ?_; refine box_event ?hg (N := 2) ?hd (cs := #[.bool a0_0, .slice d0 b7.length d1, .slice d2 b8.length d3]) (t := 61) ?hr ?_; (case hd => rfl); (case hg => rfl); (case hr => exact aH); intro b3 hg w6 hbox hb; have a9 := mk0 (hbox);have i7 := uG hg;have i8 := uG hg;replace HB := uW hb; clear hb hbox hg) | (refine gd 3 ?_; refine box_event ?hg (N := 3) ?hd (cs := #[.bool a1_0, .slice d4 b9.length d5, .slice d6 c4.length d7]) (t := 61) ?hr ?_; (case hd => rfl); (case hg => rfl); (case hr => exact aH); intro b4 hg w7 hbox hb; have b2 := mk0 (hbox);have i9 := uG hg;have j0 := uG hg;replace HB := uW hb;have f0 := uL a9 hg;have f1 := uM a9 hg;replace a9 := uB a9 hb; clear hb hbox hg) | (refine gd 4 ?_; refine box_event ?hg (N := 4) ?hd (cs := #[.bool false, .slice none 0 0, .slice none 0 0]) (t := 61) ?hr ?_; (case hd => rfl); (case hg => rfl); (case hr => exact aH); intro a8 hg w8 hbox hb; have b1 := mk0 (hbox);have j1 := uG hg;have j2 := uG hg;replace HB := uW hb;have a6 := uL a9 hg;have b5 := uM a9 hg;replace a9 := uB a9 hb;have a7 := uL b2 hg;have b6 := uM b2 hg;replace b2 := uB b2 hb; clear hb hbox hg))
 replace a9 := mk0 (blk_drew a9.out)
 replace b2 := mk0 (blk_drew b2.out)
 replace b1 := mk0 (blk_drew b1.out)
 replace HB := mk0 (below_drew1 HB.out)
 refine start_ (n := 17) (S := fun w' => w'.cell? ⟨b3, 0, none⟩ = some (.bool a0_0) ∧ w'.cell? ⟨b3, 1, none⟩ = some (.slice d0 b7.length d1) ∧ w'.cell? ⟨b3, 2, none⟩ = some (.slice d2 b8.length d3) ∧ w'.cell? ⟨b4, 0, none⟩ = some (.bool a1_0) ∧ w'.cell? ⟨b4, 1, none⟩ = some (.slice d4 b9.length d5) ∧ w'.cell? ⟨b4, 2, none⟩ = some (.slice d6 c4.length d7)) (ds := []) #[false, false, false, false, false, false, false, false, false, false, false, false, false, false, false, false, false] (by kernel_rfl) rfl rfl cS (fun b0 => ?_); refine with_tabW checker_fraction_mul.tab1 checker_fraction_mul.bits1 (fun HT_ HW_ => ?_)
 generalize w8.drew = w9 at a9 b2 b1 HB b0 ⊢
 refine pu 0 5 HT_ ?_
 refine pu 2 7 HT_ ?_
 refine pu 5 10 HT_ ?_
 refine pu 7 12 HT_ ?_
 refine pu 10 15 HT_ ?_
 refine pu 12 17 HT_ ?_
 refine tk 1 6 HT_ HW_ b0 ?_
 refine tk 3 8 HT_ HW_ b0 ?_
 refine pu 4 9 HT_ ?_
 refine tk 6 11 HT_ HW_ b0 ?_
 refine tk 8 13 HT_ HW_ b0 ?_
 refine tk 11 16 HT_ HW_ b0 ?_
 refine tk 13 18 HT_ HW_ b0 ?_
 refine oN 9 14 HT_ (fun K hK => ?_)
 refine gz Tryz.func43 #[.slice d0 b7.length d1, .slice d4 b9.length d5] ?_
 with_reducible refine (checker_natural_mul.calls k _ _ b7 _ _ b9 c7 _ ?side1 ?side2 ?side3 ?side4 A3.out).mono ?_
 (case side1 => exact pC (Kd.C_below f2.out HB.out))
 (case side2 => exact f3.out)
 (case side3 => exact pC (Kd.C_below f6.out HB.out))
 (case side4 => exact f7.out)
 rintro e j8 ⟨j4, rfl, e7, hb⟩
 refine ⟨_, rfl, ?_⟩
 have c6 := lV (ok' := fun k_ => (w.heap.size ≤ k_) ∧ k_ ≠ b3 ∧ k_ ≠ b4 ∧ k_ ≠ a8) e7
 replace a9 := uB a9 hb
 replace b2 := uB b2 hb
 replace b1 := uB b1 hb
 replace HB := uW hb
 (try clear hb)
 (try clear hb2)
 (try clear hk)
 (try clear hi)
 (try clear e7)
 refine hK.out _ _ cS (fun b0 => ?_)
 clear hK K
 refine norm_ (a' := ?_) ?_ ?_
 rotate_left
 ·
  show Act.put _ (some 14) _ = _
  exact aP
 refine oN 14 19 HT_ (fun K hK => ?_)
 refine gz Tryz.func43 #[.slice d2 b8.length d3, .slice d6 c4.length d7] ?_
 with_reducible refine (checker_natural_mul.calls k _ _ b8 _ _ c4 c8 _ ?side1 ?side2 ?side3 ?side4 A4.out).mono ?_
 (case side1 => exact pC (Kd.C_below f4.out HB.out))
 (case side2 => exact f5.out)
 (case side3 => exact pC (Kd.C_below f8.out HB.out))
 (case side4 => exact f9.out)
 rintro e j9 ⟨j5, rfl, e7, hb⟩
 refine ⟨_, rfl, ?_⟩
 replace c6 := uV c6 hb
 have c9 := lV (ok' := fun k_ => (w.heap.size ≤ k_) ∧ k_ ≠ b3 ∧ k_ ≠ b4 ∧ k_ ≠ a8) e7
 replace a9 := uB a9 hb
 replace b2 := uB b2 hb
 replace b1 := uB b1 hb
 replace HB := uW hb
 (try clear hb)
 (try clear hb2)
 (try clear hk)
 (try clear hi)
 (try clear e7)
 obtain ⟨g7, g8, g3⟩ := Kd.V_slice c6.out
 (first | subst g3 | (injection g3 with f1_ f2_ f3_; have f4_ := f1_.symm; have f5_ := f3_.symm; clear f1_ f2_ f3_; subst f4_; subst f5_))
 obtain ⟨g9, i1, g4⟩ := Kd.V_slice c9.out
 (first | subst g4 | (injection g4 with f1_ f2_ f3_; have f4_ := f1_.symm; have f5_ := f3_.symm; clear f1_ f2_ f3_; subst f4_; subst f5_))
 refine hK.out _ _ cS (fun b0 => ?_)
 clear hK K
 refine norm_ (a' := ?_) ?_ ?_
 rotate_left
 ·
  show Act.put _ (some 19) _ = _
  exact aP
 refine oN 15 20 HT_ (fun K hK => ?_)
 refine gz Tryz.func44 #[.bool (!(a0_0 == a1_0)), .slice g7 c7.length g8, .slice g9 c8.length i1] ?_
 with_reducible refine (checker_lowest.calls k (!(a0_0 == a1_0)) (fun k_ => ((w.heap.size ≤ k_) ∧ (k_ ≠ b3 ∧ (k_ ≠ b4 ∧ k_ ≠ a8)))) _ _ c7 (fun k_ => ((w.heap.size ≤ k_) ∧ (k_ ≠ b3 ∧ (k_ ≠ b4 ∧ k_ ≠ a8)))) _ _ c8 g0 g1 g2 _ ?side1 ?side2 A5.out).mono ?_
 (case side1 => exact Kd.V_mono (Go.Proofs.YtbgmfgndldnmcaaGreatDoorMyWords.V_base (c6.out)) (fun k_ hk => by first | exact hk | (simp only [hk, ne_eq, not_false_eq_true, and_self]; done)))
 (case side2 => exact Kd.V_mono (Go.Proofs.YtbgmfgndldnmcaaGreatDoorMyWords.V_base (c9.out)) (fun k_ hk => by first | exact hk | (simp only [hk, ne_eq, not_false_eq_true, and_self]; done)))
 rintro e i2 ⟨j6, j7, rfl, e7, j3, hb⟩
 refine ⟨_, rfl, ?_⟩
 replace c6 := uV c6 hb
 replace c9 := uV c9 hb
 have e8 := lV (ok' := fun k_ => (w.heap.size ≤ k_) ∧ k_ ≠ b3 ∧ k_ ≠ b4 ∧ k_ ≠ a8) e7
 have e9 := lV (ok' := fun k_ => (w.heap.size ≤ k_) ∧ k_ ≠ b3 ∧ k_ ≠ b4 ∧ k_ ≠ a8) j3
 replace a9 := uB a9 hb
 replace b2 := uB b2 hb
 replace b1 := uB b1 hb
 replace HB := uW hb
 (try clear hb)
 (try clear hb2)
 (try clear hk)
 (try clear hi)
 (try clear e7)
 (try clear j3)
 obtain ⟨i3, i4, g5⟩ := Kd.V_slice e8.out
 (first | subst g5 | (injection g5 with f1_ f2_ f3_; have f4_ := f1_.symm; have f5_ := f3_.symm; clear f1_ f2_ f3_; subst f4_; subst f5_))
 obtain ⟨i5, i6, g6⟩ := Kd.V_slice e9.out
 (first | subst g6 | (injection g6 with f1_ f2_ f3_; have f4_ := f1_.symm; have f5_ := f3_.symm; clear f1_ f2_ f3_; subst f4_; subst f5_))
 refine hK.out _ _ cS (fun b0 => ?_)
 clear hK K
 refine norm_ (a' := ?_) ?_ ?_
 rotate_left
 ·
  show Act.put _ (some 20) _ = _
  exact aP
 refine one_ (i := 16) (N := none) #[true, true, true, true, true, true, true, true, true, true, true, true, true, true, true, true, true] rfl rfl (one_of HT_.out (by kernel_rfl)) (by decide) (fun K hK => ?_)
 have hs15 : i2.cell? ⟨a8, 0, none⟩ = some (.bool false) := (blk_cell b1.out 0).trans rfl
 have hfs15 := blk_frozen b1.out 0
 have hns15_0 := a6.out
 have hns15_1 := a7.out
 have hms15_0 := b5.out
 have hms15_1 := b6.out
 have hs17 : i2.cell? ⟨a8, 1, none⟩ = some (.slice none 0 0) := (blk_cell b1.out 1).trans rfl
 have hfs17 := blk_frozen b1.out 1
 have hns17_0 := a6.out
 have hns17_1 := a7.out
 have hms17_0 := b5.out
 have hms17_1 := b6.out
 have hs19 : i2.cell? ⟨a8, 2, none⟩ = some (.slice none 0 0) := (blk_cell b1.out 2).trans rfl
 have hfs19 := blk_frozen b1.out 2
 have hns19_0 := a6.out
 have hns19_1 := a7.out
 have hms19_0 := b5.out
 have hms19_1 := b6.out
 refine skip_ (w1 := ?_) (by rfl) rfl ?_ ?_
 rotate_left
 ·
  go_simp
  rfl
 refine hK.out _ _ ⟨((cell_far (p := ⟨a8, _, none⟩) a6.out _).trans (((cell_far (p := ⟨a8, _, none⟩) a6.out _).trans (((cell_far (p := ⟨a8, _, none⟩) a6.out _).trans (b0.1)))))), ((cell_far (p := ⟨a8, _, none⟩) a6.out _).trans (((cell_far (p := ⟨a8, _, none⟩) a6.out _).trans (((cell_far (p := ⟨a8, _, none⟩) a6.out _).trans (b0.2.1)))))), ((cell_far (p := ⟨a8, _, none⟩) a6.out _).trans (((cell_far (p := ⟨a8, _, none⟩) a6.out _).trans (((cell_far (p := ⟨a8, _, none⟩) a6.out _).trans (b0.2.2.1)))))), ((cell_far (p := ⟨a8, _, none⟩) a7.out _).trans (((cell_far (p := ⟨a8, _, none⟩) a7.out _).trans (((cell_far (p := ⟨a8, _, none⟩) a7.out _).trans (b0.2.2.2.1)))))), ((cell_far (p := ⟨a8, _, none⟩) a7.out _).trans (((cell_far (p := ⟨a8, _, none⟩) a7.out _).trans (((cell_far (p := ⟨a8, _, none⟩) a7.out _).trans (b0.2.2.2.2.1)))))), ((cell_far (p := ⟨a8, _, none⟩) a7.out _).trans (((cell_far (p := ⟨a8, _, none⟩) a7.out _).trans (((cell_far (p := ⟨a8, _, none⟩) a7.out _).trans (b0.2.2.2.2.2))))))⟩ (fun b0 => ?_)
 clear hK K
 refine done_ (done_of HT_.out (by kernel_rfl)) ?_
 try go_wp2
 refine bodyPost_ret (results_cell_row rfl _ _ a8 61 #[.bool g0, .slice i3 g1.length i4, .slice i5 g2.length i6] (0, 0) _ rfl sB Tryz.underlying61 rfl (by kernel_rfl)) rfl ?_
 exact ⟨_, _, by first | rfl | (simp [*] <;> rfl), sV e8.out, sV e9.out, aB⟩
end Go.Proofs.YtbgmfgndldnmcaaGreatDoor.PCheckerNever
