/- Functions of the program as plain Lean functions, with proved contracts; printed by programs of this session. -/
import Derived.Test.YtfhlmmmhcpkjnaaGreatDoorPc
namespace Go.Proofs.YtfhlmmmhcpkjnaaGreatDoor.PCheckerNumbers
open Go.RowKit Go.Proofs.YtfhlmmmhcpkjnaaGreatDoorW.PrintWords Go.Proofs.YtfhlmmmhcpkjnaaGreatDoorW.PrintLast Go.Proofs.YtfhlmmmhcpkjnaaGreatDoorW.PrintMore Go.Proofs.YtfhlmmmhcpkjnaaGreatDoorW.Q
attribute [local go_sem] max2_int max_two
set_option linter.unusedVariables false
set_option linter.unusedSimpArgs false
mutual
def klipperef01_carry.l0 : Nat → List Int → List Int → Int → Int → Option (List Int)
 | 0, _, _, _, _ => none
 | k + 1, x0, x3, x4, x5 => if x5 < (x0.length : Int) then (klipperef01_carry.j1 k x0 x3 x4 x5 true) else (klipperef01_carry.j1 k x0 x3 x4 x5 (x4 != 0))
def klipperef01_carry.j1 : Nat → List Int → List Int → Int → Int → Bool → Option (List Int)
 | 0, _, _, _, _, _ => none
 | k + 1, x0, x3, x4, x5, x14 => if x14 = true then (if x5 < (x0.length : Int) then (if 0 ≤ x5 then (if (Int.tmod (wrap64 (x4 + (rd x0 x5))) 10000) < 0 then (if x3.length < 17592186044416 then (klipperef01_carry.l0 k x0 (x3 ++ [wrap64 ((Int.tmod (wrap64 (x4 + (rd x0 x5))) 10000) + 10000)]) (wrap64 (Int.tdiv (wrap64 ((wrap64 (x4 + (rd x0 x5))) - (wrap64 ((Int.tmod (wrap64 (x4 + (rd x0 x5))) 10000) + 10000)))) 10000)) (wrap64 (x5 + 1))) else (none)) else (if x3.length < 17592186044416 then (klipperef01_carry.l0 k x0 (x3 ++ [Int.tmod (wrap64 (x4 + (rd x0 x5))) 10000]) (wrap64 (Int.tdiv (wrap64 ((wrap64 (x4 + (rd x0 x5))) - (Int.tmod (wrap64 (x4 + (rd x0 x5))) 10000))) 10000)) (wrap64 (x5 + 1))) else (none))) else (none)) else (if (Int.tmod x4 10000) < 0 then (if x3.length < 17592186044416 then (klipperef01_carry.l0 k x0 (x3 ++ [wrap64 ((Int.tmod x4 10000) + 10000)]) (wrap64 (Int.tdiv (wrap64 (x4 - (wrap64 ((Int.tmod x4 10000) + 10000)))) 10000)) (wrap64 (x5 + 1))) else (none)) else (if x3.length < 17592186044416 then (klipperef01_carry.l0 k x0 (x3 ++ [Int.tmod x4 10000]) (wrap64 (Int.tdiv (wrap64 (x4 - (Int.tmod x4 10000))) 10000)) (wrap64 (x5 + 1))) else (none)))) else ((klipperef01_cut.f k x3).bind fun b0 => (some b0))
end
def klipperef01_carry.f (k : Nat) (l0 : List Int) : Option (List Int) := klipperef01_carry.l0 k l0 ([] : List Int) 0 0
theorem klipperef01_carry.mono_l : ∀ k, (∀ y0 y1 y2 y3, LeO (klipperef01_carry.l0 k y0 y1 y2 y3) (klipperef01_carry.l0 (k + 1) y0 y1 y2 y3)) ∧ (∀ y0 y1 y2 y3 y4, LeO (klipperef01_carry.j1 k y0 y1 y2 y3 y4) (klipperef01_carry.j1 (k + 1) y0 y1 y2 y3 y4))
 | 0 => ⟨fun _ _ _ _ r h => by simp [klipperef01_carry.l0] at h, fun _ _ _ _ _ r h => by simp [klipperef01_carry.j1] at h⟩
 | k + 1 => by
  obtain ⟨ih0, ih1⟩ := klipperef01_carry.mono_l k
  refine ⟨?_, ?_⟩
  ·
   intro y0 y1 y2 y3
   unfold klipperef01_carry.l0
   repeat' first | (with_reducible first | exact ih0 .. | exact ih1 .. | exact klipperef01_cut.mono .. | exact LeO.refl _ | exact LeO.none _ | refine LeO.ite ?_ ?_ | refine LeO.bind ?_ (fun _ => ?_))
  ·
   intro y0 y1 y2 y3 y4
   unfold klipperef01_carry.j1
   repeat' first | (with_reducible first | exact ih0 .. | exact ih1 .. | exact klipperef01_cut.mono .. | exact LeO.refl _ | exact LeO.none _ | refine LeO.ite ?_ ?_ | refine LeO.bind ?_ (fun _ => ?_))
theorem klipperef01_carry.mono : ∀ a0 k, LeO (klipperef01_carry.f k a0) (klipperef01_carry.f (k + 1) a0) := by
 intro a0 k
 obtain ⟨ih0, ih1⟩ := klipperef01_carry.mono_l k
 unfold klipperef01_carry.f
 repeat' first | (with_reducible first | exact ih0 .. | exact ih1 .. | exact klipperef01_cut.mono .. | exact LeO.refl _ | exact LeO.none _ | refine LeO.ite ?_ ?_ | refine LeO.bind ?_ (fun _ => ?_))
set_option maxHeartbeats 8000000 in
set_option maxRecDepth 100000 in
theorem klipperef01_carry.calls (k : Nat) (A0 : Option Addr) (c0 : Nat) (l0 : List Int) (r : List Int) (w : World) (hr0 : Kd.C (Kd.int .i64) w A0 l0.length l0) (hc0 : l0.length ≤ c0) (h : klipperef01_carry.f k l0 = some r) :
  Calls Tryz.prog 117 #[.slice A0 l0.length c0] w fun e w' => ∃ v0_ : Value, e = .returned (v0_) ∧ Kd.V (Kd.int .i64) 3 w' w.heap.size (fun k_ => (w.heap.size ≤ k_)) v0_ r ∧ Below w.heap.size w w' := by
 have HR0 := mk0 hr0
 have f5 := mk0 hc0
 clear hr0 hc0
 have HB := mk0 (Below.refl w.heap.size w)
 have H : (klipperef01_carry.l0 k l0 ([] : List Int) 0 0) = some r := h
 clear h
 have H' := mk0 H
 clear H
 go_enter Tryz.func117, Tryz.ntmps117
 go_wp2
 go_loopg [3, 4, 5] k (fun kq v3 v4 v5 w' => ∃ (a3 : List Int) (a2 : Int) (a1 : Int), v4 = .int .i64 a2 ∧ v5 = .int .i64 a1 ∧ Aside0 (klipperef01_carry.l0 kq l0 a3 a2 a1 = some r) ∧ Aside0 (kq ≤ k) ∧ Aside0 (Kd.R (Kd.int .i64) 3 w' w.heap.size (fun k_ => (w.heap.size ≤ k_)) v3 a3) ∧ Aside0 (Below w.heap.size w w'))
 case atStart => exact ⟨(([] : List Int)), (0), (0), (by first | rfl | simp [*]), (by first | rfl | simp [*]), H', ⟨Nat.le_refl _⟩, ⟨by first | exact Kd.R_nil _ _ _ _ _ | exact Kd.N_nil _ _ _ _ _ | exact Kd.V_nil _ _ _ _ _ | exact Kd.Q_nil _ _ _ _ _ | exact Kd.S_nil _ _ _ _ _⟩, ⟨aB⟩⟩
 case round =>
  clear H'
  try clear c1
  obtain ⟨a3, a2, a1, rfl, rfl, HA, HK1, a5, HB⟩ := hrel
  cases gk with
  | zero => exact absurd HA.out (by simp [klipperef01_carry.l0])
  | succ k1 =>
   have H := HA.out
   clear HA
   simp only [klipperef01_carry.l0] at H
   have e2 := mk0 H
   clear H
   go_upto_region 4 with (fail)
   go_cut [14] (fun e8 wc => ∃ (kq : Nat) (a8 : Bool), e8 = .bool a8 ∧ Aside0 (klipperef01_carry.j1 kq l0 a3 a2 a1 a8 = some r) ∧ Aside0 (kq ≤ k1) ∧ Aside0 (Kd.R (Kd.int .i64) 3 wc w.heap.size (fun k_ => (w.heap.size ≤ k_)) u3 a3) ∧ Aside0 (Below w.heap.size w wc))
   case first =>
    have H := e2.out
    clear e2
    by_cases c3 : a1 < (l0.length : Int)
    ·
     rw [if_pos c3] at H
     have a9 : decide (a1 < (l0.length : Int)) = true := decide_eq_true c3
     clear c3
     (first | rw [a9] | rw [b2] | (simp only [i64_w, i32_w]; rw [a9]) | skip)
     have H' := mk0 H
     clear H
     go_wp2
     go_meet
     case rel => exact ⟨_, (true), (by first | rfl | simp [*]), H', ⟨by have := HK1.out; omega⟩, ⟨pR a5.out⟩, ⟨aB⟩⟩
    ·
     rw [if_neg c3] at H
     have a9 : decide (a1 < (l0.length : Int)) = false := decide_eq_false c3
     clear c3
     (first | rw [a9] | rw [b2] | (simp only [i64_w, i32_w]; rw [a9]) | skip)
     have H' := mk0 H
     clear H
     go_wp2
     go_meet
     case rel => exact ⟨_, ((a2 != 0)), (by first | rfl | simp [*]), H', ⟨by have := HK1.out; omega⟩, ⟨pR a5.out⟩, ⟨aB⟩⟩
   case rest =>
    clear e2
    try clear c1
    try clear p2
    try clear c3
    try clear a9
    try clear b2
    obtain ⟨kq, a8, rfl, HA, HJ1, a5, HB⟩ := hcut
    cases kq with
    | zero => exact absurd HA.out (by simp [klipperef01_carry.j1])
    | succ kj1 =>
     have H := HA.out
     clear HA
     simp only [klipperef01_carry.j1] at H
     by_cases c4 : a8 = true
     ·
      subst c4
      have H1 : (if a1 < (l0.length : Int) then (if 0 ≤ a1 then (if (Int.tmod (wrap64 (a2 + (rd l0 a1))) 10000) < 0 then (if a3.length < 17592186044416 then (klipperef01_carry.l0 kj1 l0 (a3 ++ [wrap64 ((Int.tmod (wrap64 (a2 + (rd l0 a1))) 10000) + 10000)]) (wrap64 (Int.tdiv (wrap64 ((wrap64 (a2 + (rd l0 a1))) - (wrap64 ((Int.tmod (wrap64 (a2 + (rd l0 a1))) 10000) + 10000)))) 10000)) (wrap64 (a1 + 1))) else (none)) else (if a3.length < 17592186044416 then (klipperef01_carry.l0 kj1 l0 (a3 ++ [Int.tmod (wrap64 (a2 + (rd l0 a1))) 10000]) (wrap64 (Int.tdiv (wrap64 ((wrap64 (a2 + (rd l0 a1))) - (Int.tmod (wrap64 (a2 + (rd l0 a1))) 10000))) 10000)) (wrap64 (a1 + 1))) else (none))) else (none)) else (if (Int.tmod a2 10000) < 0 then (if a3.length < 17592186044416 then (klipperef01_carry.l0 kj1 l0 (a3 ++ [wrap64 ((Int.tmod a2 10000) + 10000)]) (wrap64 (Int.tdiv (wrap64 (a2 - (wrap64 ((Int.tmod a2 10000) + 10000)))) 10000)) (wrap64 (a1 + 1))) else (none)) else (if a3.length < 17592186044416 then (klipperef01_carry.l0 kj1 l0 (a3 ++ [Int.tmod a2 10000]) (wrap64 (Int.tdiv (wrap64 (a2 - (Int.tmod a2 10000))) 10000)) (wrap64 (a1 + 1))) else (none)))) = some r := by rw [if_pos rfl] at H; exact H
      clear H
      have H := H1
      clear H1
      by_cases c5 : a1 < (l0.length : Int)
      ·
       rw [if_pos c5] at H
       have e3 : decide (a1 < (l0.length : Int)) = true := decide_eq_true c5
       clear c5
       by_cases c6 : 0 ≤ a1
       ·
        rw [if_pos c6] at H
        have e9 : decide (0 ≤ a1) = true := decide_eq_true c6
        clear c6
        by_cases c7 : (Int.tmod (wrap64 (a2 + (rd l0 a1))) 10000) < 0
        ·
         rw [if_pos c7] at H
         have e4 : decide ((Int.tmod (wrap64 (a2 + (rd l0 a1))) 10000) < 0) = true := decide_eq_true c7
         clear c7
         by_cases c8 : a3.length < 17592186044416
         ·
          rw [if_pos c8] at H
          have e5 := mk0 c8
          clear c8
          obtain ⟨b3, hy644⟩ : ∃ y_ : List Int, y_ = (a3 ++ [wrap64 ((Int.tmod (wrap64 (a2 + (rd l0 a1))) 10000) + 10000)]) := ⟨_, rfl⟩
          replace H : (klipperef01_carry.l0 kj1 l0 b3 (wrap64 (Int.tdiv (wrap64 ((wrap64 (a2 + (rd l0 a1))) - (wrap64 ((Int.tmod (wrap64 (a2 + (rd l0 a1))) 10000) + 10000)))) 10000)) (wrap64 (a1 + 1))) = some r := by first | (rw [hy644]; exact H) | (rw [hy644]; exact (Option.bind_some _ _).symm.trans H) | exact (Option.bind_some _ _).symm.trans H
          have Ny644 := mk0 hy644
          clear hy644
          have H' := mk0 H
          clear H
          have a6 : 0 ≤ (a1 : Int) := aD
          have a7 : a1 < (l0.length : Int) := aD
          obtain ⟨b4, e643, a4⟩ := Kd.at_int HR0.out a1 a6 a7
          cases e643
          replace a4 := (HB.out.cell (World.block_lt_of_cell? w _ a4)).trans a4
          replace a6 := eq_true a6
          replace a7 := eq_true a7
          go_wp2_with (first | ((with_reducible refine gate_builtin (b := .append) (xs := #[.tmp 33, .tmp 35]) rfl ?_); at_builtin; refine Kd.R_append (Kd.int .i64) (w0 := w) w.heap.size rfl (.tmp 33) (.tmp 35) 35 3 (.int .i64 0) 8 rfl Tryz.underlying35 info3 rfl (by decide) (by omega) u3 a3 (wrap64 ((Int.tmod (wrap64 (a2 + (rd l0 a1))) 10000) + 10000)) [.int .i64 (wrap64 ((Int.tmod (wrap64 (a2 + (rd l0 a1))) 10000) + 10000))] (fun k_ => (w.heap.size ≤ k_)) (fun _ => False) rfl rfl ?aP (fun _ hk => hk.elim) ?aF ?aO ?aB ?aS ?aL ?_; (case aP => exact rfl); (case aB => exact (aB)); (case aF => exact (fun k_ hk => (Nat.le_trans (below_size (aB)) hk))); (case aO => exact (pR a5.out)); (case aS => exact (below_size (aB))); (case aL => have := e5.out; omega); intro f0 w9 ho hb hg hat; rw [← Ny644.out] at ho; replace HB := mk0 (hb);have b5 := mk0 (ho);clear a5; clear ho hb hg hat))
          go_roundg kj1
          case measure => have := HK1.out; have := HJ1.out; omega
          case rel => exact ⟨(b3), (wrap64 (Int.tdiv (wrap64 ((wrap64 (a2 + (rd l0 a1))) - (wrap64 ((Int.tmod (wrap64 (a2 + (rd l0 a1))) 10000) + 10000)))) 10000)), (wrap64 (a1 + 1)), (by first | rfl | simp [*]), (by first | rfl | simp [*]), H', ⟨by have := HK1.out; have := HJ1.out; omega⟩, ⟨pR b5.out⟩, ⟨aB⟩⟩
         ·
          rw [if_neg c8] at H
          exact absurd H (by simp)
        ·
         rw [if_neg c7] at H
         have e4 : decide ((Int.tmod (wrap64 (a2 + (rd l0 a1))) 10000) < 0) = false := decide_eq_false c7
         clear c7
         by_cases d8 : a3.length < 17592186044416
         ·
          rw [if_pos d8] at H
          have b6 := mk0 d8
          clear d8
          obtain ⟨b7, hy647⟩ : ∃ y_ : List Int, y_ = (a3 ++ [Int.tmod (wrap64 (a2 + (rd l0 a1))) 10000]) := ⟨_, rfl⟩
          replace H : (klipperef01_carry.l0 kj1 l0 b7 (wrap64 (Int.tdiv (wrap64 ((wrap64 (a2 + (rd l0 a1))) - (Int.tmod (wrap64 (a2 + (rd l0 a1))) 10000))) 10000)) (wrap64 (a1 + 1))) = some r := by first | (rw [hy647]; exact H) | (rw [hy647]; exact (Option.bind_some _ _).symm.trans H) | exact (Option.bind_some _ _).symm.trans H
          have Ny647 := mk0 hy647
          clear hy647
          have H' := mk0 H
          clear H
          have a6 : 0 ≤ (a1 : Int) := aD
          have a7 : a1 < (l0.length : Int) := aD
          obtain ⟨b4, e643, a4⟩ := Kd.at_int HR0.out a1 a6 a7
          cases e643
          replace a4 := (HB.out.cell (World.block_lt_of_cell? w _ a4)).trans a4
          replace a6 := eq_true a6
          replace a7 := eq_true a7
          go_wp2_with (first | ((with_reducible refine gate_builtin (b := .append) (xs := #[.tmp 33, .tmp 35]) rfl ?_); at_builtin; refine Kd.R_append (Kd.int .i64) (w0 := w) w.heap.size rfl (.tmp 33) (.tmp 35) 35 3 (.int .i64 0) 8 rfl Tryz.underlying35 info3 rfl (by decide) (by omega) u3 a3 (Int.tmod (wrap64 (a2 + (rd l0 a1))) 10000) [.int .i64 (Int.tmod (wrap64 (a2 + (rd l0 a1))) 10000)] (fun k_ => (w.heap.size ≤ k_)) (fun _ => False) rfl rfl ?aP (fun _ hk => hk.elim) ?aF ?aO ?aB ?aS ?aL ?_; (case aP => exact rfl); (case aB => exact (aB)); (case aF => exact (fun k_ hk => (Nat.le_trans (below_size (aB)) hk))); (case aO => exact (pR a5.out)); (case aS => exact (below_size (aB))); (case aL => have := b6.out; omega); intro f1 f6 ho hb hg hat; rw [← Ny647.out] at ho; replace HB := mk0 (hb);have b8 := mk0 (ho);clear a5; clear ho hb hg hat))
          go_roundg kj1
          case measure => have := HK1.out; have := HJ1.out; omega
          case rel => exact ⟨(b7), (wrap64 (Int.tdiv (wrap64 ((wrap64 (a2 + (rd l0 a1))) - (Int.tmod (wrap64 (a2 + (rd l0 a1))) 10000))) 10000)), (wrap64 (a1 + 1)), (by first | rfl | simp [*]), (by first | rfl | simp [*]), H', ⟨by have := HK1.out; have := HJ1.out; omega⟩, ⟨pR b8.out⟩, ⟨aB⟩⟩
         ·
          rw [if_neg d8] at H
          exact absurd H (by simp)
       ·
        rw [if_neg c6] at H
        exact absurd H (by simp)
      ·
       rw [if_neg c5] at H
       have e3 : decide (a1 < (l0.length : Int)) = false := decide_eq_false c5
       clear c5
       by_cases b1 : (Int.tmod a2 10000) < 0
       ·
        rw [if_pos b1] at H
        have b9 : decide ((Int.tmod a2 10000) < 0) = true := decide_eq_true b1
        clear b1
        by_cases d9 : a3.length < 17592186044416
        ·
         rw [if_pos d9] at H
         have c9 := mk0 d9
         clear d9
         obtain ⟨d0, hy650⟩ : ∃ y_ : List Int, y_ = (a3 ++ [wrap64 ((Int.tmod a2 10000) + 10000)]) := ⟨_, rfl⟩
         replace H : (klipperef01_carry.l0 kj1 l0 d0 (wrap64 (Int.tdiv (wrap64 (a2 - (wrap64 ((Int.tmod a2 10000) + 10000)))) 10000)) (wrap64 (a1 + 1))) = some r := by first | (rw [hy650]; exact H) | (rw [hy650]; exact (Option.bind_some _ _).symm.trans H) | exact (Option.bind_some _ _).symm.trans H
         have Ny650 := mk0 hy650
         clear hy650
         have H' := mk0 H
         clear H
         go_wp2_with (first | ((with_reducible refine gate_builtin (b := .append) (xs := #[.tmp 33, .tmp 35]) rfl ?_); at_builtin; refine Kd.R_append (Kd.int .i64) (w0 := w) w.heap.size rfl (.tmp 33) (.tmp 35) 35 3 (.int .i64 0) 8 rfl Tryz.underlying35 info3 rfl (by decide) (by omega) u3 a3 (wrap64 ((Int.tmod a2 10000) + 10000)) [.int .i64 (wrap64 ((Int.tmod a2 10000) + 10000))] (fun k_ => (w.heap.size ≤ k_)) (fun _ => False) rfl rfl ?aP (fun _ hk => hk.elim) ?aF ?aO ?aB ?aS ?aL ?_; (case aP => exact rfl); (case aB => exact (aB)); (case aF => exact (fun k_ hk => (Nat.le_trans (below_size (aB)) hk))); (case aO => exact (pR a5.out)); (case aS => exact (below_size (aB))); (case aL => have := c9.out; omega); intro f2 f7 ho hb hg hat; rw [← Ny650.out] at ho; replace HB := mk0 (hb);have d1 := mk0 (ho);clear a5; clear ho hb hg hat))
         go_roundg kj1
         case measure => have := HK1.out; have := HJ1.out; omega
         case rel => exact ⟨(d0), (wrap64 (Int.tdiv (wrap64 (a2 - (wrap64 ((Int.tmod a2 10000) + 10000)))) 10000)), (wrap64 (a1 + 1)), (by first | rfl | simp [*]), (by first | rfl | simp [*]), H', ⟨by have := HK1.out; have := HJ1.out; omega⟩, ⟨pR d1.out⟩, ⟨aB⟩⟩
        ·
         rw [if_neg d9] at H
         exact absurd H (by simp)
       ·
        rw [if_neg b1] at H
        have b9 : decide ((Int.tmod a2 10000) < 0) = false := decide_eq_false b1
        clear b1
        by_cases e1 : a3.length < 17592186044416
        ·
         rw [if_pos e1] at H
         have d2 := mk0 e1
         clear e1
         obtain ⟨d3, hy653⟩ : ∃ y_ : List Int, y_ = (a3 ++ [Int.tmod a2 10000]) := ⟨_, rfl⟩
         replace H : (klipperef01_carry.l0 kj1 l0 d3 (wrap64 (Int.tdiv (wrap64 (a2 - (Int.tmod a2 10000))) 10000)) (wrap64 (a1 + 1))) = some r := by first | (rw [hy653]; exact H) | (rw [hy653]; exact (Option.bind_some _ _).symm.trans H) | exact (Option.bind_some _ _).symm.trans H
         have Ny653 := mk0 hy653
         clear hy653
         have H' := mk0 H
         clear H
         go_wp2_with (first | ((with_reducible refine gate_builtin (b := .append) (xs := #[.tmp 33, .tmp 35]) rfl ?_); at_builtin; refine Kd.R_append (Kd.int .i64) (w0 := w) w.heap.size rfl (.tmp 33) (.tmp 35) 35 3 (.int .i64 0) 8 rfl Tryz.underlying35 info3 rfl (by decide) (by omega) u3 a3 (Int.tmod a2 10000) [.int .i64 (Int.tmod a2 10000)] (fun k_ => (w.heap.size ≤ k_)) (fun _ => False) rfl rfl ?aP (fun _ hk => hk.elim) ?aF ?aO ?aB ?aS ?aL ?_; (case aP => exact rfl); (case aB => exact (aB)); (case aF => exact (fun k_ hk => (Nat.le_trans (below_size (aB)) hk))); (case aO => exact (pR a5.out)); (case aS => exact (below_size (aB))); (case aL => have := d2.out; omega); intro f3 f8 ho hb hg hat; rw [← Ny653.out] at ho; replace HB := mk0 (hb);have d4 := mk0 (ho);clear a5; clear ho hb hg hat))
         go_roundg kj1
         case measure => have := HK1.out; have := HJ1.out; omega
         case rel => exact ⟨(d3), (wrap64 (Int.tdiv (wrap64 (a2 - (Int.tmod a2 10000))) 10000)), (wrap64 (a1 + 1)), (by first | rfl | simp [*]), (by first | rfl | simp [*]), H', ⟨by have := HK1.out; have := HJ1.out; omega⟩, ⟨pR d4.out⟩, ⟨aB⟩⟩
        ·
         rw [if_neg e1] at H
         exact absurd H (by simp)
     ·
      replace c4 := Bool.eq_false_iff.mpr c4
      subst c4
      have H1 : ((klipperef01_cut.f kj1 a3).bind fun b0 => (some b0)) = some r := by rw [if_neg (show ¬ (false = true) by decide)] at H; exact H
      clear H
      have H := H1
      clear H1
      obtain ⟨b0, A17, H⟩ := bS H
      obtain rfl := Option.some.inj H
      obtain ⟨d5, d6, e6⟩ := Kd.R_slice a5.out
      subst e6
      go_wp2_with (first | (refine gc 116 ?_; refine gl 42 Tryz.func116 #[.slice d5 a3.length d6] ?_; (with_reducible refine (klipperef01_cut.calls kj1 (fun k_ => some k_ = (.slice d5 a3.length d6 : Value).ownBlock) _ _ a3 b0 _ ?side1 A17.out).mono ?_); (case side1 => exact Kd.R_V (Kd.R_tight rfl (a5.out))); rintro e f9 ⟨f4, rfl, e7, hb⟩; refine ⟨_, rfl, ?_⟩; have d7 := lV (ok' := fun k_ => (w.heap.size ≤ k_)) e7;replace a5 := uR a5 hb;replace HB := uW hb; (try clear hb); (try clear e7)))
      go_ret
      exact ⟨_, by first | rfl | (simp [*] <;> rfl), pV d7.out, aB⟩
mutual
def klipperef01_joined.l0 : Nat → List Int → Int → Int → List Int → Int → Option (List Int)
 | 0, _, _, _, _, _ => none
 | k + 1, x1, x2, x3, x9, x10 => if x10 < (x1.length : Int) then (klipperef01_joined.l1 k x1 x2 x3 x9 x10) else ((klipperef01_carry.f k x9).bind fun b4 => (some b4))
def klipperef01_joined.l1 : Nat → List Int → Int → Int → List Int → Int → Option (List Int)
 | 0, _, _, _, _, _ => none
 | k + 1, x1, x2, x3, x9, x10 => if (x9.length : Int) ≤ (wrap64 (x10 + x3)) then (if x9.length < 17592186044416 then (klipperef01_joined.l1 k x1 x2 x3 (x9 ++ [0]) x10) else (none)) else (if 0 ≤ (wrap64 (x10 + x3)) then (if (wrap64 (x10 + x3)) < (x9.length : Int) then (if 0 ≤ x10 then (if x10 < (x1.length : Int) then (klipperef01_joined.l0 k x1 x2 x3 (x9.set ((wrap64 (x10 + x3)) : Int).toNat (wrap64 ((rd x9 (wrap64 (x10 + x3))) + (wrap64 (x2 * (rd x1 x10)))))) (wrap64 (x10 + 1))) else (none)) else (none)) else (none)) else (none))
end
def klipperef01_joined.f (k : Nat) (l0 : List Int) (l1 : List Int) (a2 : Int) (a3 : Int) : Option (List Int) := (some (([] : List Int) : List Int)).bind fun a8 => (if a8.length + l0.length < 17592186044416 then (klipperef01_joined.l0 k l1 a2 a3 (a8 ++ l0) 0) else (none))
theorem klipperef01_joined.mono_l : ∀ k, (∀ y0 y1 y2 y3 y4, LeO (klipperef01_joined.l0 k y0 y1 y2 y3 y4) (klipperef01_joined.l0 (k + 1) y0 y1 y2 y3 y4)) ∧ (∀ y0 y1 y2 y3 y4, LeO (klipperef01_joined.l1 k y0 y1 y2 y3 y4) (klipperef01_joined.l1 (k + 1) y0 y1 y2 y3 y4))
 | 0 => ⟨fun _ _ _ _ _ r h => by simp [klipperef01_joined.l0] at h, fun _ _ _ _ _ r h => by simp [klipperef01_joined.l1] at h⟩
 | k + 1 => by
  obtain ⟨ih0, ih1⟩ := klipperef01_joined.mono_l k
  refine ⟨?_, ?_⟩
  ·
   intro y0 y1 y2 y3 y4
   unfold klipperef01_joined.l0
   repeat' first | (with_reducible first | exact ih0 .. | exact ih1 .. | exact klipperef01_carry.mono .. | exact LeO.refl _ | exact LeO.none _ | refine LeO.ite ?_ ?_ | refine LeO.bind ?_ (fun _ => ?_))
  ·
   intro y0 y1 y2 y3 y4
   unfold klipperef01_joined.l1
   repeat' first | (with_reducible first | exact ih0 .. | exact ih1 .. | exact klipperef01_carry.mono .. | exact LeO.refl _ | exact LeO.none _ | refine LeO.ite ?_ ?_ | refine LeO.bind ?_ (fun _ => ?_))
theorem klipperef01_joined.mono : ∀ a0 a1 a2 a3 k, LeO (klipperef01_joined.f k a0 a1 a2 a3) (klipperef01_joined.f (k + 1) a0 a1 a2 a3) := by
 intro a0 a1 a2 a3 k
 obtain ⟨ih0, ih1⟩ := klipperef01_joined.mono_l k
 unfold klipperef01_joined.f
 repeat' first | (with_reducible first | exact ih0 .. | exact ih1 .. | exact klipperef01_carry.mono .. | exact LeO.refl _ | exact LeO.none _ | refine LeO.ite ?_ ?_ | refine LeO.bind ?_ (fun _ => ?_))
def klipperef01_joined.T7 : Bool × List (List Nat × List Nat) := (true, [([], []), ([], []), ([], []), ([1, 2], [1, 2]), ([0, 3], [0, 3]), ([4], [4]), ([], []), ([], []), ([], []), ([7, 8], [7, 8]), ([9], [9]), ([6, 10], [6, 10]), ([5, 11], [5, 11]), ([0, 3, 0, 1, 2, 3, 4, 5, 6, 7, 8, 9, 10, 11, 12], [0, 3]), ([13, 12, 0, 1, 2, 3, 4, 5, 6, 7, 8, 9, 10, 11, 12], [12, 13])])
def klipperef01_joined.B7 : List Nat := [0, 0, 0, 6, 15, 31, 0, 0, 0, 384, 896, 1984, 4095, 8191, 16383]
theorem klipperef01_joined.tab7 : rtab .any (opsOf Tryz.f96 7) = klipperef01_joined.T7 := by kernel_rfl
theorem klipperef01_joined.bits7 : waitsOk klipperef01_joined.T7.2 klipperef01_joined.B7 = true := by kernel_rfl
set_option maxHeartbeats 8000000 in
set_option maxRecDepth 100000 in
theorem klipperef01_joined.calls (k : Nat) (A0 : Option Addr) (c0 : Nat) (l0 : List Int) (A1 : Option Addr) (c1 : Nat) (l1 : List Int) (a2 : Int) (a3 : Int) (r : List Int) (w : World) (hr0 : Kd.C (Kd.int .i64) w A0 l0.length l0) (hc0 : l0.length ≤ c0) (hr1 : Kd.C (Kd.int .i64) w A1 l1.length l1) (hc1 : l1.length ≤ c1) (h : klipperef01_joined.f k l0 l1 a2 a3 = some r) :
  Calls Tryz.prog 96 #[.slice A0 l0.length c0, .slice A1 l1.length c1, .int .i64 a2, .int .i64 a3] w fun e w' => ∃ v0_ : Value, e = .returned (v0_) ∧ Kd.V (Kd.int .i64) 3 w' w.heap.size (fun k_ => (w.heap.size ≤ k_)) v0_ r ∧ Below w.heap.size w w' := by
 have HR0 := mk0 hr0
 have i1 := mk0 hc0
 clear hr0 hc0
 have HR1 := mk0 hr1
 have i2 := mk0 hc1
 clear hr1 hc1
 have HB := mk0 (Below.refl w.heap.size w)
 have H : ((some (([] : List Int) : List Int)).bind fun a8 => (if a8.length + l0.length < 17592186044416 then (klipperef01_joined.l0 k l1 a2 a3 (a8 ++ l0) 0) else (none))) = some r := h
 clear h
 obtain ⟨a8, hy656⟩ : ∃ y_ : List Int, y_ = (([] : List Int)) := ⟨_, rfl⟩
 replace H : (if a8.length + l0.length < 17592186044416 then (klipperef01_joined.l0 k l1 a2 a3 (a8 ++ l0) 0) else (none)) = some r := by first | (rw [hy656]; exact H) | (rw [hy656]; exact (Option.bind_some _ _).symm.trans H) | exact (Option.bind_some _ _).symm.trans H
 have Ny656 := mk0 hy656
 clear hy656
 by_cases c5 : a8.length + l0.length < 17592186044416
 ·
  rw [if_pos c5] at H
  have e6 := mk0 c5
  clear c5
  obtain ⟨c6, hy659⟩ : ∃ y_ : List Int, y_ = (a8 ++ l0) := ⟨_, rfl⟩
  replace H : (klipperef01_joined.l0 k l1 a2 a3 c6 0) = some r := by first | (rw [hy659]; exact H) | (rw [hy659]; exact (Option.bind_some _ _).symm.trans H) | exact (Option.bind_some _ _).symm.trans H
  have Ny659 := mk0 hy659
  clear hy659
  have H' := mk0 H
  clear H
  go_enter Tryz.func96, Tryz.ntmps96
  go_wp2_with (first | (refine gd 11 ?_; refine Kd.R_lit (Kd.int .i64) _ 3 ?hg (N := 11) ?hd (xs := ([] : List Int)) (inner := []) (ok := fun _ => True) (okp := fun _ => True) ?hr ?hp (fun _ hk => hk) trivial (Below.refl _ _) (Nat.le_refl _) (by simp) ?_; (case hd => rfl); (case hg => rfl); (case hr => exact aH); (case hp => exact (Reps.none _ _)); intro e7 w6 e8 hb hg_ hnew_; clear hg_ hnew_; rw [← Ny656.out] at e8; have b2 := mk0 (Kd.R_lower (Kd.R_newM (M := fun k_ => (w.heap.size ≤ k_)) e8 (below_size (aB)) (fun k_ h_ => h_)) (below_size (aB)));replace HB := uW hb; clear hb e8) | ((with_reducible refine gate_builtin (b := .append) (xs := #[.tmp 11, .tmp 12]) rfl ?_); at_builtin; refine Kd.R_append_rows (Kd.int .i64) (w0 := w) w.heap.size rfl (.tmp 11) (.tmp 12) 35 3 (.int .i64 0) 8 rfl Tryz.underlying35 info3 rfl (by decide) (by omega) e7 a8 l0 _ _ _ (fun k_ => (w.heap.size ≤ k_)) (fun _ => False) rfl rfl ?aO ?aR (fun _ _ h => h) (fun _ h => h.elim) ?aF ?aB ?aS ?aL ?_; (case aR => repeat (first | exact (Kd.C_below HR0.out HB.out) | (with_reducible refine Kd.C_alloc ?_ _) | (with_reducible refine Kd.C_drewN ?_ _) | (with_reducible refine Kd.C_drew ?_))); (case aB => exact (aB)); (case aF => exact (fun k_ hk => (Nat.le_trans (below_size (aB)) hk))); (case aO => exact (sR b2.out)); (case aS => exact (below_size (aB))); (case aL => have := e6.out; omega); intro g3 w8 ho hb hg hat; rw [← Ny659.out] at ho; replace HB := mk0 (hb);have c7 := mk0 (ho);clear b2; clear ho hb hg hat))
  go_loopg [9, 10] k (fun kq v9 g4 w' => ∃ (b0 : List Int) (a4 : Int), g4 = .int .i64 a4 ∧ Aside0 (klipperef01_joined.l0 kq l1 a2 a3 b0 a4 = some r) ∧ Aside0 (kq ≤ k) ∧ Aside0 (Kd.R (Kd.int .i64) 3 w' w.heap.size (fun k_ => (w.heap.size ≤ k_)) v9 b0) ∧ Aside0 (Below w.heap.size w w'))
  case atStart => exact ⟨(c6), (0), (by first | rfl | simp [*]), H', ⟨Nat.le_refl _⟩, ⟨pR c7.out⟩, ⟨aB⟩⟩
  case round =>
   clear H'
   try clear c1
   try clear p2
   try clear c5
   obtain ⟨b0, a4, rfl, HA, HK1, a6, HB⟩ := hrel
   cases gk with
   | zero => exact absurd HA.out (by simp [klipperef01_joined.l0])
   | succ k1 =>
    have H := HA.out
    clear HA
    simp only [klipperef01_joined.l0] at H
    by_cases c9 : a4 < (l1.length : Int)
    ·
     rw [if_pos c9] at H
     have c8 : decide (a4 < (l1.length : Int)) = true := decide_eq_true c9
     clear c9
     have H' := mk0 H
     clear H
     go_wp2
     go_loopg [9] k1 (fun kq v9 w' => ∃ (a5 : List Int), Aside0 (klipperef01_joined.l1 kq l1 a2 a3 a5 a4 = some r) ∧ Aside0 (kq ≤ k1) ∧ Aside0 (Kd.R (Kd.int .i64) 3 w' w.heap.size (fun k_ => (w.heap.size ≤ k_)) v9 a5) ∧ Aside0 (Below w.heap.size w w'))
     case atStart => exact ⟨(b0), H', ⟨Nat.le_refl _⟩, ⟨pR a6.out⟩, ⟨aB⟩⟩
     case round =>
      clear H'
      try clear c1
      try clear p2
      try clear c5
      try clear c9
      try clear c8
      try clear p2
      obtain ⟨a5, HA, HK2, a6, HB⟩ := hrel
      cases gk with
      | zero => exact absurd HA.out (by simp [klipperef01_joined.l1])
      | succ k2 =>
       have H := HA.out
       clear HA
       simp only [klipperef01_joined.l1] at H
       by_cases c4 : (a5.length : Int) ≤ (wrap64 (a4 + a3))
       ·
        rw [if_pos c4] at H
        have b3 : decide ((a5.length : Int) ≤ (wrap64 (a4 + a3))) = true := decide_eq_true c4
        clear c4
        by_cases e1 : a5.length < 17592186044416
        ·
         rw [if_pos e1] at H
         have d0 := mk0 e1
         clear e1
         obtain ⟨d1, hy665⟩ : ∃ y_ : List Int, y_ = (a5 ++ [0]) := ⟨_, rfl⟩
         replace H : (klipperef01_joined.l1 k2 l1 a2 a3 d1 a4) = some r := by first | (rw [hy665]; exact H) | (rw [hy665]; exact (Option.bind_some _ _).symm.trans H) | exact (Option.bind_some _ _).symm.trans H
         have Ny665 := mk0 hy665
         clear hy665
         have H' := mk0 H
         clear H
         obtain ⟨e9, f0, f1⟩ := Kd.R_slice a6.out
         subst f1
         go_wp2_with (first | ((with_reducible refine gate_builtin (b := .append) (xs := #[.tmp 26, .tmp 27]) rfl ?_); at_builtin; refine Kd.R_append (Kd.int .i64) (w0 := w) w.heap.size rfl (.tmp 26) (.tmp 27) 35 3 (.int .i64 0) 8 rfl Tryz.underlying35 info3 rfl (by decide) (by omega) (.slice e9 a5.length f0) a5 0 [.int .i64 0] (fun k_ => (w.heap.size ≤ k_)) (fun _ => False) rfl rfl ?aP (fun _ hk => hk.elim) ?aF ?aO ?aB ?aS ?aL ?_; (case aP => exact rfl); (case aB => exact (aB)); (case aF => exact (fun k_ hk => (Nat.le_trans (below_size (aB)) hk))); (case aO => exact (pR a6.out)); (case aS => exact (below_size (aB))); (case aL => have := d0.out; omega); intro g5 i3 ho hb hg hat; rw [← Ny665.out] at ho; replace HB := mk0 (hb);have d2 := mk0 (ho);clear a6; clear ho hb hg hat))
         go_roundg k2
         case measure => have := HK1.out; have := HK2.out; omega
         case rel => exact ⟨(d1), H', ⟨by have := HK1.out; have := HK2.out; omega⟩, ⟨pR d2.out⟩, ⟨aB⟩⟩
        ·
         rw [if_neg e1] at H
         exact absurd H (by simp)
       ·
        rw [if_neg c4] at H
        have b3 : decide ((a5.length : Int) ≤ (wrap64 (a4 + a3))) = false := decide_eq_false c4
        clear c4
        obtain ⟨ji14, hji14⟩ : ∃ j_ : Int, (wrap64 (a4 + a3)) = j_ := ⟨_, rfl⟩
        replace H : (if 0 ≤ (ji14) then (if (ji14) < (a5.length : Int) then (if 0 ≤ a4 then (if a4 < (l1.length : Int) then (klipperef01_joined.l0 k2 l1 a2 a3 (a5.set ((ji14) : Int).toNat (wrap64 ((rd a5 (ji14)) + (wrap64 (a2 * (rd l1 a4)))))) (wrap64 (a4 + 1))) else (none)) else (none)) else (none)) else (none)) = some r := by first | (rw [hji14] at H; exact H) | (simp only [hji14] at H ⊢; exact H)
        (try rw [hji14] at b3)
        have hji14w : (IntKind.i64.wrap (a4 + a3)) = ji14 := (i64_w _).trans hji14
        by_cases e2 : 0 ≤ (ji14)
        ·
         rw [if_pos e2] at H
         have f7 : decide (0 ≤ (ji14)) = true := decide_eq_true e2
         clear e2
         by_cases e3 : (ji14) < (a5.length : Int)
         ·
          rw [if_pos e3] at H
          have f8 : decide ((ji14) < (a5.length : Int)) = true := decide_eq_true e3
          clear e3
          by_cases e4 : 0 ≤ a4
          ·
           rw [if_pos e4] at H
           have f9 : decide (0 ≤ a4) = true := decide_eq_true e4
           clear e4
           by_cases e5 : a4 < (l1.length : Int)
           ·
            rw [if_pos e5] at H
            have g0 : decide (a4 < (l1.length : Int)) = true := decide_eq_true e5
            clear e5
            obtain ⟨d3, hy670⟩ : ∃ y_ : List Int, y_ = (a5.set ((ji14) : Int).toNat (wrap64 ((rd a5 (ji14)) + (wrap64 (a2 * (rd l1 a4)))))) := ⟨_, rfl⟩
            replace H : (klipperef01_joined.l0 k2 l1 a2 a3 d3 (wrap64 (a4 + 1))) = some r := by first | (rw [hy670]; exact H) | (rw [hy670]; exact (Option.bind_some _ _).symm.trans H) | exact (Option.bind_some _ _).symm.trans H
            have Ny670 := mk0 hy670
            clear hy670
            have H' := mk0 H
            clear H
            obtain ⟨g6, g7, f2⟩ := Kd.R_slice a6.out
            subst f2
            try go_wp2
            replace a6 := mk0 (Kd.R_drew a6.out)
            replace HB := mk0 (below_drew1 HB.out)
            have b5 : 0 ≤ ((ji14) : Int) := aD
            have b6 : (ji14) < (a5.length : Int) := aD
            obtain ⟨g1, e668, a9⟩ := Kd.at_int (Kd.R_reads' a6.out).2.2 (ji14) b5 b6
            cases e668
            replace b5 := eq_true b5
            replace b6 := eq_true b6
            have b7 : 0 ≤ (a4 : Int) := aD
            have b8 : a4 < (l1.length : Int) := aD
            obtain ⟨d4, e669, a7⟩ := Kd.at_int HR1.out a4 b7 b8
            have hw669_0 := a7
            cases e669
            replace a7 := (HB.out.cell (World.block_lt_of_cell? w _ a7)).trans a7
            replace b7 := eq_true b7
            replace b8 := eq_true b8
            have f3 : 0 ≤ ((ji14) : Int) := aD
            have f4 : ((ji14) : Int) < ((a5.length : Int) : Int) := aD
            obtain ⟨f5, g8, d5, d6, gl19, cl19, HG19⟩ := Kd.R_form a6.out (by omega)
            (first | cases d5 | (injection d5 with ea_ en_ ec_; (first | subst ea_ | (injection ea_ with ea_; subst ea_)); subst ec_; clear en_))
            have GB19 := mk0 d6
            have GG19 := mk0 HG19
            clear d6 gl19 HG19
            (first | simp only [add_plain] at a9 | skip)
            obtain ⟨b9, hf19_0⟩ := Kd.R_celln 0 a6.out ((ji14) : Int) f3 f4
            replace f3 := eq_true f3
            replace f4 := eq_true f4
            have HP22 := Kd.R_putn a6.out ((ji14) : Int) (wrap64 ((rd a5 (ji14)) + (wrap64 (a2 * (rd l1 a4)))))
            rw [← Ny670.out] at HP22
            have HQ22 := mk0 HP22
            clear HP22
            refine start_ (n := 15) (S := fun w' => w'.cell? ⟨f5, ((ji14)).toNat, none⟩ = some (.int .i64 (rd a5 (ji14))) ∧ w'.cell? (d4.add (a4).toNat) = some (.int .i64 (rd l1 a4))) (ds := [14]) #[false, false, false, false, false, false, false, false, false, false, false, false, false, false, false] (by kernel_rfl) rfl rfl ⟨a9, ((HB.out.cell (World.block_lt_of_cell? w _ hw669_0)).trans hw669_0)⟩ (fun b1 => ?_); refine with_tabW klipperef01_joined.tab7 klipperef01_joined.bits7 (fun HT_ HW_ => ?_)
            generalize wr.drew = i4 at a6 HB GG19 HQ22 hf19_0 b9 a9 a7 b1 ⊢
            refine pu 0 29 HT_ ?_
            refine pu 1 30 HT_ ?_
            refine pu 2 31 HT_ ?_
            refine pu 3 32 HT_ ?_
            refine pu 4 33 HT_ ?_
            refine pu 6 35 HT_ ?_
            refine pu 7 36 HT_ ?_
            refine pu 8 37 HT_ ?_
            refine pu 9 38 HT_ ?_
            refine tk 5 34 HT_ HW_ b1 ?_
            refine tk 10 39 HT_ HW_ b1 ?_
            refine pu 11 40 HT_ ?_
            refine pu 12 41 HT_ ?_
            refine pu 13 42 HT_ ?_
            refine last_ (i := 14) (N := none) #[true, true, true, true, true, true, true, true, true, true, true, true, true, true, true] rfl rfl (one_of HT_.out (by kernel_rfl)) (by decide) (fun K hK => ?_)
            refine skip_ (w1 := ?_) (by rfl) rfl ?_ ?_
            rotate_left
            ·
             go_simp
             rfl
            refine hK.out _ _ ?_
            clear hK K
            refine done_ (done_of HT_.out (by kernel_rfl)) ?_
            try go_wp2
            go_roundg k2
            case measure => have := HK1.out; have := HK2.out; omega
            case rel => exact ⟨(d3), (wrap64 (a4 + 1)), (by first | rfl | simp [*]), H', ⟨by have := HK1.out; have := HK2.out; omega⟩, ⟨pR HQ22.out⟩, ⟨aB⟩⟩
           ·
            rw [if_neg e5] at H
            exact absurd H (by simp)
          ·
           rw [if_neg e4] at H
           exact absurd H (by simp)
         ·
          rw [if_neg e3] at H
          exact absurd H (by simp)
        ·
         rw [if_neg e2] at H
         exact absurd H (by simp)
    ·
     rw [if_neg c9] at H
     have c8 : decide (a4 < (l1.length : Int)) = false := decide_eq_false c9
     clear c9
     obtain ⟨b4, A23, H⟩ := bS H
     obtain rfl := Option.some.inj H
     obtain ⟨d7, d8, f6⟩ := Kd.R_slice a6.out
     subst f6
     go_wp2_with (first | (refine gc 117 ?_; refine gl 44 Tryz.func117 #[.slice d7 b0.length d8] ?_; (with_reducible refine (klipperef01_carry.calls k1 _ _ b0 b4 _ ?side1 ?side2 A23.out).mono ?_); (case side1 => exact pC ((Kd.R_reads' a6.out).2.2)); (case side2 => exact (Kd.R_reads' a6.out).2.1); rintro e i5 ⟨g9, rfl, g2, hb⟩; refine ⟨_, rfl, ?_⟩; have d9 := lV (ok' := fun k_ => (w.heap.size ≤ k_) ∧ some k_ ≠ (.slice d7 b0.length d8 : Value).ownBlock) g2;replace a6 := uR a6 hb;replace HB := uW hb; (try clear hb); (try clear g2)))
     go_ret
     exact ⟨_, by first | rfl | (simp [*] <;> rfl), sV d9.out, aB⟩
 ·
  rw [if_neg c5] at H
  exact absurd H (by simp)
def klipperef01_give.l0 : Nat → List Int → ByteArray → Int → Option (ByteArray)
 | 0, _, _, _ => none
 | k + 1, x0, x3, x4 => if x4 ≥ 0 then (if 0 ≤ x4 then (if x4 < (x0.length : Int) then ((strconv_Itoa.f (wrap64 (10000 + (rd x0 x4)))).bind fun a1 => (if 1 ≤ (a1.size : Int) then (if x3.size + (a1.extract 1 a1.size).size ≤ 9223372036854775807 then (klipperef01_give.l0 k x0 (x3 ++ (a1.extract 1 a1.size)) (wrap64 (x4 - 1))) else (none)) else (none))) else (none)) else (none)) else (some x3)
def klipperef01_give.f (k : Nat) (l0 : List Int) : Option (ByteArray) := if (l0.length : Int) = 0 then (some (⟨#[48]⟩ : ByteArray)) else (if 0 ≤ (wrap64 ((l0.length : Int) - 1)) then (if (wrap64 ((l0.length : Int) - 1)) < (l0.length : Int) then ((strconv_Itoa.f (rd l0 (wrap64 ((l0.length : Int) - 1)))).bind fun a4 => (klipperef01_give.l0 k l0 a4 (wrap64 ((l0.length : Int) - 2)))) else (none)) else (none))
theorem klipperef01_give.mono_l : ∀ k, (∀ y0 y1 y2, LeO (klipperef01_give.l0 k y0 y1 y2) (klipperef01_give.l0 (k + 1) y0 y1 y2))
 | 0 => fun _ _ _ r h => by simp [klipperef01_give.l0] at h
 | k + 1 => by
  have ih0 := klipperef01_give.mono_l k
  ·
   intro y0 y1 y2
   unfold klipperef01_give.l0
   repeat' first | (with_reducible first | exact ih0 .. | exact LeO.refl _ | exact LeO.none _ | refine LeO.ite ?_ ?_ | refine LeO.bind ?_ (fun _ => ?_))
theorem klipperef01_give.mono : ∀ a0 k, LeO (klipperef01_give.f k a0) (klipperef01_give.f (k + 1) a0) := by
 intro a0 k
 have ih0 := klipperef01_give.mono_l k
 unfold klipperef01_give.f
 repeat' first | (with_reducible first | exact ih0 .. | exact LeO.refl _ | exact LeO.none _ | refine LeO.ite ?_ ?_ | refine LeO.bind ?_ (fun _ => ?_))
set_option maxHeartbeats 8000000 in
set_option maxRecDepth 100000 in
theorem klipperef01_give.calls (k : Nat) (A0 : Option Addr) (c0 : Nat) (l0 : List Int) (r : ByteArray) (w : World) (hG : GW w) (hr0 : Kd.C (Kd.int .i64) w A0 l0.length l0) (hc0 : l0.length ≤ c0) (h : klipperef01_give.f k l0 = some r) :
  Calls Tryz.prog 118 #[.slice A0 l0.length c0] w fun e w' => e = .returned (.string r) ∧ Below w.heap.size w w' := by
 have HR0 := mk0 hr0
 have d8 := mk0 hc0
 clear hr0 hc0
 have HB := mk0 (Below.refl w.heap.size w)
 have HG := mk0 hG
 clear hG
 have H : (if (l0.length : Int) = 0 then (some (⟨#[48]⟩ : ByteArray)) else (if 0 ≤ (wrap64 ((l0.length : Int) - 1)) then (if (wrap64 ((l0.length : Int) - 1)) < (l0.length : Int) then ((strconv_Itoa.f (rd l0 (wrap64 ((l0.length : Int) - 1)))).bind fun a4 => (klipperef01_give.l0 k l0 a4 (wrap64 ((l0.length : Int) - 2)))) else (none)) else (none))) = some r := h
 clear h
 by_cases c2 : (l0.length : Int) = 0
 ·
  rw [if_pos c2] at H
  have b1 : ((l0.length : Int) == 0) = true := beq_iff_eq.mpr c2
  have b2 : ((l0.length : Int) != 0) = false := bne_eq_false_iff_eq.mpr c2
  clear c2
  obtain rfl := Option.some.inj H
  go_enter Tryz.func118, Tryz.ntmps118
  go_wp2
  go_ret
  exact ⟨by first | rfl | (simp [*] <;> rfl), aB⟩
 ·
  rw [if_neg c2] at H
  have b1 : ((l0.length : Int) == 0) = false := beq_eq_false_iff_ne.mpr c2
  have b2 : ((l0.length : Int) != 0) = true := bne_iff_ne.mpr c2
  have b8 : ¬ (l0 = []) := fun h_ => c2 (by rw [h_]; rfl)
  obtain ⟨ji3, hji3⟩ : ∃ j_ : Int, (wrap64 ((l0.length : Int) - 1)) = j_ := ⟨_, rfl⟩
  replace H : (if 0 ≤ (ji3) then (if (ji3) < (l0.length : Int) then ((strconv_Itoa.f (rd l0 (ji3))).bind fun a4 => (klipperef01_give.l0 k l0 a4 (wrap64 ((l0.length : Int) - 2)))) else (none)) else (none)) = some r := by first | (rw [hji3] at H; exact H) | (simp only [hji3] at H ⊢; exact H)
  have hji3w : (IntKind.i64.wrap ((l0.length : Int) - 1)) = ji3 := (i64_w _).trans hji3
  by_cases c4 : 0 ≤ (ji3)
  ·
   rw [if_pos c4] at H
   have b9 : decide (0 ≤ (ji3)) = true := decide_eq_true c4
   clear c4
   by_cases c5 : (ji3) < (l0.length : Int)
   ·
    rw [if_pos c5] at H
    have c6 : decide ((ji3) < (l0.length : Int)) = true := decide_eq_true c5
    clear c5
    obtain ⟨a4, A6, H⟩ := bS H
    have H' := mk0 H
    clear H
    have a6 : 0 ≤ ((ji3) : Int) := aD
    have a7 : (ji3) < (l0.length : Int) := aD
    obtain ⟨b3, e671, a8⟩ := Kd.at_int HR0.out (ji3) a6 a7
    cases e671
    replace a6 := eq_true a6
    replace a7 := eq_true a7
    go_enter Tryz.func118, Tryz.ntmps118
    go_wp2_with (first | (refine gc 76 ?_; refine goesL_ (some 15) rfl rfl Tryz.func76 (by kernel_rfl) rfl #[.int .i64 (rd l0 (ji3))] rfl (by (try simp only [List.map_toArray, List.map_cons, List.map_nil]); first | done | (simp only [hji3]; rfl) | rfl | (simp only [List.length_drop, List.length_take]; rfl)) ?_; (with_reducible refine (strconv_Itoa.calls (rd l0 (ji3)) a4 _ ?side1 A6.out).mono ?_); (case side1 => exact GW.below HG.out (aB)); rintro e w7 ⟨rfl, hb⟩; refine ⟨_, rfl, ?_⟩; replace HB := uW hb; (try clear hb); (try clear hb2); (try clear hk); (try clear hi)))
    go_loopg [3, 4] k (fun kq v3 v4 w' => ∃ (a5 : ByteArray) (a2 : Int), v3 = .string a5 ∧ v4 = .int .i64 a2 ∧ Aside0 (klipperef01_give.l0 kq l0 a5 a2 = some r) ∧ Aside0 (kq ≤ k) ∧ Aside0 (Below w.heap.size w w'))
    case atStart => exact ⟨(a4), (wrap64 ((l0.length : Int) - 2)), (by first | rfl | simp [*]), (by first | rfl | simp [*]), H', ⟨Nat.le_refl _⟩, ⟨aB⟩⟩
    case round =>
     clear H'
     try clear c1
     try clear c2
     try clear b1
     try clear b2
     try clear b8
     try clear p2
     try clear c4
     try clear b9
     try clear c5
     try clear c6
     try clear p6
     try clear q6
     try clear hx6
     try clear c7
     try clear a8
     try clear a6
     try clear a7
     obtain ⟨a5, a2, rfl, rfl, HA, HK1, HB⟩ := hrel
     cases gk with
     | zero => exact absurd HA.out (by simp [klipperef01_give.l0])
     | succ k1 =>
      have H := HA.out
      clear HA
      simp only [klipperef01_give.l0] at H
      by_cases c8 : a2 ≥ 0
      ·
       rw [if_pos c8] at H
       have d0 : decide (0 ≤ a2) = true := decide_eq_true c8
       clear c8
       by_cases c9 : 0 ≤ a2
       ·
        rw [if_pos c9] at H
        have d7 : decide (0 ≤ a2) = true := decide_eq_true c9
        clear c9
        by_cases b7 : a2 < (l0.length : Int)
        ·
         rw [if_pos b7] at H
         have d1 : decide (a2 < (l0.length : Int)) = true := decide_eq_true b7
         clear b7
         obtain ⟨a1, A11, H⟩ := bS H
         by_cases b4 : 1 ≤ (a1.size : Int)
         ·
          rw [if_pos b4] at H
          have d2 := eq_true b4
          have d3 : decide (1 ≤ (a1.size : Int)) = true := decide_eq_true b4
          clear b4
          by_cases b5 : a5.size + (a1.extract 1 a1.size).size ≤ 9223372036854775807
          ·
           rw [if_pos b5] at H
           have d4 := eq_true b5
           have d5 : decide (a5.size + (a1.extract 1 a1.size).size ≤ 9223372036854775807) = true := decide_eq_true b5
           try have d6 : (9223372036854775807 < a5.size + (a1.extract 1 a1.size).size) = False := eq_false (Nat.not_lt.2 b5)
           have H' := mk0 H
           clear H
           have a9 : 0 ≤ (a2 : Int) := aD
           have b0 : a2 < (l0.length : Int) := aD
           obtain ⟨b6, e673, a3⟩ := Kd.at_int HR0.out a2 a9 b0
           obtain rfl : b3 = b6 := (by injection e673)
           replace a3 := (HB.out.cell (World.block_lt_of_cell? w _ a3)).trans a3
           replace a9 := eq_true a9
           replace b0 := eq_true b0
           go_wp2_with (first | (refine gc 76 ?_; refine gl 28 Tryz.func76 #[.int .i64 (wrap64 (10000 + (rd l0 a2)))] ?_; (with_reducible refine (strconv_Itoa.calls (wrap64 (10000 + (rd l0 a2))) a1 _ ?side1 A11.out).mono ?_); (case side1 => exact GW.below HG.out (aB)); rintro e d9 ⟨rfl, hb⟩; refine ⟨_, rfl, ?_⟩; replace HB := uW hb; (try clear hb); (try clear hb2); (try clear hk); (try clear hi)))
           go_roundg k1
           case measure => have := HK1.out; omega
           case rel => exact ⟨(a5 ++ (a1.extract 1 a1.size)), (wrap64 (a2 - 1)), (by first | rfl | simp [*]), (by first | rfl | simp [*]), H', ⟨by have := HK1.out; omega⟩, ⟨aB⟩⟩
          ·
           rw [if_neg b5] at H
           exact absurd H (by simp)
         ·
          rw [if_neg b4] at H
          exact absurd H (by simp)
        ·
         rw [if_neg b7] at H
         exact absurd H (by simp)
       ·
        rw [if_neg c9] at H
        exact absurd H (by simp)
      ·
       rw [if_neg c8] at H
       have d0 : decide (0 ≤ a2) = false := decide_eq_false c8
       clear c8
       obtain rfl := Option.some.inj H
       go_wp2
       go_ret
       exact ⟨by first | rfl | (simp [errW_none, errW_some] <;> rfl) | (simp only [← hji3]; first | rfl | (simp [errW_none, errW_some] <;> rfl)) | (simp [*, errW_none, errW_some] <;> rfl), aB⟩
   ·
    rw [if_neg c5] at H
    exact absurd H (by simp)
  ·
   rw [if_neg c4] at H
   exact absurd H (by simp)
def klipperef01_made.j0 : Nat → List Int → Bool → Option (ByteArray)
 | 0, _, _ => none
 | k + 1, x1, x12 => if x12 = true then ((klipperef01_give.f k x1).bind fun a3 => (if 1 + a3.size ≤ 9223372036854775807 then (some ((⟨#[45]⟩ : ByteArray) ++ a3)) else (none))) else ((klipperef01_give.f k x1).bind fun a6 => (some a6))
def klipperef01_made.f (k : Nat) (a0 : Bool) (l1 : List Int) : Option (ByteArray) := (klipperef01_cut.f k l1).bind fun a2 => (if a0 = true then (klipperef01_made.j0 k a2 (decide (0 < a2.length))) else (klipperef01_made.j0 k a2 false))
theorem klipperef01_made.mono_l : ∀ k, (∀ y0 y1, LeO (klipperef01_made.j0 k y0 y1) (klipperef01_made.j0 (k + 1) y0 y1))
 | 0 => fun _ _ r h => by simp [klipperef01_made.j0] at h
 | k + 1 => by
  have ih0 := klipperef01_made.mono_l k
  ·
   intro y0 y1
   unfold klipperef01_made.j0
   repeat' first | (with_reducible first | exact ih0 .. | exact klipperef01_cut.mono .. | exact klipperef01_give.mono .. | exact LeO.refl _ | exact LeO.none _ | refine LeO.ite ?_ ?_ | refine LeO.bind ?_ (fun _ => ?_))
theorem klipperef01_made.mono : ∀ a0 a1 k, LeO (klipperef01_made.f k a0 a1) (klipperef01_made.f (k + 1) a0 a1) := by
 intro a0 a1 k
 have ih0 := klipperef01_made.mono_l k
 unfold klipperef01_made.f
 repeat' first | (with_reducible first | exact ih0 .. | exact klipperef01_cut.mono .. | exact klipperef01_give.mono .. | exact LeO.refl _ | exact LeO.none _ | refine LeO.ite ?_ ?_ | refine LeO.bind ?_ (fun _ => ?_))
set_option maxHeartbeats 8000000 in
set_option maxRecDepth 100000 in
theorem klipperef01_made.calls (k : Nat) (a0 : Bool) (A1 : Option Addr) (c1 : Nat) (l1 : List Int) (r : ByteArray) (w : World) (hG : GW w) (hr1 : Kd.C (Kd.int .i64) w A1 l1.length l1) (hc1 : l1.length ≤ c1) (h : klipperef01_made.f k a0 l1 = some r) :
  Calls Tryz.prog 97 #[.bool a0, .slice A1 l1.length c1] w fun e w' => e = .returned (.string r) ∧ Below w.heap.size w w' := by
 have HR1 := mk0 hr1
 have c5 := mk0 hc1
 clear hr1 hc1
 have HB := mk0 (Below.refl w.heap.size w)
 have HG := mk0 hG
 clear hG
 have H : ((klipperef01_cut.f k l1).bind fun a2 => (if a0 = true then (klipperef01_made.j0 k a2 (decide (0 < a2.length))) else (klipperef01_made.j0 k a2 false))) = some r := h
 clear h
 obtain ⟨a2, A3, H⟩ := bS H
 have a9 := mk0 H
 clear H
 go_enter Tryz.func97, Tryz.ntmps97
 go_upto_region 2 with (first | (refine gc 116 ?_; refine gl 6 Tryz.func116 #[.slice A1 l1.length c1] ?_; (with_reducible refine (klipperef01_cut.calls k (fun k_ => k_ < w.heap.size) _ _ l1 a2 _ ?side1 A3.out).mono ?_); (case side1 => exact Kd.V_mk c5.out (Kd.F_below (Kd.C_F (Kd.heap_int .i64) HR1.out) (aB))); rintro e w5 ⟨b0, rfl, b7, hb⟩; refine ⟨_, rfl, ?_⟩; have a7 := lV (ok' := fun k_ => True) b7;replace HB := uW hb; (try clear hb); (try clear b7)))
 (try simp only [Act.put, List.setIfInBounds_toArray, List.set_cons_zero, List.set_cons_succ])
 go_cut [12] (fun c7 wc => ∃ (kq : Nat) (a5 : Bool), c7 = .bool a5 ∧ Aside0 (klipperef01_made.j0 kq a2 a5 = some r) ∧ Aside0 (kq ≤ k) ∧ Aside0 (Kd.V (Kd.int .i64) 3 wc w.heap.size (fun _ => True) b0 a2) ∧ Aside0 (Below w.heap.size w wc))
 case first =>
  have H := a9.out
  clear a9
  by_cases c6 : a0 = true
  ·
   subst c6
   have H1 : (klipperef01_made.j0 k a2 (decide (0 < a2.length))) = some r := by rw [if_pos rfl] at H; exact H
   clear H
   have H := H1
   clear H1
   have H' := mk0 H
   clear H
   obtain ⟨d0, d1, c9⟩ := Kd.V_slice a7.out
   subst c9
   go_wp2
   go_meet
   case rel => exact ⟨_, (decide (0 < a2.length)), (by first | rfl | simp [*]), H', ⟨by omega⟩, ⟨pV a7.out⟩, ⟨aB⟩⟩
  ·
   replace c6 := Bool.eq_false_iff.mpr c6
   subst c6
   have H1 : (klipperef01_made.j0 k a2 false) = some r := by rw [if_neg (show ¬ (false = true) by decide)] at H; exact H
   clear H
   have H := H1
   clear H1
   have H' := mk0 H
   clear H
   go_wp2
   go_meet
   case rel => exact ⟨_, (false), (by first | rfl | simp [*]), H', ⟨by omega⟩, ⟨pV a7.out⟩, ⟨aB⟩⟩
 case rest =>
  clear a9
  try clear c1
  try clear p2
  try clear c6
  obtain ⟨kq, a5, rfl, HA, HJ3, a4, HB⟩ := hcut
  cases kq with
  | zero => exact absurd HA.out (by simp [klipperef01_made.j0])
  | succ kj3 =>
   have H := HA.out
   clear HA
   simp only [klipperef01_made.j0] at H
   by_cases c8 : a5 = true
   ·
    subst c8
    have H1 : ((klipperef01_give.f kj3 a2).bind fun a3 => (if 1 + a3.size ≤ 9223372036854775807 then (some ((⟨#[45]⟩ : ByteArray) ++ a3)) else (none))) = some r := by rw [if_pos rfl] at H; exact H
    clear H
    have H := H1
    clear H1
    obtain ⟨a3, A9, H⟩ := bS H
    by_cases a8 : 1 + a3.size ≤ 9223372036854775807
    ·
     rw [if_pos a8] at H
     have b8 := eq_true a8
     have b9 : decide (1 + a3.size ≤ 9223372036854775807) = true := decide_eq_true a8
     try have c4 : (9223372036854775807 < 1 + a3.size) = False := eq_false (Nat.not_lt.2 a8)
     obtain rfl := Option.some.inj H
     obtain ⟨b1, b2, b3⟩ := Kd.V_slice a4.out
     subst b3
     go_wp2_with (first | (refine gc 118 ?_; refine gl 14 Tryz.func118 #[.slice b1 a2.length b2] ?_; (with_reducible refine (klipperef01_give.calls kj3 _ _ a2 a3 _ ?side1 ?side2 ?side3 A9.out).mono ?_); (case side1 => exact GW.below HG.out (aB)); (case side2 => exact pC ((Kd.V_reads' a4.out).2.2)); (case side3 => exact (Kd.V_reads' a4.out).2.1); rintro e d2 ⟨rfl, hb⟩; refine ⟨_, rfl, ?_⟩; replace a4 := uV a4 hb;replace HB := uW hb; (try clear hb); (try clear hb2); (try clear hk); (try clear hi)))
     go_ret
     exact ⟨by first | rfl | (simp [*] <;> rfl), aB⟩
    ·
     rw [if_neg a8] at H
     exact absurd H (by simp)
   ·
    replace c8 := Bool.eq_false_iff.mpr c8
    subst c8
    have H1 : ((klipperef01_give.f kj3 a2).bind fun a6 => (some a6)) = some r := by rw [if_neg (show ¬ (false = true) by decide)] at H; exact H
    clear H
    have H := H1
    clear H1
    obtain ⟨a6, A13, H⟩ := bS H
    obtain rfl := Option.some.inj H
    obtain ⟨b4, b5, b6⟩ := Kd.V_slice a4.out
    subst b6
    go_wp2_with (first | (refine gc 118 ?_; refine gl 17 Tryz.func118 #[.slice b4 a2.length b5] ?_; (with_reducible refine (klipperef01_give.calls kj3 _ _ a2 a6 _ ?side1 ?side2 ?side3 A13.out).mono ?_); (case side1 => exact GW.below HG.out (aB)); (case side2 => exact pC ((Kd.V_reads' a4.out).2.2)); (case side3 => exact (Kd.V_reads' a4.out).2.1); rintro e d3 ⟨rfl, hb⟩; refine ⟨_, rfl, ?_⟩; replace a4 := uV a4 hb;replace HB := uW hb; (try clear hb); (try clear hb2); (try clear hk); (try clear hi)))
    go_ret
    exact ⟨by first | rfl | (simp [*] <;> rfl), aB⟩
def klipperef01_less.l0 : Nat → List Int → List Int → Int → Option (Bool)
 | 0, _, _, _ => none
 | k + 1, x0, x1, x5 => if x5 ≥ 0 then (if 0 ≤ x5 then (if x5 < (x0.length : Int) then (if x5 < (x1.length : Int) then (if (rd x0 x5) = (rd x1 x5) then (klipperef01_less.l0 k x0 x1 (wrap64 (x5 - 1))) else (some (decide ((rd x0 x5) < (rd x1 x5))))) else (none)) else (none)) else (none)) else (some false)
def klipperef01_less.f (k : Nat) (l0 : List Int) (l1 : List Int) : Option (Bool) := if (l0.length : Int) = (l1.length : Int) then (klipperef01_less.l0 k l0 l1 (wrap64 ((l0.length : Int) - 1))) else (some (decide ((l0.length : Int) < (l1.length : Int))))
theorem klipperef01_less.mono_l : ∀ k, (∀ y0 y1 y2, LeO (klipperef01_less.l0 k y0 y1 y2) (klipperef01_less.l0 (k + 1) y0 y1 y2))
 | 0 => fun _ _ _ r h => by simp [klipperef01_less.l0] at h
 | k + 1 => by
  have ih0 := klipperef01_less.mono_l k
  ·
   intro y0 y1 y2
   unfold klipperef01_less.l0
   repeat' first | (with_reducible first | exact ih0 .. | exact LeO.refl _ | exact LeO.none _ | refine LeO.ite ?_ ?_ | refine LeO.bind ?_ (fun _ => ?_))
theorem klipperef01_less.mono : ∀ a0 a1 k, LeO (klipperef01_less.f k a0 a1) (klipperef01_less.f (k + 1) a0 a1) := by
 intro a0 a1 k
 have ih0 := klipperef01_less.mono_l k
 unfold klipperef01_less.f
 repeat' first | (with_reducible first | exact ih0 .. | exact LeO.refl _ | exact LeO.none _ | refine LeO.ite ?_ ?_ | refine LeO.bind ?_ (fun _ => ?_))
set_option maxHeartbeats 8000000 in
set_option maxRecDepth 100000 in
theorem klipperef01_less.calls (k : Nat) (A0 : Option Addr) (c0 : Nat) (l0 : List Int) (A1 : Option Addr) (c1 : Nat) (l1 : List Int) (r : Bool) (w : World) (hr0 : Kd.C (Kd.int .i64) w A0 l0.length l0) (hc0 : l0.length ≤ c0) (hr1 : Kd.C (Kd.int .i64) w A1 l1.length l1) (hc1 : l1.length ≤ c1) (h : klipperef01_less.f k l0 l1 = some r) :
  Calls Tryz.prog 114 #[.slice A0 l0.length c0, .slice A1 l1.length c1] w fun e w' => e = .returned (.bool r) ∧ Drawn0 w w' := by
 have HR0 := mk0 hr0
 have d7 := mk0 hc0
 clear hr0 hc0
 have HR1 := mk0 hr1
 have d8 := mk0 hc1
 clear hr1 hc1
 have H : (if (l0.length : Int) = (l1.length : Int) then (klipperef01_less.l0 k l0 l1 (wrap64 ((l0.length : Int) - 1))) else (some (decide ((l0.length : Int) < (l1.length : Int))))) = some r := h
 clear h
 by_cases c3 : (l0.length : Int) = (l1.length : Int)
 ·
  rw [if_pos c3] at H
  have b5 : ((l0.length : Int) == (l1.length : Int)) = true := beq_iff_eq.mpr c3
  have b6 : ((l0.length : Int) != (l1.length : Int)) = false := bne_eq_false_iff_eq.mpr c3
  have b7 : (l0.length == l1.length) = true := by first | simpa using c3 | (simp at c3 ⊢; omega)
  clear c3
  have H' := mk0 H
  clear H
  go_enter Tryz.func114, Tryz.ntmps114
  go_wp2
  repeat (go_quiet (fail); try go_wp2)
  go_loopg [5] k (fun kq v5 w' => ∃ (a2 : Int), v5 = .int .i64 a2 ∧ Aside0 (klipperef01_less.l0 kq l0 l1 a2 = some r) ∧ Aside0 (kq ≤ k) ∧ Drawn0 w w')
  case atStart => exact ⟨(wrap64 ((l0.length : Int) - 1)), (by first | rfl | simp [*]), H', ⟨Nat.le_refl _⟩, by repeat (first | exact Drawn0.refl _ | apply Drawn0.step)⟩
  case round =>
   clear H'
   try clear c1
   try clear p2
   try clear c3
   try clear b5
   try clear b6
   try clear b7
   obtain ⟨a2, rfl, HA, HK1, ⟨m1, rfl⟩⟩ := hrel
   cases gk with
   | zero => exact absurd HA.out (by simp [klipperef01_less.l0])
   | succ k1 =>
    have H := HA.out
    clear HA
    simp only [klipperef01_less.l0] at H
    by_cases c4 : a2 ≥ 0
    ·
     rw [if_pos c4] at H
     have d1 : decide (0 ≤ a2) = true := decide_eq_true c4
     clear c4
     by_cases c5 : 0 ≤ a2
     ·
      rw [if_pos c5] at H
      have d4 : decide (0 ≤ a2) = true := decide_eq_true c5
      clear c5
      by_cases c6 : a2 < (l0.length : Int)
      ·
       rw [if_pos c6] at H
       have d5 : decide (a2 < (l0.length : Int)) = true := decide_eq_true c6
       clear c6
       by_cases c7 : a2 < (l1.length : Int)
       ·
        rw [if_pos c7] at H
        have d6 : decide (a2 < (l1.length : Int)) = true := decide_eq_true c7
        clear c7
        by_cases c8 : (rd l0 a2) = (rd l1 a2)
        ·
         rw [if_pos c8] at H
         have d2 : ((rd l0 a2) == (rd l1 a2)) = true := beq_iff_eq.mpr c8
         have d3 : ((rd l0 a2) != (rd l1 a2)) = false := bne_eq_false_iff_eq.mpr c8
         clear c8
         have H' := mk0 H
         clear H
         have a3 : 0 ≤ (a2 : Int) := aD
         have a4 : a2 < (l0.length : Int) := aD
         obtain ⟨a9, e680, a7⟩ := Kd.at_int HR0.out a2 a3 a4
         cases e680
         replace a3 := eq_true a3
         replace a4 := eq_true a4
         have a5 : 0 ≤ (a2 : Int) := aD
         have a6 : a2 < (l1.length : Int) := aD
         obtain ⟨b0, e681, a8⟩ := Kd.at_int HR1.out a2 a5 a6
         cases e681
         replace a5 := eq_true a5
         replace a6 := eq_true a6
         go_wp2
         repeat (go_quiet (fail); try go_wp2)
         go_roundg k1
         case measure => have := HK1.out; omega
         case rel => exact ⟨(wrap64 (a2 - 1)), (by first | rfl | simp [*]), H', ⟨by have := HK1.out; omega⟩, by repeat (first | exact Drawn0.refl _ | apply Drawn0.step)⟩
        ·
         rw [if_neg c8] at H
         have d2 : ((rd l0 a2) == (rd l1 a2)) = false := beq_eq_false_iff_ne.mpr c8
         have d3 : ((rd l0 a2) != (rd l1 a2)) = true := bne_iff_ne.mpr c8
         obtain rfl := Option.some.inj H
         have a3 : 0 ≤ (a2 : Int) := aD
         have a4 : a2 < (l0.length : Int) := aD
         obtain ⟨a9, e680, a7⟩ := Kd.at_int HR0.out a2 a3 a4
         cases e680
         replace a3 := eq_true a3
         replace a4 := eq_true a4
         have a5 : 0 ≤ (a2 : Int) := aD
         have a6 : a2 < (l1.length : Int) := aD
         obtain ⟨b0, e681, a8⟩ := Kd.at_int HR1.out a2 a5 a6
         cases e681
         replace a5 := eq_true a5
         replace a6 := eq_true a6
         have b1 : 0 ≤ (a2 : Int) := aD
         have b2 : a2 < (l0.length : Int) := aD
         obtain ⟨b8, e682, c9⟩ := Kd.at_int HR0.out a2 b1 b2
         obtain rfl : a9 = b8 := (by injection e682)
         replace b1 := eq_true b1
         replace b2 := eq_true b2
         have b3 : 0 ≤ (a2 : Int) := aD
         have b4 : a2 < (l1.length : Int) := aD
         obtain ⟨b9, e683, d0⟩ := Kd.at_int HR1.out a2 b3 b4
         obtain rfl : b0 = b9 := (by injection e683)
         replace b3 := eq_true b3
         replace b4 := eq_true b4
         go_wp2
         repeat (go_quiet (fail); try go_wp2)
         go_ret
         exact ⟨by first | rfl | simp [*], by repeat (first | exact Drawn0.refl _ | apply Drawn0.step)⟩
       ·
        rw [if_neg c7] at H
        exact absurd H (by simp)
      ·
       rw [if_neg c6] at H
       exact absurd H (by simp)
     ·
      rw [if_neg c5] at H
      exact absurd H (by simp)
    ·
     rw [if_neg c4] at H
     have d1 : decide (0 ≤ a2) = false := decide_eq_false c4
     clear c4
     obtain rfl := Option.some.inj H
     go_wp2
     repeat (go_quiet (fail); try go_wp2)
     go_ret
     exact ⟨by first | rfl | simp [*], by repeat (first | exact Drawn0.refl _ | apply Drawn0.step)⟩
 ·
  rw [if_neg c3] at H
  have b5 : ((l0.length : Int) == (l1.length : Int)) = false := beq_eq_false_iff_ne.mpr c3
  have b6 : ((l0.length : Int) != (l1.length : Int)) = true := bne_iff_ne.mpr c3
  have b7 : (l0.length == l1.length) = false := by first | simpa using c3 | (simp at c3 ⊢; omega)
  obtain rfl := Option.some.inj H
  go_enter Tryz.func114, Tryz.ntmps114
  go_wp2
  repeat (go_quiet (fail); try go_wp2)
  go_ret
  exact ⟨by first | rfl | simp [*], by repeat (first | exact Drawn0.refl _ | apply Drawn0.step)⟩
def klipperef01_Add.j0 : Nat → ByteArray → ByteArray → Int → Int → Bool → Option (ByteArray)
 | 0, _, _, _, _, _ => none
 | k + 1, x0, x1, x5, x7, x28 => if x28 = true then ((klipperef01_Of.f (wrap64 (x5 + x7))).bind fun d2 => (some d2)) else ((klipperef01_Split.f x0).bind fun a7 => ((klipperef01_Split.f x1).bind fun b0 => ((klipperef01_take.f k a7.2).bind fun a4 => ((klipperef01_take.f k b0.2).bind fun a5 => (if (a7.1 == b0.1) = true then ((klipperef01_joined.f k a4 a5 1 0).bind fun c4 => ((klipperef01_made.f k a7.1 c4).bind fun d3 => (some d3))) else ((klipperef01_less.f k a4 a5).bind fun d4 => (if d4 = true then ((klipperef01_joined.f k a5 a4 (-1) 0).bind fun b3 => ((klipperef01_made.f k b0.1 b3).bind fun c5 => (some c5))) else ((klipperef01_joined.f k a4 a5 (-1) 0).bind fun b4 => ((klipperef01_made.f k a7.1 b4).bind fun c8 => (some c8))))))))))
def klipperef01_Add.f (k : Nat) (a0 : ByteArray) (a1 : ByteArray) : Option (ByteArray) := (klipperef01_brief.f k a0).bind fun b1 => ((klipperef01_brief.f k a1).bind fun b2 => (if b1.2 = true then (klipperef01_Add.j0 k a0 a1 b1.1 b2.1 b2.2) else (klipperef01_Add.j0 k a0 a1 b1.1 b2.1 false)))
theorem klipperef01_Add.mono_l : ∀ k, (∀ y0 y1 y2 y3 y4, LeO (klipperef01_Add.j0 k y0 y1 y2 y3 y4) (klipperef01_Add.j0 (k + 1) y0 y1 y2 y3 y4))
 | 0 => fun _ _ _ _ _ r h => by simp [klipperef01_Add.j0] at h
 | k + 1 => by
  have ih0 := klipperef01_Add.mono_l k
  ·
   intro y0 y1 y2 y3 y4
   unfold klipperef01_Add.j0
   repeat' first | (with_reducible first | exact ih0 .. | exact klipperef01_brief.mono .. | exact klipperef01_joined.mono .. | exact klipperef01_less.mono .. | exact klipperef01_made.mono .. | exact klipperef01_take.mono .. | exact LeO.refl _ | exact LeO.none _ | refine LeO.ite ?_ ?_ | refine LeO.bind ?_ (fun _ => ?_))
theorem klipperef01_Add.mono : ∀ a0 a1 k, LeO (klipperef01_Add.f k a0 a1) (klipperef01_Add.f (k + 1) a0 a1) := by
 intro a0 a1 k
 have ih0 := klipperef01_Add.mono_l k
 unfold klipperef01_Add.f
 repeat' first | (with_reducible first | exact ih0 .. | exact klipperef01_brief.mono .. | exact klipperef01_joined.mono .. | exact klipperef01_less.mono .. | exact klipperef01_made.mono .. | exact klipperef01_take.mono .. | exact LeO.refl _ | exact LeO.none _ | refine LeO.ite ?_ ?_ | refine LeO.bind ?_ (fun _ => ?_))
set_option maxHeartbeats 8000000 in
set_option maxRecDepth 100000 in
theorem klipperef01_Add.calls (k : Nat) (a0 : ByteArray) (a1 : ByteArray) (r : ByteArray) (w : World) (hG : GW w) (h : klipperef01_Add.f k a0 a1 = some r) :
  Calls Tryz.prog 90 #[.string a0, .string a1] w fun e w' => e = .returned (.string r) ∧ Below w.heap.size w w' := by
 have HB := mk0 (Below.refl w.heap.size w)
 have HG := mk0 hG
 clear hG
 have H : ((klipperef01_brief.f k a0).bind fun b1 => ((klipperef01_brief.f k a1).bind fun b2 => (if b1.2 = true then (klipperef01_Add.j0 k a0 a1 b1.1 b2.1 b2.2) else (klipperef01_Add.j0 k a0 a1 b1.1 b2.1 false)))) = some r := h
 clear h
 obtain ⟨⟨c9, d7⟩, A3, H⟩ := bS H
 (try dsimp only at H)
 obtain ⟨⟨d0, d6⟩, A4, H⟩ := bS H
 (try dsimp only at H)
 have f3 := mk0 H
 clear H
 go_enter Tryz.func90, Tryz.ntmps90
 go_upto_region 3 with (first | (refine gc 92 ?_; refine gl 17 Tryz.func92 #[.string a0] ?_; (with_reducible refine (klipperef01_brief.calls k a0 c9 d7 _ A3.out).mono ?_); rintro e w' ⟨rfl, ⟨nd, rfl⟩⟩; refine ⟨_, rfl, ?_⟩) | (refine gc 92 ?_; refine gl 22 Tryz.func92 #[.string a1] ?_; (with_reducible refine (klipperef01_brief.calls k a1 d0 d6 _ A4.out).mono ?_); rintro e w' ⟨rfl, ⟨nd, rfl⟩⟩; refine ⟨_, rfl, ?_⟩))
 (try simp only [Act.put, List.setIfInBounds_toArray, List.set_cons_zero, List.set_cons_succ])
 go_cut [28] (fun i5 wc => ∃ (kq : Nat) (d1 : Bool), i5 = .bool d1 ∧ Aside0 (klipperef01_Add.j0 kq a0 a1 c9 d0 d1 = some r) ∧ Aside0 (kq ≤ k) ∧ Aside0 (Below w.heap.size w wc))
 case first =>
  have H := f3.out
  clear f3
  by_cases c6 : d7 = true
  ·
   subst c6
   have H1 : (klipperef01_Add.j0 k a0 a1 c9 d0 d6) = some r := by rw [if_pos rfl] at H; exact H
   clear H
   have H := H1
   clear H1
   have H' := mk0 H
   clear H
   go_wp2
   go_meet
   case rel => exact ⟨_, (d6), (by first | rfl | simp [*]), H', ⟨by omega⟩, ⟨aB⟩⟩
  ·
   replace c6 := Bool.eq_false_iff.mpr c6
   subst c6
   have H1 : (klipperef01_Add.j0 k a0 a1 c9 d0 false) = some r := by rw [if_neg (show ¬ (false = true) by decide)] at H; exact H
   clear H
   have H := H1
   clear H1
   have H' := mk0 H
   clear H
   go_wp2
   go_meet
   case rel => exact ⟨_, (false), (by first | rfl | simp [*]), H', ⟨by omega⟩, ⟨aB⟩⟩
 case rest =>
  clear f3
  try clear p2
  try clear c6
  obtain ⟨kq, d1, rfl, HA, HJ4, HB⟩ := hcut
  cases kq with
  | zero => exact absurd HA.out (by simp [klipperef01_Add.j0])
  | succ kj4 =>
   have H := HA.out
   clear HA
   simp only [klipperef01_Add.j0] at H
   by_cases c7 : d1 = true
   ·
    subst c7
    have H1 : ((klipperef01_Of.f (wrap64 (c9 + d0))).bind fun d2 => (some d2)) = some r := by rw [if_pos rfl] at H; exact H
    clear H
    have H := H1
    clear H1
    obtain ⟨d2, A8, H⟩ := bS H
    obtain rfl := Option.some.inj H
    go_wp2_with (first | (refine gc 93 ?_; refine gl 32 Tryz.func93 #[.int .i64 (wrap64 (c9 + d0))] ?_; (with_reducible refine (klipperef01_Of.calls (wrap64 (c9 + d0)) d2 _ ?side1 A8.out).mono ?_); (case side1 => exact GW.below HG.out (aB)); rintro e w9 ⟨rfl, hb⟩; refine ⟨_, rfl, ?_⟩; replace HB := uW hb; (try clear hb); (try clear hb2); (try clear hk); (try clear hi)))
    go_ret
    exact ⟨by first | rfl | (simp [*] <;> rfl), aB⟩
   ·
    replace c7 := Bool.eq_false_iff.mpr c7
    subst c7
    have H1 : ((klipperef01_Split.f a0).bind fun a7 => ((klipperef01_Split.f a1).bind fun b0 => ((klipperef01_take.f kj4 a7.2).bind fun a4 => ((klipperef01_take.f kj4 b0.2).bind fun a5 => (if (a7.1 == b0.1) = true then ((klipperef01_joined.f kj4 a4 a5 1 0).bind fun c4 => ((klipperef01_made.f kj4 a7.1 c4).bind fun d3 => (some d3))) else ((klipperef01_less.f kj4 a4 a5).bind fun d4 => (if d4 = true then ((klipperef01_joined.f kj4 a5 a4 (-1) 0).bind fun b3 => ((klipperef01_made.f kj4 b0.1 b3).bind fun c5 => (some c5))) else ((klipperef01_joined.f kj4 a4 a5 (-1) 0).bind fun b4 => ((klipperef01_made.f kj4 a7.1 b4).bind fun c8 => (some c8)))))))))) = some r := by rw [if_neg (show ¬ (false = true) by decide)] at H; exact H
    clear H
    have H := H1
    clear H1
    obtain ⟨⟨a6, b5⟩, A10, H⟩ := bS H
    (try dsimp only at H)
    obtain ⟨⟨a8, b6⟩, A11, H⟩ := bS H
    (try dsimp only at H)
    obtain ⟨a4, A12, H⟩ := bS H
    obtain ⟨a5, A13, H⟩ := bS H
    by_cases d5 : (a6 == a8) = true
    ·
     rw [if_pos d5] at H
     have d8 : (a6 == a8) = true := d5
     (try (have d9 : decide (a6 = a8) = true := by simpa using d5))
     (try (have e1 : (a6 == a8) = true := by simpa using d5))
     clear d5
     obtain ⟨c4, A15, H⟩ := bS H
     obtain ⟨d3, A16, H⟩ := bS H
     obtain rfl := Option.some.inj H
     go_wp2_with (first | (refine gc 68 ?_; refine gl 35 Tryz.func68 #[.string a0] ?_; (with_reducible refine (klipperef01_Split.calls a0 a6 b5 _ A10.out).mono ?_); rintro e w' ⟨rfl, ⟨nd, rfl⟩⟩; refine ⟨_, rfl, ?_⟩) | (refine gc 68 ?_; refine gl 40 Tryz.func68 #[.string a1] ?_; (with_reducible refine (klipperef01_Split.calls a1 a8 b6 _ A11.out).mono ?_); rintro e w' ⟨rfl, ⟨nd, rfl⟩⟩; refine ⟨_, rfl, ?_⟩) | (refine gc 95 ?_; refine gl 44 Tryz.func95 #[.string b5] ?_; (with_reducible refine (klipperef01_take.calls kj4 b5 a4 _ A12.out).mono ?_); rintro e i9 ⟨e2, rfl, a9, hb⟩; refine ⟨_, rfl, ?_⟩; have a2 := lV (ok' := fun k_ => True) a9;replace HB := uW hb; (try clear hb); (try clear a9)) | (refine gc 95 ?_; refine gl 46 Tryz.func95 #[.string b6] ?_; (with_reducible refine (klipperef01_take.calls kj4 b6 a5 _ A13.out).mono ?_); rintro e j1 ⟨e3, rfl, a9, hb⟩; refine ⟨_, rfl, ?_⟩; replace a2 := uV a2 hb;have a3 := lV (ok' := fun k_ => True) a9;replace HB := uW hb; (try clear hb); (try clear a9); obtain ⟨f4, f5, f6⟩ := Kd.V_slice a2.out; subst f6; obtain ⟨f7, f8, f9⟩ := Kd.V_slice a3.out; subst f9) | (refine gc 96 ?_; refine gl 54 Tryz.func96 #[.slice f4 a4.length f5, .slice f7 a5.length f8, .int .i64 1, .int .i64 0] ?_; (with_reducible refine (klipperef01_joined.calls kj4 _ _ a4 _ _ a5 1 0 c4 _ ?side1 ?side2 ?side3 ?side4 A15.out).mono ?_); (case side1 => exact pC ((Kd.V_reads' a2.out).2.2)); (case side2 => exact (Kd.V_reads' a2.out).2.1); (case side3 => exact pC ((Kd.V_reads' a3.out).2.2)); (case side4 => exact (Kd.V_reads' a3.out).2.1); rintro e j2 ⟨i6, rfl, a9, hb⟩; refine ⟨_, rfl, ?_⟩; replace a2 := uV a2 hb;replace a3 := uV a3 hb;have b7 := lV (ok' := fun k_ => True) a9;replace HB := uW hb; (try clear hb); (try clear a9); obtain ⟨g0, g1, g2⟩ := Kd.V_slice b7.out; subst g2) | (refine gc 97 ?_; refine gl 55 Tryz.func97 #[.bool a6, .slice g0 c4.length g1] ?_; (with_reducible refine (klipperef01_made.calls kj4 a6 _ _ c4 d3 _ ?side1 ?side2 ?side3 A16.out).mono ?_); (case side1 => exact GW.below HG.out (aB)); (case side2 => exact pC ((Kd.V_reads' b7.out).2.2)); (case side3 => exact (Kd.V_reads' b7.out).2.1); rintro e j3 ⟨rfl, hb⟩; refine ⟨_, rfl, ?_⟩; replace a2 := uV a2 hb;replace a3 := uV a3 hb;replace b7 := uV b7 hb;replace HB := uW hb; (try clear hb); (try clear hb2); (try clear hk); (try clear hi)))
     go_ret
     exact ⟨by first | rfl | (simp [*] <;> rfl), aB⟩
    ·
     rw [if_neg d5] at H
     have d8 : (a6 == a8) = false := by simpa using d5
     (try (have d9 : decide (a6 = a8) = false := by simpa using d5))
     (try (have e1 : (a6 == a8) = false := by simpa using d5))
     (try (have i4 : ¬ (a6 = a8) := by simpa using d5))
     clear d5
     obtain ⟨d4, A24, H⟩ := bS H
     by_cases f2 : d4 = true
     ·
      subst f2
      have H1 : ((klipperef01_joined.f kj4 a5 a4 (-1) 0).bind fun b3 => ((klipperef01_made.f kj4 a8 b3).bind fun c5 => (some c5))) = some r := by rw [if_pos rfl] at H; exact H
      clear H
      have H := H1
      clear H1
      obtain ⟨b3, A26, H⟩ := bS H
      obtain ⟨c5, A27, H⟩ := bS H
      obtain rfl := Option.some.inj H
      go_wp2_with (first | (refine gc 68 ?_; refine gl 35 Tryz.func68 #[.string a0] ?_; (with_reducible refine (klipperef01_Split.calls a0 a6 b5 _ A10.out).mono ?_); rintro e w' ⟨rfl, ⟨nd, rfl⟩⟩; refine ⟨_, rfl, ?_⟩) | (refine gc 68 ?_; refine gl 40 Tryz.func68 #[.string a1] ?_; (with_reducible refine (klipperef01_Split.calls a1 a8 b6 _ A11.out).mono ?_); rintro e w' ⟨rfl, ⟨nd, rfl⟩⟩; refine ⟨_, rfl, ?_⟩) | (refine gc 95 ?_; refine gl 44 Tryz.func95 #[.string b5] ?_; (with_reducible refine (klipperef01_take.calls kj4 b5 a4 _ A12.out).mono ?_); rintro e j4 ⟨e2, rfl, a9, hb⟩; refine ⟨_, rfl, ?_⟩; have a2 := lV (ok' := fun k_ => True) a9;replace HB := uW hb; (try clear hb); (try clear a9)) | (refine gc 95 ?_; refine gl 46 Tryz.func95 #[.string b6] ?_; (with_reducible refine (klipperef01_take.calls kj4 b6 a5 _ A13.out).mono ?_); rintro e j5 ⟨e3, rfl, a9, hb⟩; refine ⟨_, rfl, ?_⟩; replace a2 := uV a2 hb;have a3 := lV (ok' := fun k_ => True) a9;replace HB := uW hb; (try clear hb); (try clear a9); obtain ⟨e4, e5, g3⟩ := Kd.V_slice a2.out; subst g3; obtain ⟨e6, e7, g4⟩ := Kd.V_slice a3.out; subst g4) | (refine gc 114 ?_; refine gl 59 Tryz.func114 #[.slice e4 a4.length e5, .slice e6 a5.length e7] ?_; (with_reducible refine (klipperef01_less.calls kj4 _ _ a4 _ _ a5 true _ ?side1 ?side2 ?side3 ?side4 A24.out).mono ?_); (case side1 => exact pC ((Kd.V_reads' a2.out).2.2)); (case side2 => exact (Kd.V_reads' a2.out).2.1); (case side3 => exact pC ((Kd.V_reads' a3.out).2.2)); (case side4 => exact (Kd.V_reads' a3.out).2.1); rintro e w' ⟨rfl, ⟨nd, rfl⟩⟩; refine ⟨_, rfl, ?_⟩) | (refine gc 96 ?_; refine gl 63 Tryz.func96 #[.slice e6 a5.length e7, .slice e4 a4.length e5, .int .i64 (-1), .int .i64 0] ?_; (with_reducible refine (klipperef01_joined.calls kj4 _ _ a5 _ _ a4 (-1) 0 b3 _ ?side1 ?side2 ?side3 ?side4 A26.out).mono ?_); (case side1 => exact pC ((Kd.V_reads' a3.out).2.2)); (case side2 => exact (Kd.V_reads' a3.out).2.1); (case side3 => exact pC ((Kd.V_reads' a2.out).2.2)); (case side4 => exact (Kd.V_reads' a2.out).2.1); rintro e j6 ⟨i7, rfl, a9, hb⟩; refine ⟨_, rfl, ?_⟩; replace a2 := uV a2 hb;replace a3 := uV a3 hb;have b8 := lV (ok' := fun k_ => True) a9;replace HB := uW hb; (try clear hb); (try clear a9); obtain ⟨g5, g6, g7⟩ := Kd.V_slice b8.out; subst g7) | (refine gc 97 ?_; refine gl 64 Tryz.func97 #[.bool a8, .slice g5 b3.length g6] ?_; (with_reducible refine (klipperef01_made.calls kj4 a8 _ _ b3 c5 _ ?side1 ?side2 ?side3 A27.out).mono ?_); (case side1 => exact GW.below HG.out (aB)); (case side2 => exact pC ((Kd.V_reads' b8.out).2.2)); (case side3 => exact (Kd.V_reads' b8.out).2.1); rintro e j7 ⟨rfl, hb⟩; refine ⟨_, rfl, ?_⟩; replace a2 := uV a2 hb;replace a3 := uV a3 hb;replace b8 := uV b8 hb;replace HB := uW hb; (try clear hb); (try clear hb2); (try clear hk); (try clear hi)))
      go_ret
      exact ⟨by first | rfl | (simp [*] <;> rfl), aB⟩
     ·
      replace f2 := Bool.eq_false_iff.mpr f2
      subst f2
      have H1 : ((klipperef01_joined.f kj4 a4 a5 (-1) 0).bind fun b4 => ((klipperef01_made.f kj4 a6 b4).bind fun c8 => (some c8))) = some r := by rw [if_neg (show ¬ (false = true) by decide)] at H; exact H
      clear H
      have H := H1
      clear H1
      obtain ⟨b4, A35, H⟩ := bS H
      obtain ⟨c8, A36, H⟩ := bS H
      obtain rfl := Option.some.inj H
      go_wp2_with (first | (refine gc 68 ?_; refine gl 35 Tryz.func68 #[.string a0] ?_; (with_reducible refine (klipperef01_Split.calls a0 a6 b5 _ A10.out).mono ?_); rintro e w' ⟨rfl, ⟨nd, rfl⟩⟩; refine ⟨_, rfl, ?_⟩) | (refine gc 68 ?_; refine gl 40 Tryz.func68 #[.string a1] ?_; (with_reducible refine (klipperef01_Split.calls a1 a8 b6 _ A11.out).mono ?_); rintro e w' ⟨rfl, ⟨nd, rfl⟩⟩; refine ⟨_, rfl, ?_⟩) | (refine gc 95 ?_; refine gl 44 Tryz.func95 #[.string b5] ?_; (with_reducible refine (klipperef01_take.calls kj4 b5 a4 _ A12.out).mono ?_); rintro e j8 ⟨e2, rfl, a9, hb⟩; refine ⟨_, rfl, ?_⟩; have a2 := lV (ok' := fun k_ => True) a9;replace HB := uW hb; (try clear hb); (try clear a9)) | (refine gc 95 ?_; refine gl 46 Tryz.func95 #[.string b6] ?_; (with_reducible refine (klipperef01_take.calls kj4 b6 a5 _ A13.out).mono ?_); rintro e j9 ⟨e3, rfl, a9, hb⟩; refine ⟨_, rfl, ?_⟩; replace a2 := uV a2 hb;have a3 := lV (ok' := fun k_ => True) a9;replace HB := uW hb; (try clear hb); (try clear a9); obtain ⟨e8, e9, g8⟩ := Kd.V_slice a2.out; subst g8; obtain ⟨f0, f1, g9⟩ := Kd.V_slice a3.out; subst g9) | (refine gc 114 ?_; refine gl 59 Tryz.func114 #[.slice e8 a4.length e9, .slice f0 a5.length f1] ?_; (with_reducible refine (klipperef01_less.calls kj4 _ _ a4 _ _ a5 false _ ?side1 ?side2 ?side3 ?side4 A24.out).mono ?_); (case side1 => exact pC ((Kd.V_reads' a2.out).2.2)); (case side2 => exact (Kd.V_reads' a2.out).2.1); (case side3 => exact pC ((Kd.V_reads' a3.out).2.2)); (case side4 => exact (Kd.V_reads' a3.out).2.1); rintro e w' ⟨rfl, ⟨nd, rfl⟩⟩; refine ⟨_, rfl, ?_⟩) | (refine gc 96 ?_; refine gl 68 Tryz.func96 #[.slice e8 a4.length e9, .slice f0 a5.length f1, .int .i64 (-1), .int .i64 0] ?_; (with_reducible refine (klipperef01_joined.calls kj4 _ _ a4 _ _ a5 (-1) 0 b4 _ ?side1 ?side2 ?side3 ?side4 A35.out).mono ?_); (case side1 => exact pC ((Kd.V_reads' a2.out).2.2)); (case side2 => exact (Kd.V_reads' a2.out).2.1); (case side3 => exact pC ((Kd.V_reads' a3.out).2.2)); (case side4 => exact (Kd.V_reads' a3.out).2.1); rintro e k0 ⟨i8, rfl, a9, hb⟩; refine ⟨_, rfl, ?_⟩; replace a2 := uV a2 hb;replace a3 := uV a3 hb;have b9 := lV (ok' := fun k_ => True) a9;replace HB := uW hb; (try clear hb); (try clear a9); obtain ⟨i1, i2, i3⟩ := Kd.V_slice b9.out; subst i3) | (refine gc 97 ?_; refine gl 69 Tryz.func97 #[.bool a6, .slice i1 b4.length i2] ?_; (with_reducible refine (klipperef01_made.calls kj4 a6 _ _ b4 c8 _ ?side1 ?side2 ?side3 A36.out).mono ?_); (case side1 => exact GW.below HG.out (aB)); (case side2 => exact pC ((Kd.V_reads' b9.out).2.2)); (case side3 => exact (Kd.V_reads' b9.out).2.1); rintro e k1 ⟨rfl, hb⟩; refine ⟨_, rfl, ?_⟩; replace a2 := uV a2 hb;replace a3 := uV a3 hb;replace b9 := uV b9 hb;replace HB := uW hb; (try clear hb); (try clear hb2); (try clear hk); (try clear hi)))
      go_ret
      exact ⟨by first | rfl | (simp [*] <;> rfl), aB⟩
def klipperef01_Neg.f (a0 : ByteArray) : Option (ByteArray) := (klipperef01_Split.f a0).bind fun a1 => (if a1.1 = true then (some a1.2) else (if a0.toList = ([48] : List UInt8) then (some a1.2) else (if 1 + a1.2.size ≤ 9223372036854775807 then (some ((⟨#[45]⟩ : ByteArray) ++ a1.2)) else (none))))
set_option maxHeartbeats 8000000 in
set_option maxRecDepth 100000 in
theorem klipperef01_Neg.calls (a0 : ByteArray) (r : ByteArray) (w : World) (h : klipperef01_Neg.f a0 = some r) :
  Calls Tryz.prog 91 #[.string a0] w fun e w' => e = .returned (.string r) ∧ Drawn0 w w' := by
 have H : ((klipperef01_Split.f a0).bind fun a1 => (if a1.1 = true then (some a1.2) else (if a0.toList = ([48] : List UInt8) then (some a1.2) else (if 1 + a1.2.size ≤ 9223372036854775807 then (some ((⟨#[45]⟩ : ByteArray) ++ a1.2)) else (none))))) = some r := h
 clear h
 obtain ⟨⟨a3, a2⟩, A2, H⟩ := bS H
 (try dsimp only at H)
 by_cases c3 : a3 = true
 ·
  subst c3
  have H1 : (some a2) = some r := by rw [if_pos rfl] at H; exact H
  clear H
  have H := H1
  clear H1
  obtain rfl := Option.some.inj H
  go_enter Tryz.func91, Tryz.ntmps91
  go_wp2_with (first | (refine gc 68 ?_; refine gl 7 Tryz.func68 #[.string a0] ?_; (with_reducible refine (klipperef01_Split.calls a0 true a2 _ A2.out).mono ?_); rintro e w' ⟨rfl, ⟨nd, rfl⟩⟩; refine ⟨_, rfl, ?_⟩))
  go_ret
  exact ⟨by first | rfl | simp [*], by repeat (first | exact Drawn0.refl _ | apply Drawn0.step)⟩
 ·
  replace c3 := Bool.eq_false_iff.mpr c3
  subst c3
  have H1 : (if a0.toList = ([48] : List UInt8) then (some a2) else (if 1 + a2.size ≤ 9223372036854775807 then (some ((⟨#[45]⟩ : ByteArray) ++ a2)) else (none))) = some r := by rw [if_neg (show ¬ (false = true) by decide)] at H; exact H
  clear H
  have H := H1
  clear H1
  by_cases c4 : a0.toList = ([48] : List UInt8)
  ·
   rw [if_pos c4] at H
   have a4 : (a0.toList == ([48] : List UInt8)) = true := beq_iff_eq.mpr c4
   have a5 : (a0.toList != ([48] : List UInt8)) = false := bne_eq_false_iff_eq.mpr c4
   clear c4
   obtain rfl := Option.some.inj H
   go_enter Tryz.func91, Tryz.ntmps91
   go_wp2_with (first | (refine gc 68 ?_; refine gl 7 Tryz.func68 #[.string a0] ?_; (with_reducible refine (klipperef01_Split.calls a0 false a2 _ A2.out).mono ?_); rintro e w' ⟨rfl, ⟨nd, rfl⟩⟩; refine ⟨_, rfl, ?_⟩))
   go_ret
   exact ⟨by first | rfl | simp [*], by repeat (first | exact Drawn0.refl _ | apply Drawn0.step)⟩
  ·
   rw [if_neg c4] at H
   have a4 : (a0.toList == ([48] : List UInt8)) = false := beq_eq_false_iff_ne.mpr c4
   have a5 : (a0.toList != ([48] : List UInt8)) = true := bne_iff_ne.mpr c4
   by_cases c5 : 1 + a2.size ≤ 9223372036854775807
   ·
    rw [if_pos c5] at H
    have a6 := eq_true c5
    have a7 : decide (1 + a2.size ≤ 9223372036854775807) = true := decide_eq_true c5
    try have a8 : (9223372036854775807 < 1 + a2.size) = False := eq_false (Nat.not_lt.2 c5)
    obtain rfl := Option.some.inj H
    go_enter Tryz.func91, Tryz.ntmps91
    go_wp2_with (first | (refine gc 68 ?_; refine gl 7 Tryz.func68 #[.string a0] ?_; (with_reducible refine (klipperef01_Split.calls a0 false a2 _ A2.out).mono ?_); rintro e w' ⟨rfl, ⟨nd, rfl⟩⟩; refine ⟨_, rfl, ?_⟩))
    go_ret
    exact ⟨by first | rfl | simp [*], by repeat (first | exact Drawn0.refl _ | apply Drawn0.step)⟩
   ·
    rw [if_neg c5] at H
    exact absurd H (by simp)
def klipperef01_Sub.f (k : Nat) (a0 : ByteArray) (a1 : ByteArray) : Option (ByteArray) := (klipperef01_Neg.f a1).bind fun a2 => ((klipperef01_Add.f k a0 a2).bind fun a3 => (some a3))
theorem klipperef01_Sub.mono : ∀ a0 a1 k, LeO (klipperef01_Sub.f k a0 a1) (klipperef01_Sub.f (k + 1) a0 a1) := by
 intro a0 a1 k
 unfold klipperef01_Sub.f
 repeat' first | (with_reducible first | exact klipperef01_Add.mono .. | exact LeO.refl _ | exact LeO.none _ | refine LeO.ite ?_ ?_ | refine LeO.bind ?_ (fun _ => ?_))
set_option maxHeartbeats 8000000 in
set_option maxRecDepth 100000 in
theorem klipperef01_Sub.calls (k : Nat) (a0 : ByteArray) (a1 : ByteArray) (r : ByteArray) (w : World) (hG : GW w) (h : klipperef01_Sub.f k a0 a1 = some r) :
  Calls Tryz.prog 72 #[.string a0, .string a1] w fun e w' => e = .returned (.string r) ∧ Below w.heap.size w w' := by
 have HB := mk0 (Below.refl w.heap.size w)
 have HG := mk0 hG
 clear hG
 have H : ((klipperef01_Neg.f a1).bind fun a2 => ((klipperef01_Add.f k a0 a2).bind fun a3 => (some a3))) = some r := h
 clear h
 obtain ⟨a2, A3, H⟩ := bS H
 obtain ⟨a3, A4, H⟩ := bS H
 obtain rfl := Option.some.inj H
 go_enter Tryz.func72, Tryz.ntmps72
 go_wp2_with (first | (refine gc 91 ?_; refine gl 7 Tryz.func91 #[.string a1] ?_; (with_reducible refine (klipperef01_Neg.calls a1 a2 _ A3.out).mono ?_); rintro e w' ⟨rfl, ⟨nd, rfl⟩⟩; refine ⟨_, rfl, ?_⟩) | (refine gc 90 ?_; refine gl 8 Tryz.func90 #[.string a0, .string a2] ?_; (with_reducible refine (klipperef01_Add.calls k a0 a2 a3 _ ?side1 A4.out).mono ?_); (case side1 => exact GW.below HG.out (aB)); rintro e w5 ⟨rfl, hb⟩; refine ⟨_, rfl, ?_⟩; replace HB := uW hb; (try clear hb); (try clear hb2); (try clear hk); (try clear hi)))
 go_ret
 exact ⟨by first | rfl | (simp [*] <;> rfl), aB⟩
def klipperef01_Compare.f (k : Nat) (a0 : ByteArray) (a1 : ByteArray) : Option (Int) := (klipperef01_Sub.f k a0 a1).bind fun a2 => ((klipperef01_Sign.f a2).bind fun a3 => (some a3))
theorem klipperef01_Compare.mono : ∀ a0 a1 k, LeO (klipperef01_Compare.f k a0 a1) (klipperef01_Compare.f (k + 1) a0 a1) := by
 intro a0 a1 k
 unfold klipperef01_Compare.f
 repeat' first | (with_reducible first | exact klipperef01_Sub.mono .. | exact LeO.refl _ | exact LeO.none _ | refine LeO.ite ?_ ?_ | refine LeO.bind ?_ (fun _ => ?_))
set_option maxHeartbeats 8000000 in
set_option maxRecDepth 100000 in
theorem klipperef01_Compare.calls (k : Nat) (a0 : ByteArray) (a1 : ByteArray) (r : Int) (w : World) (hG : GW w) (h : klipperef01_Compare.f k a0 a1 = some r) :
  Calls Tryz.prog 36 #[.string a0, .string a1] w fun e w' => e = .returned (.int .i64 r) ∧ Below w.heap.size w w' := by
 have HB := mk0 (Below.refl w.heap.size w)
 have HG := mk0 hG
 clear hG
 have H : ((klipperef01_Sub.f k a0 a1).bind fun a2 => ((klipperef01_Sign.f a2).bind fun a3 => (some a3))) = some r := h
 clear h
 obtain ⟨a2, A3, H⟩ := bS H
 obtain ⟨a3, A4, H⟩ := bS H
 obtain rfl := Option.some.inj H
 go_enter Tryz.func36, Tryz.ntmps36
 go_wp2_with (first | (refine gc 72 ?_; refine gl 7 Tryz.func72 #[.string a0, .string a1] ?_; (with_reducible refine (klipperef01_Sub.calls k a0 a1 a2 _ ?side1 A3.out).mono ?_); (case side1 => exact GW.below HG.out (aB)); rintro e w5 ⟨rfl, hb⟩; refine ⟨_, rfl, ?_⟩; replace HB := uW hb; (try clear hb); (try clear hb2); (try clear hk); (try clear hi)) | (refine gc 71 ?_; refine gl 8 Tryz.func71 #[.string a2] ?_; (with_reducible refine (klipperef01_Sign.calls a2 a3 _ A4.out).mono ?_); rintro e w' ⟨rfl, ⟨nd, rfl⟩⟩; refine ⟨_, rfl, ?_⟩))
 go_ret
 exact ⟨by first | rfl | (simp [*] <;> rfl), aB⟩
def klipperef01_Abs.f (a0 : ByteArray) : Option (ByteArray) := (klipperef01_Split.f a0).bind fun a1 => (some a1.2)
set_option maxHeartbeats 8000000 in
set_option maxRecDepth 100000 in
theorem klipperef01_Abs.calls (a0 : ByteArray) (r : ByteArray) (w : World) (h : klipperef01_Abs.f a0 = some r) :
  Calls Tryz.prog 73 #[.string a0] w fun e w' => e = .returned (.string r) ∧ Drawn0 w w' := by
 have H : ((klipperef01_Split.f a0).bind fun a1 => (some a1.2)) = some r := h
 clear h
 obtain ⟨⟨a2, a3⟩, A2, H⟩ := bS H
 (try dsimp only at H)
 obtain rfl := Option.some.inj H
 go_enter Tryz.func73, Tryz.ntmps73
 go_wp2_with (first | (refine gc 68 ?_; refine gl 7 Tryz.func68 #[.string a0] ?_; (with_reducible refine (klipperef01_Split.calls a0 a2 a3 _ A2.out).mono ?_); rintro e w' ⟨rfl, ⟨nd, rfl⟩⟩; refine ⟨_, rfl, ?_⟩))
 go_ret
 exact ⟨by first | rfl | simp [*], by repeat (first | exact Drawn0.refl _ | apply Drawn0.step)⟩
mutual
def klipperef01_parts.l0 : Nat → List Int → List Int → List Int → List Int → Int → Option (List Int × List Int)
 | 0, _, _, _, _, _ => none
 | k + 1, x0, x1, x6, x7, x8 => if x8 ≥ 0 then (if 0 ≤ x8 then (if x8 < (x0.length : Int) then ((some (([rd x0 x8] : List Int) : List Int)).bind fun b2 => (if b2.length + x7.length < 17592186044416 then ((klipperef01_cut.f k (b2 ++ x7)).bind fun a8 => (klipperef01_parts.l1 k x0 x1 x6 a8 x8 0 9999)) else (none))) else (none)) else (none)) else ((klipperef01_cut.f k x6).bind fun d3 => (some (d3, x7)))
def klipperef01_parts.l1 : Nat → List Int → List Int → List Int → List Int → Int → Int → Int → Option (List Int × List Int)
 | 0, _, _, _, _, _, _, _ => none
 | k + 1, x0, x1, x6, x7, x8, x9, x10 => if x9 < x10 then ((klipperef01_joined.f k ([] : List Int) x1 (wrap64 (Int.tdiv (wrap64 ((wrap64 (x9 + x10)) + 1)) 2)) 0).bind fun b3 => ((klipperef01_less.f k x7 b3).bind fun d4 => (if d4 = true then (klipperef01_parts.l1 k x0 x1 x6 x7 x8 x9 (wrap64 ((wrap64 (Int.tdiv (wrap64 ((wrap64 (x9 + x10)) + 1)) 2)) - 1))) else (klipperef01_parts.l1 k x0 x1 x6 x7 x8 (wrap64 (Int.tdiv (wrap64 ((wrap64 (x9 + x10)) + 1)) 2)) x10)))) else (if 0 ≤ x8 then (if x8 < (x6.length : Int) then ((klipperef01_joined.f k x7 x1 (wrap64 (-x9)) 0).bind fun b7 => (klipperef01_parts.l0 k x0 x1 (x6.set (x8 : Int).toNat x9) b7 (wrap64 (x8 - 1)))) else (none)) else (none))
end
def klipperef01_parts.f (k : Nat) (l0 : List Int) (l1 : List Int) : Option (List Int × List Int) := if 0 ≤ (l0.length : Int) then (if ((l0.length : Int) : Int).toNat ≤ 35184372088832 then (klipperef01_parts.l0 k l0 l1 (List.replicate ((l0.length : Int) : Int).toNat 0) ([] : List Int) (wrap64 ((l0.length : Int) - 1))) else (none)) else (none)
theorem klipperef01_parts.mono_l : ∀ k, (∀ y0 y1 y2 y3 y4, LeO (klipperef01_parts.l0 k y0 y1 y2 y3 y4) (klipperef01_parts.l0 (k + 1) y0 y1 y2 y3 y4)) ∧ (∀ y0 y1 y2 y3 y4 y5 y6, LeO (klipperef01_parts.l1 k y0 y1 y2 y3 y4 y5 y6) (klipperef01_parts.l1 (k + 1) y0 y1 y2 y3 y4 y5 y6))
 | 0 => ⟨fun _ _ _ _ _ r h => by simp [klipperef01_parts.l0] at h, fun _ _ _ _ _ _ _ r h => by simp [klipperef01_parts.l1] at h⟩
 | k + 1 => by
  obtain ⟨ih0, ih1⟩ := klipperef01_parts.mono_l k
  refine ⟨?_, ?_⟩
  ·
   intro y0 y1 y2 y3 y4
   unfold klipperef01_parts.l0
   repeat' first | (with_reducible first | exact ih0 .. | exact ih1 .. | exact klipperef01_cut.mono .. | exact klipperef01_joined.mono .. | exact klipperef01_less.mono .. | exact LeO.refl _ | exact LeO.none _ | refine LeO.ite ?_ ?_ | refine LeO.bind ?_ (fun _ => ?_))
  ·
   intro y0 y1 y2 y3 y4 y5 y6
   unfold klipperef01_parts.l1
   repeat' first | (with_reducible first | exact ih0 .. | exact ih1 .. | exact klipperef01_cut.mono .. | exact klipperef01_joined.mono .. | exact klipperef01_less.mono .. | exact LeO.refl _ | exact LeO.none _ | refine LeO.ite ?_ ?_ | refine LeO.bind ?_ (fun _ => ?_))
theorem klipperef01_parts.mono : ∀ a0 a1 k, LeO (klipperef01_parts.f k a0 a1) (klipperef01_parts.f (k + 1) a0 a1) := by
 intro a0 a1 k
 obtain ⟨ih0, ih1⟩ := klipperef01_parts.mono_l k
 unfold klipperef01_parts.f
 repeat' first | (with_reducible first | exact ih0 .. | exact ih1 .. | exact klipperef01_cut.mono .. | exact klipperef01_joined.mono .. | exact klipperef01_less.mono .. | exact LeO.refl _ | exact LeO.none _ | refine LeO.ite ?_ ?_ | refine LeO.bind ?_ (fun _ => ?_))
set_option maxHeartbeats 8000000 in
set_option maxRecDepth 100000 in
theorem klipperef01_parts.calls (k : Nat) (A0 : Option Addr) (c0 : Nat) (l0 : List Int) (A1 : Option Addr) (c1 : Nat) (l1 : List Int) (r1 : List Int) (r2 : List Int) (w : World) (hr0 : Kd.C (Kd.int .i64) w A0 l0.length l0) (hc0 : l0.length ≤ c0) (hr1 : Kd.C (Kd.int .i64) w A1 l1.length l1) (hc1 : l1.length ≤ c1) (h : klipperef01_parts.f k l0 l1 = some (r1, r2)) :
  Calls Tryz.prog 94 #[.slice A0 l0.length c0, .slice A1 l1.length c1] w fun e w' => ∃ v0_ v1_ : Value, e = .returned (.tuple #[v0_, v1_]) ∧ Kd.V (Kd.int .i64) 3 w' w.heap.size (fun k_ => (w.heap.size ≤ k_)) v0_ r1 ∧ Kd.V (Kd.int .i64) 3 w' w.heap.size (fun k_ => (w.heap.size ≤ k_)) v1_ r2 ∧ Below w.heap.size w w' := by
 have HR0 := mk0 hr0
 have l3 := mk0 hc0
 clear hr0 hc0
 have HR1 := mk0 hr1
 have g0 := mk0 hc1
 clear hr1 hc1
 have HB := mk0 (Below.refl w.heap.size w)
 have H : (if 0 ≤ (l0.length : Int) then (if ((l0.length : Int) : Int).toNat ≤ 35184372088832 then (klipperef01_parts.l0 k l0 l1 (List.replicate ((l0.length : Int) : Int).toNat 0) ([] : List Int) (wrap64 ((l0.length : Int) - 1))) else (none)) else (none)) = some (r1, r2) := h
 clear h
 by_cases c3 : 0 ≤ (l0.length : Int)
 ·
  rw [if_pos c3] at H
  have d7 := eq_true c3
  have d8 : decide (0 ≤ (l0.length : Int)) = true := decide_eq_true c3
  clear c3
  by_cases c4 : ((l0.length : Int) : Int).toNat ≤ 35184372088832
  ·
   rw [if_pos c4] at H
   have d9 := eq_true c4
   have e1 : decide (((l0.length : Int) : Int).toNat ≤ 35184372088832) = true := decide_eq_true c4
   clear c4
   obtain ⟨e2, hy720⟩ : ∃ y_ : List Int, y_ = (List.replicate ((l0.length : Int) : Int).toNat 0) := ⟨_, rfl⟩
   replace H : (klipperef01_parts.l0 k l0 l1 e2 ([] : List Int) (wrap64 ((l0.length : Int) - 1))) = some (r1, r2) := by first | (rw [hy720]; exact H) | (rw [hy720]; exact (Option.bind_some _ _).symm.trans H) | exact (Option.bind_some _ _).symm.trans H
   have Ny720 := mk0 hy720
   clear hy720
   have H' := mk0 H
   clear H
   go_enter Tryz.func94, Tryz.ntmps94
   go_wp2_with (first | (refine gd 14 ?_; refine Kd.R_make (Kd.int .i64) _ 3 rfl (N := 14) rfl 35 _ _ rfl (l0.length : Int) rfl rfl Tryz.underlying35 (.int .i64 0) 8 info3 rfl (by decide) (by omega) 0 (ok := fun _ => True) (okp := fun _ => True) rfl (fun _ hk => hk) trivial (aD) (Nat.le_trans (Nat.mul_le_mul_right _ (aD : (l0.length : Int).toNat ≤ 35184372088832)) (by omega)) (Below.refl _ _) (Nat.le_refl _) ?_; intro b1 w5 g1 hb hg_ hnew_; clear hg_ hnew_; rw [← Ny720.out] at g1; have e3 := mk0 (Kd.R_lower (Kd.R_newM (M := fun k_ => (w.heap.size ≤ k_)) g1 (below_size (aB)) (fun k_ h_ => h_)) (below_size (aB)));replace HB := uW hb; clear hb g1))
   go_loopg [7, 8] k (fun kq v7 v8 w' => ∃ (a7 : List Int) (b4 : List Int) (a2 : Int), v8 = .int .i64 a2 ∧ Aside0 (klipperef01_parts.l0 kq l0 l1 a7 b4 a2 = some (r1, r2)) ∧ Aside0 (kq ≤ k) ∧ Aside0 (Kd.R (Kd.int .i64) 3 w' w.heap.size (fun k_ => (w.heap.size ≤ k_)) b1 a7) ∧ Aside0 (Kd.V (Kd.int .i64) 3 w' w.heap.size (fun k_ => (w.heap.size ≤ k_) ∧ some k_ ≠ (b1 : Value).ownBlock) v7 b4) ∧ Aside0 (Below w.heap.size w w'))
   case atStart => exact ⟨(e2), (([] : List Int)), (wrap64 ((l0.length : Int) - 1)), (by first | rfl | simp [*]), H', ⟨Nat.le_refl _⟩, ⟨sR e3.out⟩, ⟨Kd.V_nil _ _ _ _ _⟩, ⟨aB⟩⟩
   case round =>
    clear H'
    try clear c1
    try clear p2
    try clear c3
    try clear d7
    try clear d8
    try clear c4
    try clear d9
    try clear e1
    try clear p6
    obtain ⟨a7, b4, a2, rfl, HA, HK1, a4, a3, HB⟩ := hrel
    cases gk with
    | zero => exact absurd HA.out (by simp [klipperef01_parts.l0])
    | succ k1 =>
     have H := HA.out
     clear HA
     simp only [klipperef01_parts.l0] at H
     by_cases c7 : a2 ≥ 0
     ·
      rw [if_pos c7] at H
      have e4 : decide (0 ≤ a2) = true := decide_eq_true c7
      clear c7
      by_cases c8 : 0 ≤ a2
      ·
       rw [if_pos c8] at H
       have g2 : decide (0 ≤ a2) = true := decide_eq_true c8
       clear c8
       by_cases c9 : a2 < (l0.length : Int)
       ·
        rw [if_pos c9] at H
        have g3 : decide (a2 < (l0.length : Int)) = true := decide_eq_true c9
        clear c9
        obtain ⟨b2, hy727⟩ : ∃ y_ : List Int, y_ = (([rd l0 a2] : List Int)) := ⟨_, rfl⟩
        replace H : (if b2.length + b4.length < 17592186044416 then ((klipperef01_cut.f k1 (b2 ++ b4)).bind fun a8 => (klipperef01_parts.l1 k1 l0 l1 a7 a8 a2 0 9999)) else (none)) = some (r1, r2) := by first | (rw [hy727]; exact H) | (rw [hy727]; exact (Option.bind_some _ _).symm.trans H) | exact (Option.bind_some _ _).symm.trans H
        have Ny727 := mk0 hy727
        clear hy727
        by_cases e5 : b2.length + b4.length < 17592186044416
        ·
         rw [if_pos e5] at H
         have e6 := mk0 e5
         clear e5
         obtain ⟨c5, hy730⟩ : ∃ y_ : List Int, y_ = (b2 ++ b4) := ⟨_, rfl⟩
         replace H : ((klipperef01_cut.f k1 c5).bind fun a8 => (klipperef01_parts.l1 k1 l0 l1 a7 a8 a2 0 9999)) = some (r1, r2) := by first | (rw [hy730]; exact H) | (rw [hy730]; exact (Option.bind_some _ _).symm.trans H) | exact (Option.bind_some _ _).symm.trans H
         have Ny730 := mk0 hy730
         clear hy730
         obtain ⟨a8, A11, H⟩ := bS H
         have H' := mk0 H
         clear H
         have c6 : 0 ≤ (a2 : Int) := aD
         have d0 : a2 < (l0.length : Int) := aD
         obtain ⟨k0, e726, a9⟩ := Kd.at_int HR0.out a2 c6 d0
         cases e726
         replace a9 := (HB.out.cell (World.block_lt_of_cell? w _ a9)).trans a9
         replace c6 := eq_true c6
         replace d0 := eq_true d0
         go_wp2_with (first | (refine gd 26 ?_; refine Kd.R_lit (Kd.int .i64) _ 3 ?hg (N := 26) ?hd (xs := ([rd l0 a2] : List Int)) (inner := [.int .i64 (rd l0 a2)]) (ok := fun _ => True) (okp := fun _ => True) ?hr ?hp (fun _ hk => hk) trivial (Below.refl _ _) (Nat.le_refl _) (by simp) ?_; (case hd => rfl); (case hg => rfl); (case hr => exact aH); (case hp => exact (Reps.one (show Kd.M (Kd.int .i64) _ _ _ (rd l0 a2) [.int .i64 (rd l0 a2)] from rfl) (Reps.none _ _))); intro g4 l4 b9 hb hg_ hnew_; clear hg_ hnew_; rw [← Ny727.out] at b9; replace a3 := dV a3 (Kd.R_base b9) hb;have d2 := mk0 (Kd.R_lower (Kd.R_new' (Kd.R_newM (M := fun k_ => (w.heap.size ≤ k_)) b9 (below_size (aB)) (fun k_ h_ => h_)) (Kd.R_lt (pR a4.out))) (below_size (aB)));replace a4 := dR a4 (Kd.R_base b9) hb;replace HB := uW hb; clear hb b9; obtain ⟨k5, k6, g5⟩ := Kd.V_slice a3.out; subst g5) | ((with_reducible refine gate_builtin (b := .append) (xs := #[.tmp 26, .tmp 27]) rfl ?_); at_builtin; refine Kd.R_append_rows (Kd.int .i64) (w0 := w) w.heap.size rfl (.tmp 26) (.tmp 27) 35 3 (.int .i64 0) 8 rfl Tryz.underlying35 info3 rfl (by decide) (by omega) g4 b2 b4 _ _ _ (fun k_ => (w.heap.size ≤ k_) ∧ some k_ ≠ (b1 : Value).ownBlock) (fun _ => False) rfl rfl ?aO ?aR (fun _ _ h => h) (fun _ h => h.elim) ?aF ?aB ?aS ?aL ?_; (case aR => repeat (first | exact (Kd.V_reads' a3.out).2.2 | (with_reducible refine Kd.C_alloc ?_ _) | (with_reducible refine Kd.C_drewN ?_ _) | (with_reducible refine Kd.C_drew ?_))); (case aB => exact (aB)); (case aF => exact (fun k_ hk => ⟨(Nat.le_trans (below_size (aB)) hk), Kd.fresh' (Kd.R_lt (pR a4.out)) k_ hk⟩)); (case aO => exact (sR d2.out)); (case aS => exact (below_size (aB))); (case aL => have := e6.out; omega); intro k7 l5 ho hb hg hat; rw [← Ny730.out] at ho; replace a4 := mk0 (Kd.R_after (ok := (fun k_ => (w.heap.size ≤ k_))) (pR a4.out) hg hat);replace a3 := mk0 (Kd.V_afterv (ok := (fun k_ => (w.heap.size ≤ k_) ∧ some k_ ≠ (b1 : Value).ownBlock)) (pV a3.out) hg hat);replace HB := mk0 (hb);have b5 := mk0 (ho);clear d2; clear ho hb hg hat; obtain ⟨e7, e8, g6⟩ := Kd.R_slice b5.out; subst g6) | (refine gc 116 ?_; refine gl 29 Tryz.func116 #[.slice e7 c5.length e8] ?_; (with_reducible refine (klipperef01_cut.calls k1 (fun k_ => some k_ = (.slice e7 c5.length e8 : Value).ownBlock) _ _ c5 a8 _ ?side1 A11.out).mono ?_); (case side1 => exact Kd.R_V (Kd.R_tight rfl (b5.out))); rintro e l6 ⟨g7, rfl, b6, hb⟩; refine ⟨_, rfl, ?_⟩; replace a3 := uV a3 hb;have e9 := lV (ok' := fun k_ => (w.heap.size ≤ k_) ∧ some k_ ≠ (b1 : Value).ownBlock) b6;replace a4 := uR a4 hb;replace b5 := uR b5 hb;replace HB := uW hb; (try clear hb); (try clear b6)))
         go_loopg [9, 10] k1 (fun kq v9 k8 w' => ∃ (a6 : Int) (a5 : Int), v9 = .int .i64 a6 ∧ k8 = .int .i64 a5 ∧ Aside0 (klipperef01_parts.l1 kq l0 l1 a7 a8 a2 a6 a5 = some (r1, r2)) ∧ Aside0 (kq ≤ k1) ∧ Aside0 (Kd.R (Kd.int .i64) 3 w' w.heap.size (fun k_ => (w.heap.size ≤ k_)) b1 a7) ∧ Aside0 (Kd.V (Kd.int .i64) 3 w' w.heap.size (fun k_ => (w.heap.size ≤ k_) ∧ some k_ ≠ (b1 : Value).ownBlock) g7 a8) ∧ Aside0 (Below w.heap.size w w'))
         case atStart => exact ⟨(0), (9999), (by first | rfl | simp [*]), (by first | rfl | simp [*]), H', ⟨Nat.le_refl _⟩, ⟨sR a4.out⟩, ⟨pV e9.out⟩, ⟨aB⟩⟩
         case round =>
          clear H'
          try clear c1
          try clear p2
          try clear c3
          try clear d7
          try clear d8
          try clear c4
          try clear d9
          try clear e1
          try clear p6
          try clear c7
          try clear e4
          try clear p7
          try clear q7
          try clear hx7
          try clear c8
          try clear g2
          try clear c9
          try clear g3
          try clear e5
          try clear l7
          try clear a9
          try clear p2
          try clear p6
          try clear c6
          try clear d0
          obtain ⟨a6, a5, rfl, rfl, HA, HK2, a4, a3, HB⟩ := hrel
          cases gk with
          | zero => exact absurd HA.out (by simp [klipperef01_parts.l1])
          | succ k2 =>
           have H := HA.out
           clear HA
           simp only [klipperef01_parts.l1] at H
           by_cases d6 : a6 < a5
           ·
            rw [if_pos d6] at H
            have f0 : decide (a6 < a5) = true := decide_eq_true d6
            clear d6
            obtain ⟨b3, A19, H⟩ := bS H
            obtain ⟨d4, A20, H⟩ := bS H
            by_cases f7 : d4 = true
            ·
             subst f7
             have H1 : (klipperef01_parts.l1 k2 l0 l1 a7 a8 a2 a6 (wrap64 ((wrap64 (Int.tdiv (wrap64 ((wrap64 (a6 + a5)) + 1)) 2)) - 1))) = some (r1, r2) := by rw [if_pos rfl] at H; exact H
             clear H
             have H := H1
             clear H1
             have H' := mk0 H
             clear H
             go_wp2_with (first | (refine gc 96 ?_; refine gl 41 Tryz.func96 #[.slice none 0 0, .slice A1 l1.length c1, .int .i64 (wrap64 (Int.tdiv (wrap64 ((wrap64 (a6 + a5)) + 1)) 2)), .int .i64 0] ?_; (refine (klipperef01_joined.calls k2 _ _ ([] : List Int) _ _ l1 (wrap64 (Int.tdiv (wrap64 ((wrap64 (a6 + a5)) + 1)) 2)) 0 b3 _ ?side1 ?side2 ?side3 ?side4 A19.out).mono ?_); (case side1 => exact Kd.C_nil _ _); (case side2 => exact Nat.le_refl _); (case side3 => exact pC (Kd.C_below HR1.out HB.out)); (case side4 => exact g0.out); rintro e l8 ⟨g8, rfl, b6, hb⟩; refine ⟨_, rfl, ?_⟩; replace a3 := uV a3 hb;have b0 := lV (ok' := fun k_ => (w.heap.size ≤ k_) ∧ some k_ ≠ (b1 : Value).ownBlock) b6;replace a4 := uR a4 hb;replace HB := uW hb; (try clear hb); (try clear b6); obtain ⟨g9, i1, i2⟩ := Kd.V_slice a3.out; subst i2; obtain ⟨i3, i4, i5⟩ := Kd.V_slice b0.out; subst i5) | (refine gc 114 ?_; refine gl 42 Tryz.func114 #[.slice g9 a8.length i1, .slice i3 b3.length i4] ?_; (with_reducible refine (klipperef01_less.calls k2 _ _ a8 _ _ b3 true _ ?side1 ?side2 ?side3 ?side4 A20.out).mono ?_); (case side1 => exact pC ((Kd.V_reads' a3.out).2.2)); (case side2 => exact (Kd.V_reads' a3.out).2.1); (case side3 => exact pC ((Kd.V_reads' b0.out).2.2)); (case side4 => exact (Kd.V_reads' b0.out).2.1); rintro e w' ⟨rfl, ⟨nd, rfl⟩⟩; refine ⟨_, rfl, ?_⟩))
             go_roundg k2
             case measure => have := HK1.out; have := HK2.out; omega
             case rel => exact ⟨(a6), (wrap64 ((wrap64 (Int.tdiv (wrap64 ((wrap64 (a6 + a5)) + 1)) 2)) - 1)), (by first | rfl | simp [*]), (by first | rfl | simp [*]), H', ⟨by have := HK1.out; have := HK2.out; omega⟩, ⟨pR a4.out⟩, ⟨pV a3.out⟩, ⟨aB⟩⟩
            ·
             replace f7 := Bool.eq_false_iff.mpr f7
             subst f7
             have H1 : (klipperef01_parts.l1 k2 l0 l1 a7 a8 a2 (wrap64 (Int.tdiv (wrap64 ((wrap64 (a6 + a5)) + 1)) 2)) a5) = some (r1, r2) := by rw [if_neg (show ¬ (false = true) by decide)] at H; exact H
             clear H
             have H := H1
             clear H1
             have H' := mk0 H
             clear H
             go_wp2_with (first | (refine gc 96 ?_; refine gl 41 Tryz.func96 #[.slice none 0 0, .slice A1 l1.length c1, .int .i64 (wrap64 (Int.tdiv (wrap64 ((wrap64 (a6 + a5)) + 1)) 2)), .int .i64 0] ?_; (refine (klipperef01_joined.calls k2 _ _ ([] : List Int) _ _ l1 (wrap64 (Int.tdiv (wrap64 ((wrap64 (a6 + a5)) + 1)) 2)) 0 b3 _ ?side1 ?side2 ?side3 ?side4 A19.out).mono ?_); (case side1 => exact Kd.C_nil _ _); (case side2 => exact Nat.le_refl _); (case side3 => exact pC (Kd.C_below HR1.out HB.out)); (case side4 => exact g0.out); rintro e l9 ⟨g8, rfl, b6, hb⟩; refine ⟨_, rfl, ?_⟩; replace a3 := uV a3 hb;have b0 := lV (ok' := fun k_ => (w.heap.size ≤ k_) ∧ some k_ ≠ (b1 : Value).ownBlock) b6;replace a4 := uR a4 hb;replace HB := uW hb; (try clear hb); (try clear b6); obtain ⟨i6, i7, i8⟩ := Kd.V_slice a3.out; subst i8; obtain ⟨i9, j0, j1⟩ := Kd.V_slice b0.out; subst j1) | (refine gc 114 ?_; refine gl 42 Tryz.func114 #[.slice i6 a8.length i7, .slice i9 b3.length j0] ?_; (with_reducible refine (klipperef01_less.calls k2 _ _ a8 _ _ b3 false _ ?side1 ?side2 ?side3 ?side4 A20.out).mono ?_); (case side1 => exact pC ((Kd.V_reads' a3.out).2.2)); (case side2 => exact (Kd.V_reads' a3.out).2.1); (case side3 => exact pC ((Kd.V_reads' b0.out).2.2)); (case side4 => exact (Kd.V_reads' b0.out).2.1); rintro e w' ⟨rfl, ⟨nd, rfl⟩⟩; refine ⟨_, rfl, ?_⟩))
             go_roundg k2
             case measure => have := HK1.out; have := HK2.out; omega
             case rel => exact ⟨(wrap64 (Int.tdiv (wrap64 ((wrap64 (a6 + a5)) + 1)) 2)), (a5), (by first | rfl | simp [*]), (by first | rfl | simp [*]), H', ⟨by have := HK1.out; have := HK2.out; omega⟩, ⟨pR a4.out⟩, ⟨pV a3.out⟩, ⟨aB⟩⟩
           ·
            rw [if_neg d6] at H
            have f0 : decide (a6 < a5) = false := decide_eq_false d6
            clear d6
            by_cases f8 : 0 ≤ a2
            ·
             rw [if_pos f8] at H
             have k3 : decide (0 ≤ a2) = true := decide_eq_true f8
             clear f8
             by_cases f9 : a2 < (a7.length : Int)
             ·
              rw [if_pos f9] at H
              have k4 : decide (a2 < (a7.length : Int)) = true := decide_eq_true f9
              clear f9
              obtain ⟨d5, hy736⟩ : ∃ y_ : List Int, y_ = (a7.set (a2 : Int).toNat a6) := ⟨_, rfl⟩
              replace H : ((klipperef01_joined.f k2 a8 l1 (wrap64 (-a6)) 0).bind fun b7 => (klipperef01_parts.l0 k2 l0 l1 d5 b7 (wrap64 (a2 - 1)))) = some (r1, r2) := by first | (rw [hy736]; exact H) | (rw [hy736]; exact (Option.bind_some _ _).symm.trans H) | exact (Option.bind_some _ _).symm.trans H
              have Ny736 := mk0 hy736
              clear hy736
              obtain ⟨b7, A31, H⟩ := bS H
              have H' := mk0 H
              clear H
              have j2 : 0 ≤ (a2 : Int) := aD
              have j3 : (a2 : Int) < ((a7.length : Int) : Int) := aD
              obtain ⟨b8, d1, f1, f2, gl30, cl30, HG30⟩ := Kd.R_form a4.out (by omega)
              (first | cases f1 | (injection f1 with ea_ en_ ec_; (first | subst ea_ | (injection ea_ with ea_; subst ea_)); subst ec_; clear en_))
              have GB30 := mk0 f2
              have GG30 := mk0 HG30
              clear f2 gl30 HG30
              obtain ⟨j4, hf30_0⟩ := Kd.R_celln 0 a4.out (a2 : Int) j2 j3
              replace j2 := eq_true j2
              replace j3 := eq_true j3
              have HP32 := Kd.R_putg a4.out (a2 : Int) a6
              go_wp2_with (first | ((with_reducible refine gate_store (t := 3) (p := 49) rfl ?_); refine store_event (t := 3) (p := 49) (v := ?vo_w33) (w1 := (wr.setCell ⟨b8, (a2 : Int).toNat, none⟩ (.int .i64 a6))) ?hg ?ho ?hn ?hr ?_; (case ho => rfl); (case hg => rfl); (case hn => rfl); (case hr => exact aH); intro j5 hw; have hg : wr.grownBy j5 (some b8) := (by rw [hw]; exact HP32.2); have hp_ : Kd.R (Kd.int .i64) 3 j5 w.heap.size (fun k_ => (w.heap.size ≤ k_)) (.slice (some ⟨b8, 0, none⟩) a7.length d1) d5 := (by rw [hw, Ny736.out]; exact HP32.1); clear HP32; replace a4 := mk0 (hp_);replace a3 := mk0 (Kd.V_afterv (v := (.slice (some ⟨b8, 0, none⟩) a7.length d1)) (v1 := (.slice (some ⟨b8, 0, none⟩) a7.length d1)) (ok := (fun k_ => (w.heap.size ≤ k_))) (pV a3.out) hg (.inl rfl));replace HB := mk0 ((by rw [hw]; exact below_set (HB.out) GB30.out : Below w.heap.size w j5)); clear hg hw hp_; obtain ⟨j6, j7, j8⟩ := Kd.V_slice a3.out; subst j8) | (refine gc 96 ?_; refine gl 54 Tryz.func96 #[.slice j6 a8.length j7, .slice A1 l1.length c1, .int .i64 (wrap64 (-a6)), .int .i64 0] ?_; (with_reducible refine (klipperef01_joined.calls k2 _ _ a8 _ _ l1 (wrap64 (-a6)) 0 b7 _ ?side1 ?side2 ?side3 ?side4 A31.out).mono ?_); (case side1 => exact pC ((Kd.V_reads' a3.out).2.2)); (case side2 => exact (Kd.V_reads' a3.out).2.1); (case side3 => exact pC (Kd.C_below HR1.out HB.out)); (case side4 => exact g0.out); rintro e m0 ⟨k9, rfl, b6, hb⟩; refine ⟨_, rfl, ?_⟩; replace a3 := uV a3 hb;have f3 := lV (ok' := fun k_ => (w.heap.size ≤ k_) ∧ some k_ ≠ (.slice (some ⟨b8, 0, none⟩) a7.length d1 : Value).ownBlock) b6;replace a4 := uR a4 hb;replace HB := uW hb; (try clear hb); (try clear b6)))
              go_roundg k2
              case measure => have := HK1.out; have := HK2.out; omega
              case rel => exact ⟨(d5), (b7), (wrap64 (a2 - 1)), (by first | rfl | simp [*]), H', ⟨by have := HK1.out; have := HK2.out; omega⟩, ⟨pR a4.out⟩, ⟨pV f3.out⟩, ⟨aB⟩⟩
             ·
              rw [if_neg f9] at H
              exact absurd H (by simp)
            ·
             rw [if_neg f8] at H
             exact absurd H (by simp)
        ·
         rw [if_neg e5] at H
         exact absurd H (by simp)
       ·
        rw [if_neg c9] at H
        exact absurd H (by simp)
      ·
       rw [if_neg c8] at H
       exact absurd H (by simp)
     ·
      rw [if_neg c7] at H
      have e4 : decide (0 ≤ a2) = false := decide_eq_false c7
      clear c7
      obtain ⟨d3, A36, H⟩ := bS H
      simp only [Option.some.injEq, Prod.mk.injEq] at H
      obtain ⟨rfl, rfl⟩ := H
      obtain ⟨f4, f5, j9⟩ := Kd.R_slice a4.out
      subst j9
      go_wp2_with (first | (refine gc 116 ?_; refine gl 56 Tryz.func116 #[.slice f4 a7.length f5] ?_; (with_reducible refine (klipperef01_cut.calls k1 (fun k_ => some k_ = (.slice f4 a7.length f5 : Value).ownBlock) _ _ a7 d3 _ ?side1 A36.out).mono ?_); (case side1 => exact Kd.R_V (Kd.R_tight rfl (a4.out))); rintro e m1 ⟨l2, rfl, b6, hb⟩; refine ⟨_, rfl, ?_⟩; replace a3 := uV a3 hb;have f6 := lV (ok' := fun k_ => (w.heap.size ≤ k_)) b6;replace a4 := uR a4 hb;replace HB := uW hb; (try clear hb); (try clear b6)))
      go_ret2
      exact ⟨_, _, by first | rfl | (simp [*] <;> rfl), pV f6.out, sV a3.out, aB⟩
  ·
   rw [if_neg c4] at H
   exact absurd H (by simp)
 ·
  rw [if_neg c3] at H
  exact absurd H (by simp)
mutual
def klipperef01_DivMod.j0 : Nat → ByteArray → ByteArray → Int → Int → Bool → Option (ByteArray × ByteArray)
 | 0, _, _, _, _, _ => none
 | k + 1, x0, x1, x6, x8, x31 => if x31 = true then (if x8 = 0 then (none) else (if (Int.tmod x6 x8) < 0 then ((klipperef01_Of.f (wrap64 (Int.tdiv (wrap64 (x6 - (wrap64 ((Int.tmod x6 x8) + (mx x8 (wrap64 (-x8))))))) x8))).bind fun e1 => ((klipperef01_Of.f (wrap64 ((Int.tmod x6 x8) + (mx x8 (wrap64 (-x8)))))).bind fun e2 => (some (e1, e2)))) else ((klipperef01_Of.f (wrap64 (Int.tdiv x6 x8))).bind fun e7 => ((klipperef01_Of.f (Int.tmod x6 x8)).bind fun e8 => (some (e7, e8)))))) else ((klipperef01_Split.f x0).bind fun b9 => ((klipperef01_Split.f x1).bind fun b4 => ((klipperef01_take.f k b9.2).bind fun d8 => ((klipperef01_take.f k b4.2).bind fun d9 => ((klipperef01_parts.f k d8 d9).bind fun b5 => (if b9.1 = true then (klipperef01_DivMod.j1 k b9.1 b4.1 b4.2 b5.1 b5.2 (decide (0 < b5.2.length))) else (klipperef01_DivMod.j1 k b9.1 b4.1 b4.2 b5.1 b5.2 false)))))))
def klipperef01_DivMod.j1 : Nat → Bool → Bool → ByteArray → List Int → List Int → Bool → Option (ByteArray × ByteArray)
 | 0, _, _, _, _, _, _ => none
 | k + 1, x12, x14, x15, x16, x17, x78 => if x78 = true then ((klipperef01_joined.f k x16 (([1] : List Int)) 1 0).bind fun d1 => ((klipperef01_take.f k x15).bind fun d2 => ((klipperef01_joined.f k d2 x17 (-1) 0).bind fun d3 => ((klipperef01_made.f k (!(x12 == x14)) d1).bind fun e3 => ((klipperef01_made.f k false d3).bind fun e4 => (some (e3, e4))))))) else ((klipperef01_made.f k (!(x12 == x14)) x16).bind fun e9 => ((klipperef01_made.f k false x17).bind fun f0 => (some (e9, f0))))
end
def klipperef01_DivMod.f (k : Nat) (a0 : ByteArray) (a1 : ByteArray) : Option (ByteArray × ByteArray) := (klipperef01_brief.f k a0).bind fun d4 => ((klipperef01_brief.f k a1).bind fun d5 => (if d4.2 = true then (klipperef01_DivMod.j0 k a0 a1 d4.1 d5.1 d5.2) else (klipperef01_DivMod.j0 k a0 a1 d4.1 d5.1 false)))
theorem klipperef01_DivMod.mono_l : ∀ k, (∀ y0 y1 y2 y3 y4, LeO (klipperef01_DivMod.j0 k y0 y1 y2 y3 y4) (klipperef01_DivMod.j0 (k + 1) y0 y1 y2 y3 y4)) ∧ (∀ y0 y1 y2 y3 y4 y5, LeO (klipperef01_DivMod.j1 k y0 y1 y2 y3 y4 y5) (klipperef01_DivMod.j1 (k + 1) y0 y1 y2 y3 y4 y5))
 | 0 => ⟨fun _ _ _ _ _ r h => by simp [klipperef01_DivMod.j0] at h, fun _ _ _ _ _ _ r h => by simp [klipperef01_DivMod.j1] at h⟩
 | k + 1 => by
  obtain ⟨ih0, ih1⟩ := klipperef01_DivMod.mono_l k
  refine ⟨?_, ?_⟩
  ·
   intro y0 y1 y2 y3 y4
   unfold klipperef01_DivMod.j0
   repeat' first | (with_reducible first | exact ih0 .. | exact ih1 .. | exact klipperef01_brief.mono .. | exact klipperef01_joined.mono .. | exact klipperef01_made.mono .. | exact klipperef01_parts.mono .. | exact klipperef01_take.mono .. | exact LeO.refl _ | exact LeO.none _ | refine LeO.ite ?_ ?_ | refine LeO.bind ?_ (fun _ => ?_))
  ·
   intro y0 y1 y2 y3 y4 y5
   unfold klipperef01_DivMod.j1
   repeat' first | (with_reducible first | exact ih0 .. | exact ih1 .. | exact klipperef01_brief.mono .. | exact klipperef01_joined.mono .. | exact klipperef01_made.mono .. | exact klipperef01_parts.mono .. | exact klipperef01_take.mono .. | exact LeO.refl _ | exact LeO.none _ | refine LeO.ite ?_ ?_ | refine LeO.bind ?_ (fun _ => ?_))
theorem klipperef01_DivMod.mono : ∀ a0 a1 k, LeO (klipperef01_DivMod.f k a0 a1) (klipperef01_DivMod.f (k + 1) a0 a1) := by
 intro a0 a1 k
 obtain ⟨ih0, ih1⟩ := klipperef01_DivMod.mono_l k
 unfold klipperef01_DivMod.f
 repeat' first | (with_reducible first | exact ih0 .. | exact ih1 .. | exact klipperef01_brief.mono .. | exact klipperef01_joined.mono .. | exact klipperef01_made.mono .. | exact klipperef01_parts.mono .. | exact klipperef01_take.mono .. | exact LeO.refl _ | exact LeO.none _ | refine LeO.ite ?_ ?_ | refine LeO.bind ?_ (fun _ => ?_))
set_option maxHeartbeats 8000000 in
set_option maxRecDepth 100000 in
theorem klipperef01_DivMod.calls (k : Nat) (a0 : ByteArray) (a1 : ByteArray) (r1 : ByteArray) (r2 : ByteArray) (w : World) (hG : GW w) (h : klipperef01_DivMod.f k a0 a1 = some (r1, r2)) :
  Calls Tryz.prog 74 #[.string a0, .string a1] w fun e w' => e = .returned (.tuple #[.string r1, .string r2]) ∧ Below w.heap.size w w' := by
 have HB := mk0 (Below.refl w.heap.size w)
 have HG := mk0 hG
 clear hG
 have H : ((klipperef01_brief.f k a0).bind fun d4 => ((klipperef01_brief.f k a1).bind fun d5 => (if d4.2 = true then (klipperef01_DivMod.j0 k a0 a1 d4.1 d5.1 d5.2) else (klipperef01_DivMod.j0 k a0 a1 d4.1 d5.1 false)))) = some (r1, r2) := h
 clear h
 obtain ⟨⟨b0, g4⟩, A3, H⟩ := bS H
 (try dsimp only at H)
 obtain ⟨⟨a6, f4⟩, A4, H⟩ := bS H
 (try dsimp only at H)
 have k7 := mk0 H
 clear H
 go_enter Tryz.func74, Tryz.ntmps74
 go_upto_region 3 with (first | (go_at_call 92; (with_reducible refine (klipperef01_brief.calls k a0 b0 g4 _ A3.out).mono ?_); rintro e w' ⟨rfl, ⟨nd, rfl⟩⟩; (try first | exact ⟨rfl, _, World.drewN_drewN _ _ _⟩ | exact ⟨rfl, _, Eq.trans (World.drewN_drewN _ _ _) (congrArg (World.drewN _) (Nat.add_assoc _ _ _))⟩)) | (go_at_call 92; (with_reducible refine (klipperef01_brief.calls k a1 a6 f4 _ A4.out).mono ?_); rintro e w' ⟨rfl, ⟨nd, rfl⟩⟩; (try first | exact ⟨rfl, _, World.drewN_drewN _ _ _⟩ | exact ⟨rfl, _, Eq.trans (World.drewN_drewN _ _ _) (congrArg (World.drewN _) (Nat.add_assoc _ _ _))⟩)))
 repeat (go_quiet (first | (go_at_call 92; (with_reducible refine (klipperef01_brief.calls k a0 b0 g4 _ A3.out).mono ?_); rintro e w' ⟨rfl, ⟨nd, rfl⟩⟩; (try first | exact ⟨rfl, _, World.drewN_drewN _ _ _⟩ | exact ⟨rfl, _, Eq.trans (World.drewN_drewN _ _ _) (congrArg (World.drewN _) (Nat.add_assoc _ _ _))⟩)) | (go_at_call 92; (with_reducible refine (klipperef01_brief.calls k a1 a6 f4 _ A4.out).mono ?_); rintro e w' ⟨rfl, ⟨nd, rfl⟩⟩; (try first | exact ⟨rfl, _, World.drewN_drewN _ _ _⟩ | exact ⟨rfl, _, Eq.trans (World.drewN_drewN _ _ _) (congrArg (World.drewN _) (Nat.add_assoc _ _ _))⟩))); go_upto_region 3 with (first | (go_at_call 92; (with_reducible refine (klipperef01_brief.calls k a0 b0 g4 _ A3.out).mono ?_); rintro e w' ⟨rfl, ⟨nd, rfl⟩⟩; (try first | exact ⟨rfl, _, World.drewN_drewN _ _ _⟩ | exact ⟨rfl, _, Eq.trans (World.drewN_drewN _ _ _) (congrArg (World.drewN _) (Nat.add_assoc _ _ _))⟩)) | (go_at_call 92; (with_reducible refine (klipperef01_brief.calls k a1 a6 f4 _ A4.out).mono ?_); rintro e w' ⟨rfl, ⟨nd, rfl⟩⟩; (try first | exact ⟨rfl, _, World.drewN_drewN _ _ _⟩ | exact ⟨rfl, _, Eq.trans (World.drewN_drewN _ _ _) (congrArg (World.drewN _) (Nat.add_assoc _ _ _))⟩))))
 (try simp only [Act.put, List.setIfInBounds_toArray, List.set_cons_zero, List.set_cons_succ])
 go_cut [31] (fun m7 wc => ∃ (kq : Nat) (f1 : Bool), m7 = .bool f1 ∧ Aside0 (klipperef01_DivMod.j0 kq a0 a1 b0 a6 f1 = some (r1, r2)) ∧ Aside0 (kq ≤ k) ∧ Aside0 (Below w.heap.size w wc))
 case first =>
  have H := k7.out
  clear k7
  by_cases c6 : g4 = true
  ·
   subst c6
   have H1 : (klipperef01_DivMod.j0 k a0 a1 b0 a6 f4) = some (r1, r2) := by rw [if_pos rfl] at H; exact H
   clear H
   have H := H1
   clear H1
   have H' := mk0 H
   clear H
   go_wp2
   repeat (go_quiet (fail); try go_wp2)
   go_meet
   case rel => exact ⟨_, (f4), (by first | rfl | simp [*]), H', ⟨by omega⟩, ⟨aB⟩⟩
  ·
   replace c6 := Bool.eq_false_iff.mpr c6
   subst c6
   have H1 : (klipperef01_DivMod.j0 k a0 a1 b0 a6 false) = some (r1, r2) := by rw [if_neg (show ¬ (false = true) by decide)] at H; exact H
   clear H
   have H := H1
   clear H1
   have H' := mk0 H
   clear H
   go_wp2
   repeat (go_quiet (fail); try go_wp2)
   go_meet
   case rel => exact ⟨_, (false), (by first | rfl | simp [*]), H', ⟨by omega⟩, ⟨aB⟩⟩
 case rest =>
  clear k7
  try clear p2
  try clear c6
  obtain ⟨kq, f1, rfl, HA, HJ4, HB⟩ := hcut
  cases kq with
  | zero => exact absurd HA.out (by simp [klipperef01_DivMod.j0])
  | succ kj4 =>
   have H := HA.out
   clear HA
   simp only [klipperef01_DivMod.j0] at H
   by_cases c7 : f1 = true
   ·
    subst c7
    have H1 : (if a6 = 0 then (none) else (if (Int.tmod b0 a6) < 0 then ((klipperef01_Of.f (wrap64 (Int.tdiv (wrap64 (b0 - (wrap64 ((Int.tmod b0 a6) + (mx a6 (wrap64 (-a6))))))) a6))).bind fun e1 => ((klipperef01_Of.f (wrap64 ((Int.tmod b0 a6) + (mx a6 (wrap64 (-a6)))))).bind fun e2 => (some (e1, e2)))) else ((klipperef01_Of.f (wrap64 (Int.tdiv b0 a6))).bind fun e7 => ((klipperef01_Of.f (Int.tmod b0 a6)).bind fun e8 => (some (e7, e8)))))) = some (r1, r2) := by rw [if_pos rfl] at H; exact H
    clear H
    have H := H1
    clear H1
    by_cases c8 : a6 = 0
    ·
     rw [if_pos c8] at H
     exact absurd H (by simp)
    ·
     rw [if_neg c8] at H
     have k8 : (a6 == 0) = false := beq_eq_false_iff_ne.mpr c8
     have k9 : (a6 != 0) = true := bne_iff_ne.mpr c8
     by_cases c9 : (Int.tmod b0 a6) < 0
     ·
      rw [if_pos c9] at H
      have g9 : decide ((Int.tmod b0 a6) < 0) = true := decide_eq_true c9
      clear c9
      obtain ⟨ji10, hji10⟩ : ∃ j_ : Int, (mx a6 (wrap64 (-a6))) = j_ := ⟨_, rfl⟩
      replace H : ((klipperef01_Of.f (wrap64 (Int.tdiv (wrap64 (b0 - (wrap64 ((Int.tmod b0 a6) + (ji10))))) a6))).bind fun e1 => ((klipperef01_Of.f (wrap64 ((Int.tmod b0 a6) + (ji10)))).bind fun e2 => (some (e1, e2)))) = some (r1, r2) := by first | (rw [hji10] at H; exact H) | (simp only [hji10] at H ⊢; exact H)
      have hji10_ : (if a6 < (wrap64 (-a6)) then (wrap64 (-a6)) else a6) = ji10 := hji10
      obtain ⟨e1, A11, H⟩ := bS H
      obtain ⟨e2, A12, H⟩ := bS H
      simp only [Option.some.injEq, Prod.mk.injEq] at H
      obtain ⟨rfl, rfl⟩ := H
      go_wp2_with (first | (go_at_call 93; (with_reducible refine (klipperef01_Of.calls (wrap64 (Int.tdiv (wrap64 (b0 - (wrap64 ((Int.tmod b0 a6) + (ji10))))) a6)) e1 _ ?side1 A11.out).mono ?_); (case side1 => exact GW.below HG.out (aB)); rintro e l2 ⟨rfl, hb⟩; replace HB := uW hb; (try clear hb); (try clear hb2); (try clear hk); (try clear hi)) | (go_at_call 93; (with_reducible refine (klipperef01_Of.calls (wrap64 ((Int.tmod b0 a6) + (ji10))) e2 _ ?side1 A12.out).mono ?_); (case side1 => exact GW.below HG.out (aB)); rintro e l3 ⟨rfl, hb⟩; replace HB := uW hb; (try clear hb); (try clear hb2); (try clear hk); (try clear hi)))
      repeat (go_quiet (first | (go_at_call 93; (with_reducible refine (klipperef01_Of.calls (wrap64 (Int.tdiv (wrap64 (b0 - (wrap64 ((Int.tmod b0 a6) + (ji10))))) a6)) e1 _ ?side1 A11.out).mono ?_); (case side1 => exact GW.below HG.out (aB)); rintro e l2 ⟨rfl, hb⟩; replace HB := uW hb; (try clear hb); (try clear hb2); (try clear hk); (try clear hi)) | (go_at_call 93; (with_reducible refine (klipperef01_Of.calls (wrap64 ((Int.tmod b0 a6) + (ji10))) e2 _ ?side1 A12.out).mono ?_); (case side1 => exact GW.below HG.out (aB)); rintro e l3 ⟨rfl, hb⟩; replace HB := uW hb; (try clear hb); (try clear hb2); (try clear hk); (try clear hi))); try go_wp2_with (first | (go_at_call 93; (with_reducible refine (klipperef01_Of.calls (wrap64 (Int.tdiv (wrap64 (b0 - (wrap64 ((Int.tmod b0 a6) + (ji10))))) a6)) e1 _ ?side1 A11.out).mono ?_); (case side1 => exact GW.below HG.out (aB)); rintro e l2 ⟨rfl, hb⟩; replace HB := uW hb; (try clear hb); (try clear hb2); (try clear hk); (try clear hi)) | (go_at_call 93; (with_reducible refine (klipperef01_Of.calls (wrap64 ((Int.tmod b0 a6) + (ji10))) e2 _ ?side1 A12.out).mono ?_); (case side1 => exact GW.below HG.out (aB)); rintro e l3 ⟨rfl, hb⟩; replace HB := uW hb; (try clear hb); (try clear hb2); (try clear hk); (try clear hi))))
      go_ret2
      exact ⟨by first | rfl | (simp [errW_none, errW_some] <;> rfl) | (simp only [← hji10]; first | rfl | (simp [errW_none, errW_some] <;> rfl)) | (simp [*, errW_none, errW_some] <;> rfl), aB⟩
     ·
      rw [if_neg c9] at H
      have g9 : decide ((Int.tmod b0 a6) < 0) = false := decide_eq_false c9
      clear c9
      obtain ⟨e7, A15, H⟩ := bS H
      obtain ⟨e8, A16, H⟩ := bS H
      simp only [Option.some.injEq, Prod.mk.injEq] at H
      obtain ⟨rfl, rfl⟩ := H
      go_wp2_with (first | (go_at_call 93; (with_reducible refine (klipperef01_Of.calls (wrap64 (Int.tdiv b0 a6)) e7 _ ?side1 A15.out).mono ?_); (case side1 => exact GW.below HG.out (aB)); rintro e l4 ⟨rfl, hb⟩; replace HB := uW hb; (try clear hb); (try clear hb2); (try clear hk); (try clear hi)) | (go_at_call 93; (with_reducible refine (klipperef01_Of.calls (Int.tmod b0 a6) e8 _ ?side1 A16.out).mono ?_); (case side1 => exact GW.below HG.out (aB)); rintro e l5 ⟨rfl, hb⟩; replace HB := uW hb; (try clear hb); (try clear hb2); (try clear hk); (try clear hi)))
      repeat (go_quiet (first | (go_at_call 93; (with_reducible refine (klipperef01_Of.calls (wrap64 (Int.tdiv b0 a6)) e7 _ ?side1 A15.out).mono ?_); (case side1 => exact GW.below HG.out (aB)); rintro e l4 ⟨rfl, hb⟩; replace HB := uW hb; (try clear hb); (try clear hb2); (try clear hk); (try clear hi)) | (go_at_call 93; (with_reducible refine (klipperef01_Of.calls (Int.tmod b0 a6) e8 _ ?side1 A16.out).mono ?_); (case side1 => exact GW.below HG.out (aB)); rintro e l5 ⟨rfl, hb⟩; replace HB := uW hb; (try clear hb); (try clear hb2); (try clear hk); (try clear hi))); try go_wp2_with (first | (go_at_call 93; (with_reducible refine (klipperef01_Of.calls (wrap64 (Int.tdiv b0 a6)) e7 _ ?side1 A15.out).mono ?_); (case side1 => exact GW.below HG.out (aB)); rintro e l4 ⟨rfl, hb⟩; replace HB := uW hb; (try clear hb); (try clear hb2); (try clear hk); (try clear hi)) | (go_at_call 93; (with_reducible refine (klipperef01_Of.calls (Int.tmod b0 a6) e8 _ ?side1 A16.out).mono ?_); (case side1 => exact GW.below HG.out (aB)); rintro e l5 ⟨rfl, hb⟩; replace HB := uW hb; (try clear hb); (try clear hb2); (try clear hk); (try clear hi))))
      go_ret2
      exact ⟨by first | rfl | (simp [*] <;> rfl), aB⟩
   ·
    replace c7 := Bool.eq_false_iff.mpr c7
    subst c7
    have H1 : ((klipperef01_Split.f a0).bind fun b9 => ((klipperef01_Split.f a1).bind fun b4 => ((klipperef01_take.f kj4 b9.2).bind fun d8 => ((klipperef01_take.f kj4 b4.2).bind fun d9 => ((klipperef01_parts.f kj4 d8 d9).bind fun b5 => (if b9.1 = true then (klipperef01_DivMod.j1 kj4 b9.1 b4.1 b4.2 b5.1 b5.2 (decide (0 < b5.2.length))) else (klipperef01_DivMod.j1 kj4 b9.1 b4.1 b4.2 b5.1 b5.2 false))))))) = some (r1, r2) := by rw [if_neg (show ¬ (false = true) by decide)] at H; exact H
    clear H
    have H := H1
    clear H1
    obtain ⟨⟨c4, f3⟩, A19, H⟩ := bS H
    (try dsimp only at H)
    obtain ⟨⟨b8, c5⟩, A20, H⟩ := bS H
    (try dsimp only at H)
    obtain ⟨d8, A21, H⟩ := bS H
    obtain ⟨d9, A22, H⟩ := bS H
    obtain ⟨⟨b7, b3⟩, A23, H⟩ := bS H
    (try dsimp only at H)
    have g6 := mk0 H
    clear H
    go_upto_region 12 with (first | (go_at_call 68; (with_reducible refine (klipperef01_Split.calls a0 c4 f3 _ A19.out).mono ?_); rintro e w' ⟨rfl, ⟨nd, rfl⟩⟩; (try first | exact ⟨rfl, _, World.drewN_drewN _ _ _⟩ | exact ⟨rfl, _, Eq.trans (World.drewN_drewN _ _ _) (congrArg (World.drewN _) (Nat.add_assoc _ _ _))⟩)) | (go_at_call 68; (with_reducible refine (klipperef01_Split.calls a1 b8 c5 _ A20.out).mono ?_); rintro e w' ⟨rfl, ⟨nd, rfl⟩⟩; (try first | exact ⟨rfl, _, World.drewN_drewN _ _ _⟩ | exact ⟨rfl, _, Eq.trans (World.drewN_drewN _ _ _) (congrArg (World.drewN _) (Nat.add_assoc _ _ _))⟩)) | (go_at_call 95; (with_reducible refine (klipperef01_take.calls kj4 f3 d8 _ A21.out).mono ?_); rintro e l6 ⟨i1, rfl, b1, hb⟩; have a8 := lV (ok' := fun k_ => True) b1;replace HB := uW hb; (try clear hb); (try clear b1)) | (go_at_call 95; (with_reducible refine (klipperef01_take.calls kj4 c5 d9 _ A22.out).mono ?_); rintro e l7 ⟨i2, rfl, b1, hb⟩; replace a8 := uV a8 hb;have b2 := lV (ok' := fun k_ => True) b1;replace HB := uW hb; (try clear hb); (try clear b1); obtain ⟨i3, i4, f5⟩ := Kd.V_slice a8.out; subst f5; obtain ⟨i5, i6, f6⟩ := Kd.V_slice b2.out; subst f6) | (go_at_call 94; (with_reducible refine (klipperef01_parts.calls kj4 _ _ d8 _ _ d9 b7 b3 _ ?side1 ?side2 ?side3 ?side4 A23.out).mono ?_); (case side1 => exact pC ((Kd.V_reads' a8.out).2.2)); (case side2 => exact (Kd.V_reads' a8.out).2.1); (case side3 => exact pC ((Kd.V_reads' b2.out).2.2)); (case side4 => exact (Kd.V_reads' b2.out).2.1); rintro e l8 ⟨g7, g8, rfl, b1, g5, hb⟩; replace a8 := uV a8 hb;replace b2 := uV b2 hb;have f2 := lV (ok' := fun k_ => True) b1;have e6 := lV (ok' := fun k_ => True) g5;replace HB := uW hb; (try clear hb); (try clear b1); (try clear g5)))
    repeat (go_quiet (first | (go_at_call 68; (with_reducible refine (klipperef01_Split.calls a0 c4 f3 _ A19.out).mono ?_); rintro e w' ⟨rfl, ⟨nd, rfl⟩⟩; (try first | exact ⟨rfl, _, World.drewN_drewN _ _ _⟩ | exact ⟨rfl, _, Eq.trans (World.drewN_drewN _ _ _) (congrArg (World.drewN _) (Nat.add_assoc _ _ _))⟩)) | (go_at_call 68; (with_reducible refine (klipperef01_Split.calls a1 b8 c5 _ A20.out).mono ?_); rintro e w' ⟨rfl, ⟨nd, rfl⟩⟩; (try first | exact ⟨rfl, _, World.drewN_drewN _ _ _⟩ | exact ⟨rfl, _, Eq.trans (World.drewN_drewN _ _ _) (congrArg (World.drewN _) (Nat.add_assoc _ _ _))⟩)) | (go_at_call 95; (with_reducible refine (klipperef01_take.calls kj4 f3 d8 _ A21.out).mono ?_); rintro e l6 ⟨i1, rfl, b1, hb⟩; have a8 := lV (ok' := fun k_ => True) b1;replace HB := uW hb; (try clear hb); (try clear b1)) | (go_at_call 95; (with_reducible refine (klipperef01_take.calls kj4 c5 d9 _ A22.out).mono ?_); rintro e l7 ⟨i2, rfl, b1, hb⟩; replace a8 := uV a8 hb;have b2 := lV (ok' := fun k_ => True) b1;replace HB := uW hb; (try clear hb); (try clear b1); obtain ⟨i3, i4, f5⟩ := Kd.V_slice a8.out; subst f5; obtain ⟨i5, i6, f6⟩ := Kd.V_slice b2.out; subst f6) | (go_at_call 94; (with_reducible refine (klipperef01_parts.calls kj4 _ _ d8 _ _ d9 b7 b3 _ ?side1 ?side2 ?side3 ?side4 A23.out).mono ?_); (case side1 => exact pC ((Kd.V_reads' a8.out).2.2)); (case side2 => exact (Kd.V_reads' a8.out).2.1); (case side3 => exact pC ((Kd.V_reads' b2.out).2.2)); (case side4 => exact (Kd.V_reads' b2.out).2.1); rintro e l8 ⟨g7, g8, rfl, b1, g5, hb⟩; replace a8 := uV a8 hb;replace b2 := uV b2 hb;have f2 := lV (ok' := fun k_ => True) b1;have e6 := lV (ok' := fun k_ => True) g5;replace HB := uW hb; (try clear hb); (try clear b1); (try clear g5))); go_upto_region 12 with (first | (go_at_call 68; (with_reducible refine (klipperef01_Split.calls a0 c4 f3 _ A19.out).mono ?_); rintro e w' ⟨rfl, ⟨nd, rfl⟩⟩; (try first | exact ⟨rfl, _, World.drewN_drewN _ _ _⟩ | exact ⟨rfl, _, Eq.trans (World.drewN_drewN _ _ _) (congrArg (World.drewN _) (Nat.add_assoc _ _ _))⟩)) | (go_at_call 68; (with_reducible refine (klipperef01_Split.calls a1 b8 c5 _ A20.out).mono ?_); rintro e w' ⟨rfl, ⟨nd, rfl⟩⟩; (try first | exact ⟨rfl, _, World.drewN_drewN _ _ _⟩ | exact ⟨rfl, _, Eq.trans (World.drewN_drewN _ _ _) (congrArg (World.drewN _) (Nat.add_assoc _ _ _))⟩)) | (go_at_call 95; (with_reducible refine (klipperef01_take.calls kj4 f3 d8 _ A21.out).mono ?_); rintro e l6 ⟨i1, rfl, b1, hb⟩; have a8 := lV (ok' := fun k_ => True) b1;replace HB := uW hb; (try clear hb); (try clear b1)) | (go_at_call 95; (with_reducible refine (klipperef01_take.calls kj4 c5 d9 _ A22.out).mono ?_); rintro e l7 ⟨i2, rfl, b1, hb⟩; replace a8 := uV a8 hb;have b2 := lV (ok' := fun k_ => True) b1;replace HB := uW hb; (try clear hb); (try clear b1); obtain ⟨i3, i4, f5⟩ := Kd.V_slice a8.out; subst f5; obtain ⟨i5, i6, f6⟩ := Kd.V_slice b2.out; subst f6) | (go_at_call 94; (with_reducible refine (klipperef01_parts.calls kj4 _ _ d8 _ _ d9 b7 b3 _ ?side1 ?side2 ?side3 ?side4 A23.out).mono ?_); (case side1 => exact pC ((Kd.V_reads' a8.out).2.2)); (case side2 => exact (Kd.V_reads' a8.out).2.1); (case side3 => exact pC ((Kd.V_reads' b2.out).2.2)); (case side4 => exact (Kd.V_reads' b2.out).2.1); rintro e l8 ⟨g7, g8, rfl, b1, g5, hb⟩; replace a8 := uV a8 hb;replace b2 := uV b2 hb;have f2 := lV (ok' := fun k_ => True) b1;have e6 := lV (ok' := fun k_ => True) g5;replace HB := uW hb; (try clear hb); (try clear b1); (try clear g5))))
    (try simp only [Act.put, List.setIfInBounds_toArray, List.set_cons_zero, List.set_cons_succ])
    go_cut [78] (fun m8 wc => ∃ (kq : Nat) (e5 : Bool), m8 = .bool e5 ∧ Aside0 (klipperef01_DivMod.j1 kq c4 b8 c5 b7 b3 e5 = some (r1, r2)) ∧ Aside0 (kq ≤ kj4) ∧ Aside0 (Kd.V (Kd.int .i64) 3 wc w.heap.size (fun _ => True) g7 b7) ∧ Aside0 (Kd.V (Kd.int .i64) 3 wc w.heap.size (fun _ => True) g8 b3) ∧ Aside0 (Below w.heap.size w wc))
    case first =>
     have H := g6.out
     clear g6
     by_cases i7 : c4 = true
     ·
      subst i7
      have H1 : (klipperef01_DivMod.j1 kj4 true b8 c5 b7 b3 (decide (0 < b3.length))) = some (r1, r2) := by rw [if_pos rfl] at H; exact H
      clear H
      have H := H1
      clear H1
      have H' := mk0 H
      clear H
      obtain ⟨m9, n0, l0⟩ := Kd.V_slice e6.out
      subst l0
      go_wp2
      repeat (go_quiet (fail); try go_wp2)
      go_meet
      case rel => exact ⟨_, (decide (0 < b3.length)), (by first | rfl | simp [*]), H', ⟨by have := HJ4.out; omega⟩, ⟨pV f2.out⟩, ⟨pV e6.out⟩, ⟨aB⟩⟩
     ·
      replace i7 := Bool.eq_false_iff.mpr i7
      subst i7
      have H1 : (klipperef01_DivMod.j1 kj4 false b8 c5 b7 b3 false) = some (r1, r2) := by rw [if_neg (show ¬ (false = true) by decide)] at H; exact H
      clear H
      have H := H1
      clear H1
      have H' := mk0 H
      clear H
      go_wp2
      repeat (go_quiet (fail); try go_wp2)
      go_meet
      case rel => exact ⟨_, (false), (by first | rfl | simp [*]), H', ⟨by have := HJ4.out; omega⟩, ⟨pV f2.out⟩, ⟨pV e6.out⟩, ⟨aB⟩⟩
    case rest =>
     clear g6
     try clear p2
     try clear c3
     try clear c6
     try clear p6
     try clear c7
     try clear c8
     try clear k8
     try clear k9
     try clear c9
     try clear g9
     try clear i7
     try clear p2
     obtain ⟨kq, e5, rfl, HA, HJ23, a3, a2, HB⟩ := hcut
     cases kq with
     | zero => exact absurd HA.out (by simp [klipperef01_DivMod.j1])
     | succ kj23 =>
      have H := HA.out
      clear HA
      simp only [klipperef01_DivMod.j1] at H
      by_cases k6 : e5 = true
      ·
       subst k6
       have H1 : ((klipperef01_joined.f kj23 b7 (([1] : List Int)) 1 0).bind fun d1 => ((klipperef01_take.f kj23 c5).bind fun d2 => ((klipperef01_joined.f kj23 d2 b3 (-1) 0).bind fun d3 => ((klipperef01_made.f kj23 (!(c4 == b8)) d1).bind fun e3 => ((klipperef01_made.f kj23 false d3).bind fun e4 => (some (e3, e4))))))) = some (r1, r2) := by rw [if_pos rfl] at H; exact H
       clear H
       have H := H1
       clear H1
       obtain ⟨d0, hy768⟩ : ∃ y_ : List Int, y_ = (([1] : List Int)) := ⟨_, rfl⟩
       replace H : ((klipperef01_joined.f kj23 b7 d0 1 0).bind fun d1 => ((klipperef01_take.f kj23 c5).bind fun d2 => ((klipperef01_joined.f kj23 d2 b3 (-1) 0).bind fun d3 => ((klipperef01_made.f kj23 (!(c4 == b8)) d1).bind fun e3 => ((klipperef01_made.f kj23 false d3).bind fun e4 => (some (e3, e4))))))) = some (r1, r2) := by first | (rw [hy768]; exact H) | (rw [hy768]; exact (Option.bind_some _ _).symm.trans H) | exact (Option.bind_some _ _).symm.trans H
       have Ny768 := mk0 hy768
       clear hy768
       obtain ⟨d1, A33, H⟩ := bS H
       obtain ⟨d2, A34, H⟩ := bS H
       obtain ⟨d3, A35, H⟩ := bS H
       obtain ⟨e3, A36, H⟩ := bS H
       obtain ⟨e4, A37, H⟩ := bS H
       simp only [Option.some.injEq, Prod.mk.injEq] at H
       obtain ⟨rfl, rfl⟩ := H
       go_wp2_with (first | (refine gd 80 ?_; (try (refine gate_guard (by rfl) ?_; dsimp only)); refine Kd.R_lit (Kd.int .i64) _ 3 ?hg (N := 80) ?hd (xs := ([1] : List Int)) (inner := [.int .i64 1]) (ok := fun _ => True) (okp := fun _ => True) ?hr ?hp (fun _ hk => hk) trivial (Below.refl _ _) (Nat.le_refl _) (by simp) ?_; (case hd => rfl); (case hg => rfl); (case hr => exact aH); (case hp => exact (Reps.one (show Kd.M (Kd.int .i64) _ _ _ 1 [.int .i64 1] from rfl) (Reps.none _ _))); intro i8 l9 b6 hb hg_ hnew_; clear hg_ hnew_; rw [← Ny768.out] at b6; replace a3 := dV a3 (Kd.R_base b6) hb;replace a2 := dV a2 (Kd.R_base b6) hb;have a4 := mR b6;replace HB := uW hb; clear hb b6; obtain ⟨i9, j2, f7⟩ := Kd.V_slice a3.out; subst f7; obtain ⟨d6, d7, f8⟩ := Kd.R_slice a4.out; subst f8) | (go_at_call 96; (with_reducible refine (klipperef01_joined.calls kj23 _ _ b7 _ _ d0 1 0 d1 _ ?side1 ?side2 ?side3 ?side4 A33.out).mono ?_); (case side1 => exact pC ((Kd.V_reads' a3.out).2.2)); (case side2 => exact (Kd.V_reads' a3.out).2.1); (case side3 => exact pC ((Kd.R_reads' a4.out).2.2)); (case side4 => exact (Kd.R_reads' a4.out).2.1); rintro e m0 ⟨j3, rfl, b1, hb⟩; replace a3 := uV a3 hb;replace a2 := uV a2 hb;have a5 := lV (ok' := fun k_ => some k_ ≠ (.slice d6 d0.length d7 : Value).ownBlock) b1;replace a4 := uR a4 hb;replace HB := uW hb; (try clear hb); (try clear b1)) | (go_at_call 95; (with_reducible refine (klipperef01_take.calls kj23 c5 d2 _ A34.out).mono ?_); rintro e m1 ⟨j4, rfl, b1, hb⟩; replace a3 := uV a3 hb;replace a2 := uV a2 hb;replace a5 := uV a5 hb;have a7 := lV (ok' := fun k_ => some k_ ≠ (.slice d6 d0.length d7 : Value).ownBlock) b1;replace a4 := uR a4 hb;replace HB := uW hb; (try clear hb); (try clear b1); obtain ⟨j5, j6, f9⟩ := Kd.V_slice a7.out; subst f9; obtain ⟨j7, j8, g0⟩ := Kd.V_slice a2.out; subst g0) | (go_at_call 96; (with_reducible refine (klipperef01_joined.calls kj23 _ _ d2 _ _ b3 (-1) 0 d3 _ ?side1 ?side2 ?side3 ?side4 A35.out).mono ?_); (case side1 => exact pC ((Kd.V_reads' a7.out).2.2)); (case side2 => exact (Kd.V_reads' a7.out).2.1); (case side3 => exact pC ((Kd.V_reads' a2.out).2.2)); (case side4 => exact (Kd.V_reads' a2.out).2.1); rintro e m2 ⟨j9, rfl, b1, hb⟩; replace a3 := uV a3 hb;replace a2 := uV a2 hb;replace a5 := uV a5 hb;replace a7 := uV a7 hb;have a9 := lV (ok' := fun k_ => some k_ ≠ (.slice d6 d0.length d7 : Value).ownBlock) b1;replace a4 := uR a4 hb;replace HB := uW hb; (try clear hb); (try clear b1); obtain ⟨k0, k1, g1⟩ := Kd.V_slice a5.out; subst g1) | (go_at_call 97; (with_reducible refine (klipperef01_made.calls kj23 (!(c4 == b8)) _ _ d1 e3 _ ?side1 ?side2 ?side3 A36.out).mono ?_); (case side1 => exact GW.below HG.out (aB)); (case side2 => exact pC ((Kd.V_reads' a5.out).2.2)); (case side3 => exact (Kd.V_reads' a5.out).2.1); rintro e m3 ⟨rfl, hb⟩; replace a3 := uV a3 hb;replace a2 := uV a2 hb;replace a4 := uR a4 hb;replace a5 := uV a5 hb;replace a7 := uV a7 hb;replace a9 := uV a9 hb;replace HB := uW hb; (try clear hb); (try clear hb2); (try clear hk); (try clear hi); obtain ⟨k2, k3, g2⟩ := Kd.V_slice a9.out; subst g2) | (go_at_call 97; (with_reducible refine (klipperef01_made.calls kj23 false _ _ d3 e4 _ ?side1 ?side2 ?side3 A37.out).mono ?_); (case side1 => exact GW.below HG.out (aB)); (case side2 => exact pC ((Kd.V_reads' a9.out).2.2)); (case side3 => exact (Kd.V_reads' a9.out).2.1); rintro e m4 ⟨rfl, hb⟩; replace a3 := uV a3 hb;replace a2 := uV a2 hb;replace a4 := uR a4 hb;replace a5 := uV a5 hb;replace a7 := uV a7 hb;replace a9 := uV a9 hb;replace HB := uW hb; (try clear hb); (try clear hb2); (try clear hk); (try clear hi)))
       repeat (go_quiet (first | (refine gd 80 ?_; (try (refine gate_guard (by rfl) ?_; dsimp only)); refine Kd.R_lit (Kd.int .i64) _ 3 ?hg (N := 80) ?hd (xs := ([1] : List Int)) (inner := [.int .i64 1]) (ok := fun _ => True) (okp := fun _ => True) ?hr ?hp (fun _ hk => hk) trivial (Below.refl _ _) (Nat.le_refl _) (by simp) ?_; (case hd => rfl); (case hg => rfl); (case hr => exact aH); (case hp => exact (Reps.one (show Kd.M (Kd.int .i64) _ _ _ 1 [.int .i64 1] from rfl) (Reps.none _ _))); intro i8 l9 b6 hb hg_ hnew_; clear hg_ hnew_; rw [← Ny768.out] at b6; replace a3 := dV a3 (Kd.R_base b6) hb;replace a2 := dV a2 (Kd.R_base b6) hb;have a4 := mR b6;replace HB := uW hb; clear hb b6; obtain ⟨i9, j2, f7⟩ := Kd.V_slice a3.out; subst f7; obtain ⟨d6, d7, f8⟩ := Kd.R_slice a4.out; subst f8) | (go_at_call 96; (with_reducible refine (klipperef01_joined.calls kj23 _ _ b7 _ _ d0 1 0 d1 _ ?side1 ?side2 ?side3 ?side4 A33.out).mono ?_); (case side1 => exact pC ((Kd.V_reads' a3.out).2.2)); (case side2 => exact (Kd.V_reads' a3.out).2.1); (case side3 => exact pC ((Kd.R_reads' a4.out).2.2)); (case side4 => exact (Kd.R_reads' a4.out).2.1); rintro e m0 ⟨j3, rfl, b1, hb⟩; replace a3 := uV a3 hb;replace a2 := uV a2 hb;have a5 := lV (ok' := fun k_ => some k_ ≠ (.slice d6 d0.length d7 : Value).ownBlock) b1;replace a4 := uR a4 hb;replace HB := uW hb; (try clear hb); (try clear b1)) | (go_at_call 95; (with_reducible refine (klipperef01_take.calls kj23 c5 d2 _ A34.out).mono ?_); rintro e m1 ⟨j4, rfl, b1, hb⟩; replace a3 := uV a3 hb;replace a2 := uV a2 hb;replace a5 := uV a5 hb;have a7 := lV (ok' := fun k_ => some k_ ≠ (.slice d6 d0.length d7 : Value).ownBlock) b1;replace a4 := uR a4 hb;replace HB := uW hb; (try clear hb); (try clear b1); obtain ⟨j5, j6, f9⟩ := Kd.V_slice a7.out; subst f9; obtain ⟨j7, j8, g0⟩ := Kd.V_slice a2.out; subst g0) | (go_at_call 96; (with_reducible refine (klipperef01_joined.calls kj23 _ _ d2 _ _ b3 (-1) 0 d3 _ ?side1 ?side2 ?side3 ?side4 A35.out).mono ?_); (case side1 => exact pC ((Kd.V_reads' a7.out).2.2)); (case side2 => exact (Kd.V_reads' a7.out).2.1); (case side3 => exact pC ((Kd.V_reads' a2.out).2.2)); (case side4 => exact (Kd.V_reads' a2.out).2.1); rintro e m2 ⟨j9, rfl, b1, hb⟩; replace a3 := uV a3 hb;replace a2 := uV a2 hb;replace a5 := uV a5 hb;replace a7 := uV a7 hb;have a9 := lV (ok' := fun k_ => some k_ ≠ (.slice d6 d0.length d7 : Value).ownBlock) b1;replace a4 := uR a4 hb;replace HB := uW hb; (try clear hb); (try clear b1); obtain ⟨k0, k1, g1⟩ := Kd.V_slice a5.out; subst g1) | (go_at_call 97; (with_reducible refine (klipperef01_made.calls kj23 (!(c4 == b8)) _ _ d1 e3 _ ?side1 ?side2 ?side3 A36.out).mono ?_); (case side1 => exact GW.below HG.out (aB)); (case side2 => exact pC ((Kd.V_reads' a5.out).2.2)); (case side3 => exact (Kd.V_reads' a5.out).2.1); rintro e m3 ⟨rfl, hb⟩; replace a3 := uV a3 hb;replace a2 := uV a2 hb;replace a4 := uR a4 hb;replace a5 := uV a5 hb;replace a7 := uV a7 hb;replace a9 := uV a9 hb;replace HB := uW hb; (try clear hb); (try clear hb2); (try clear hk); (try clear hi); obtain ⟨k2, k3, g2⟩ := Kd.V_slice a9.out; subst g2) | (go_at_call 97; (with_reducible refine (klipperef01_made.calls kj23 false _ _ d3 e4 _ ?side1 ?side2 ?side3 A37.out).mono ?_); (case side1 => exact GW.below HG.out (aB)); (case side2 => exact pC ((Kd.V_reads' a9.out).2.2)); (case side3 => exact (Kd.V_reads' a9.out).2.1); rintro e m4 ⟨rfl, hb⟩; replace a3 := uV a3 hb;replace a2 := uV a2 hb;replace a4 := uR a4 hb;replace a5 := uV a5 hb;replace a7 := uV a7 hb;replace a9 := uV a9 hb;replace HB := uW hb; (try clear hb); (try clear hb2); (try clear hk); (try clear hi))); try go_wp2_with (first | (refine gd 80 ?_; (try (refine gate_guard (by rfl) ?_; dsimp only)); refine Kd.R_lit (Kd.int .i64) _ 3 ?hg (N := 80) ?hd (xs := ([1] : List Int)) (inner := [.int .i64 1]) (ok := fun _ => True) (okp := fun _ => True) ?hr ?hp (fun _ hk => hk) trivial (Below.refl _ _) (Nat.le_refl _) (by simp) ?_; (case hd => rfl); (case hg => rfl); (case hr => exact aH); (case hp => exact (Reps.one (show Kd.M (Kd.int .i64) _ _ _ 1 [.int .i64 1] from rfl) (Reps.none _ _))); intro i8 l9 b6 hb hg_ hnew_; clear hg_ hnew_; rw [← Ny768.out] at b6; replace a3 := dV a3 (Kd.R_base b6) hb;replace a2 := dV a2 (Kd.R_base b6) hb;have a4 := mR b6;replace HB := uW hb; clear hb b6; obtain ⟨i9, j2, f7⟩ := Kd.V_slice a3.out; subst f7; obtain ⟨d6, d7, f8⟩ := Kd.R_slice a4.out; subst f8) | (go_at_call 96; (with_reducible refine (klipperef01_joined.calls kj23 _ _ b7 _ _ d0 1 0 d1 _ ?side1 ?side2 ?side3 ?side4 A33.out).mono ?_); (case side1 => exact pC ((Kd.V_reads' a3.out).2.2)); (case side2 => exact (Kd.V_reads' a3.out).2.1); (case side3 => exact pC ((Kd.R_reads' a4.out).2.2)); (case side4 => exact (Kd.R_reads' a4.out).2.1); rintro e m0 ⟨j3, rfl, b1, hb⟩; replace a3 := uV a3 hb;replace a2 := uV a2 hb;have a5 := lV (ok' := fun k_ => some k_ ≠ (.slice d6 d0.length d7 : Value).ownBlock) b1;replace a4 := uR a4 hb;replace HB := uW hb; (try clear hb); (try clear b1)) | (go_at_call 95; (with_reducible refine (klipperef01_take.calls kj23 c5 d2 _ A34.out).mono ?_); rintro e m1 ⟨j4, rfl, b1, hb⟩; replace a3 := uV a3 hb;replace a2 := uV a2 hb;replace a5 := uV a5 hb;have a7 := lV (ok' := fun k_ => some k_ ≠ (.slice d6 d0.length d7 : Value).ownBlock) b1;replace a4 := uR a4 hb;replace HB := uW hb; (try clear hb); (try clear b1); obtain ⟨j5, j6, f9⟩ := Kd.V_slice a7.out; subst f9; obtain ⟨j7, j8, g0⟩ := Kd.V_slice a2.out; subst g0) | (go_at_call 96; (with_reducible refine (klipperef01_joined.calls kj23 _ _ d2 _ _ b3 (-1) 0 d3 _ ?side1 ?side2 ?side3 ?side4 A35.out).mono ?_); (case side1 => exact pC ((Kd.V_reads' a7.out).2.2)); (case side2 => exact (Kd.V_reads' a7.out).2.1); (case side3 => exact pC ((Kd.V_reads' a2.out).2.2)); (case side4 => exact (Kd.V_reads' a2.out).2.1); rintro e m2 ⟨j9, rfl, b1, hb⟩; replace a3 := uV a3 hb;replace a2 := uV a2 hb;replace a5 := uV a5 hb;replace a7 := uV a7 hb;have a9 := lV (ok' := fun k_ => some k_ ≠ (.slice d6 d0.length d7 : Value).ownBlock) b1;replace a4 := uR a4 hb;replace HB := uW hb; (try clear hb); (try clear b1); obtain ⟨k0, k1, g1⟩ := Kd.V_slice a5.out; subst g1) | (go_at_call 97; (with_reducible refine (klipperef01_made.calls kj23 (!(c4 == b8)) _ _ d1 e3 _ ?side1 ?side2 ?side3 A36.out).mono ?_); (case side1 => exact GW.below HG.out (aB)); (case side2 => exact pC ((Kd.V_reads' a5.out).2.2)); (case side3 => exact (Kd.V_reads' a5.out).2.1); rintro e m3 ⟨rfl, hb⟩; replace a3 := uV a3 hb;replace a2 := uV a2 hb;replace a4 := uR a4 hb;replace a5 := uV a5 hb;replace a7 := uV a7 hb;replace a9 := uV a9 hb;replace HB := uW hb; (try clear hb); (try clear hb2); (try clear hk); (try clear hi); obtain ⟨k2, k3, g2⟩ := Kd.V_slice a9.out; subst g2) | (go_at_call 97; (with_reducible refine (klipperef01_made.calls kj23 false _ _ d3 e4 _ ?side1 ?side2 ?side3 A37.out).mono ?_); (case side1 => exact GW.below HG.out (aB)); (case side2 => exact pC ((Kd.V_reads' a9.out).2.2)); (case side3 => exact (Kd.V_reads' a9.out).2.1); rintro e m4 ⟨rfl, hb⟩; replace a3 := uV a3 hb;replace a2 := uV a2 hb;replace a4 := uR a4 hb;replace a5 := uV a5 hb;replace a7 := uV a7 hb;replace a9 := uV a9 hb;replace HB := uW hb; (try clear hb); (try clear hb2); (try clear hk); (try clear hi))))
       go_ret2
       exact ⟨by first | rfl | (simp [*] <;> rfl), aB⟩
      ·
       replace k6 := Bool.eq_false_iff.mpr k6
       subst k6
       have H1 : ((klipperef01_made.f kj23 (!(c4 == b8)) b7).bind fun e9 => ((klipperef01_made.f kj23 false b3).bind fun f0 => (some (e9, f0)))) = some (r1, r2) := by rw [if_neg (show ¬ (false = true) by decide)] at H; exact H
       clear H
       have H := H1
       clear H1
       obtain ⟨e9, A51, H⟩ := bS H
       obtain ⟨f0, A52, H⟩ := bS H
       simp only [Option.some.injEq, Prod.mk.injEq] at H
       obtain ⟨rfl, rfl⟩ := H
       obtain ⟨n1, n2, l1⟩ := Kd.V_slice a3.out
       subst l1
       go_wp2_with (first | (go_at_call 97; (with_reducible refine (klipperef01_made.calls kj23 (!(c4 == b8)) _ _ b7 e9 _ ?side1 ?side2 ?side3 A51.out).mono ?_); (case side1 => exact GW.below HG.out (aB)); (case side2 => exact pC ((Kd.V_reads' a3.out).2.2)); (case side3 => exact (Kd.V_reads' a3.out).2.1); rintro e m5 ⟨rfl, hb⟩; replace a3 := uV a3 hb;replace a2 := uV a2 hb;replace HB := uW hb; (try clear hb); (try clear hb2); (try clear hk); (try clear hi); obtain ⟨k4, k5, g3⟩ := Kd.V_slice a2.out; subst g3) | (go_at_call 97; (with_reducible refine (klipperef01_made.calls kj23 false _ _ b3 f0 _ ?side1 ?side2 ?side3 A52.out).mono ?_); (case side1 => exact GW.below HG.out (aB)); (case side2 => exact pC ((Kd.V_reads' a2.out).2.2)); (case side3 => exact (Kd.V_reads' a2.out).2.1); rintro e m6 ⟨rfl, hb⟩; replace a3 := uV a3 hb;replace a2 := uV a2 hb;replace HB := uW hb; (try clear hb); (try clear hb2); (try clear hk); (try clear hi)))
       repeat (go_quiet (first | (go_at_call 97; (with_reducible refine (klipperef01_made.calls kj23 (!(c4 == b8)) _ _ b7 e9 _ ?side1 ?side2 ?side3 A51.out).mono ?_); (case side1 => exact GW.below HG.out (aB)); (case side2 => exact pC ((Kd.V_reads' a3.out).2.2)); (case side3 => exact (Kd.V_reads' a3.out).2.1); rintro e m5 ⟨rfl, hb⟩; replace a3 := uV a3 hb;replace a2 := uV a2 hb;replace HB := uW hb; (try clear hb); (try clear hb2); (try clear hk); (try clear hi); obtain ⟨k4, k5, g3⟩ := Kd.V_slice a2.out; subst g3) | (go_at_call 97; (with_reducible refine (klipperef01_made.calls kj23 false _ _ b3 f0 _ ?side1 ?side2 ?side3 A52.out).mono ?_); (case side1 => exact GW.below HG.out (aB)); (case side2 => exact pC ((Kd.V_reads' a2.out).2.2)); (case side3 => exact (Kd.V_reads' a2.out).2.1); rintro e m6 ⟨rfl, hb⟩; replace a3 := uV a3 hb;replace a2 := uV a2 hb;replace HB := uW hb; (try clear hb); (try clear hb2); (try clear hk); (try clear hi))); try go_wp2_with (first | (go_at_call 97; (with_reducible refine (klipperef01_made.calls kj23 (!(c4 == b8)) _ _ b7 e9 _ ?side1 ?side2 ?side3 A51.out).mono ?_); (case side1 => exact GW.below HG.out (aB)); (case side2 => exact pC ((Kd.V_reads' a3.out).2.2)); (case side3 => exact (Kd.V_reads' a3.out).2.1); rintro e m5 ⟨rfl, hb⟩; replace a3 := uV a3 hb;replace a2 := uV a2 hb;replace HB := uW hb; (try clear hb); (try clear hb2); (try clear hk); (try clear hi); obtain ⟨k4, k5, g3⟩ := Kd.V_slice a2.out; subst g3) | (go_at_call 97; (with_reducible refine (klipperef01_made.calls kj23 false _ _ b3 f0 _ ?side1 ?side2 ?side3 A52.out).mono ?_); (case side1 => exact GW.below HG.out (aB)); (case side2 => exact pC ((Kd.V_reads' a2.out).2.2)); (case side3 => exact (Kd.V_reads' a2.out).2.1); rintro e m6 ⟨rfl, hb⟩; replace a3 := uV a3 hb;replace a2 := uV a2 hb;replace HB := uW hb; (try clear hb); (try clear hb2); (try clear hk); (try clear hi))))
       go_ret2
       exact ⟨by first | rfl | (simp [*] <;> rfl), aB⟩
def klipperef01_Gcd.l0 : Nat → ByteArray → ByteArray → Option (ByteArray)
 | 0, _, _ => none
 | k + 1, x0, x1 => if x1.toList = ([48] : List UInt8) then (some x0) else ((klipperef01_DivMod.f k x0 x1).bind fun a6 => (klipperef01_Gcd.l0 k x1 a6.2))
def klipperef01_Gcd.f (k : Nat) (a0 : ByteArray) (a1 : ByteArray) : Option (ByteArray) := (klipperef01_Abs.f a0).bind fun a3 => ((klipperef01_Abs.f a1).bind fun a4 => (klipperef01_Gcd.l0 k a3 a4))
theorem klipperef01_Gcd.mono_l : ∀ k, (∀ y0 y1, LeO (klipperef01_Gcd.l0 k y0 y1) (klipperef01_Gcd.l0 (k + 1) y0 y1))
 | 0 => fun _ _ r h => by simp [klipperef01_Gcd.l0] at h
 | k + 1 => by
  have ih0 := klipperef01_Gcd.mono_l k
  ·
   intro y0 y1
   unfold klipperef01_Gcd.l0
   repeat' first | (with_reducible first | exact ih0 .. | exact klipperef01_DivMod.mono .. | exact LeO.refl _ | exact LeO.none _ | refine LeO.ite ?_ ?_ | refine LeO.bind ?_ (fun _ => ?_))
theorem klipperef01_Gcd.mono : ∀ a0 a1 k, LeO (klipperef01_Gcd.f k a0 a1) (klipperef01_Gcd.f (k + 1) a0 a1) := by
 intro a0 a1 k
 have ih0 := klipperef01_Gcd.mono_l k
 unfold klipperef01_Gcd.f
 repeat' first | (with_reducible first | exact ih0 .. | exact klipperef01_DivMod.mono .. | exact LeO.refl _ | exact LeO.none _ | refine LeO.ite ?_ ?_ | refine LeO.bind ?_ (fun _ => ?_))
set_option maxHeartbeats 8000000 in
set_option maxRecDepth 100000 in
theorem klipperef01_Gcd.calls (k : Nat) (a0 : ByteArray) (a1 : ByteArray) (r : ByteArray) (w : World) (hG : GW w) (h : klipperef01_Gcd.f k a0 a1 = some r) :
  Calls Tryz.prog 37 #[.string a0, .string a1] w fun e w' => e = .returned (.string r) ∧ Below w.heap.size w w' := by
 have HB := mk0 (Below.refl w.heap.size w)
 have HG := mk0 hG
 clear hG
 have H : ((klipperef01_Abs.f a0).bind fun a3 => ((klipperef01_Abs.f a1).bind fun a4 => (klipperef01_Gcd.l0 k a3 a4))) = some r := h
 clear h
 obtain ⟨a3, A3, H⟩ := bS H
 obtain ⟨a4, A4, H⟩ := bS H
 have H' := mk0 H
 clear H
 go_enter Tryz.func37, Tryz.ntmps37
 go_wp2_with (first | (refine gc 73 ?_; refine gl 8 Tryz.func73 #[.string a0] ?_; (with_reducible refine (klipperef01_Abs.calls a0 a3 _ A3.out).mono ?_); rintro e w' ⟨rfl, ⟨nd, rfl⟩⟩; refine ⟨_, rfl, ?_⟩) | (refine gc 73 ?_; refine gl 10 Tryz.func73 #[.string a1] ?_; (with_reducible refine (klipperef01_Abs.calls a1 a4 _ A4.out).mono ?_); rintro e w' ⟨rfl, ⟨nd, rfl⟩⟩; refine ⟨_, rfl, ?_⟩))
 go_loopg [0, 1] k (fun kq v0 v1 w' => ∃ (a5 : ByteArray) (a2 : ByteArray), v0 = .string a5 ∧ v1 = .string a2 ∧ Aside0 (klipperef01_Gcd.l0 kq a5 a2 = some r) ∧ Aside0 (kq ≤ k) ∧ Aside0 (Below w.heap.size w w'))
 case atStart => exact ⟨(a3), (a4), (by first | rfl | simp [*]), (by first | rfl | simp [*]), H', ⟨Nat.le_refl _⟩, ⟨aB⟩⟩
 case round =>
  clear H'
  try clear p2
  try clear c3
  obtain ⟨a5, a2, rfl, rfl, HA, HK1, HB⟩ := hrel
  cases gk with
  | zero => exact absurd HA.out (by simp [klipperef01_Gcd.l0])
  | succ k1 =>
   have H := HA.out
   clear HA
   simp only [klipperef01_Gcd.l0] at H
   by_cases c5 : a2.toList = ([48] : List UInt8)
   ·
    rw [if_pos c5] at H
    have a8 : (a2.toList == ([48] : List UInt8)) = true := beq_iff_eq.mpr c5
    have a9 : (a2.toList != ([48] : List UInt8)) = false := bne_eq_false_iff_eq.mpr c5
    clear c5
    obtain rfl := Option.some.inj H
    go_wp2
    go_ret
    exact ⟨by first | rfl | (simp [*] <;> rfl), aB⟩
   ·
    rw [if_neg c5] at H
    have a8 : (a2.toList == ([48] : List UInt8)) = false := beq_eq_false_iff_ne.mpr c5
    have a9 : (a2.toList != ([48] : List UInt8)) = true := bne_iff_ne.mpr c5
    obtain ⟨⟨b0, a7⟩, A6, H⟩ := bS H
    (try dsimp only at H)
    have H' := mk0 H
    clear H
    go_wp2_with (first | (refine gc 74 ?_; refine gl 16 Tryz.func74 #[.string a5, .string a2] ?_; (with_reducible refine (klipperef01_DivMod.calls k1 a5 a2 b0 a7 _ ?side1 A6.out).mono ?_); (case side1 => exact GW.below HG.out (aB)); rintro e w7 ⟨rfl, hb⟩; refine ⟨_, rfl, ?_⟩; replace HB := uW hb; (try clear hb); (try clear hb2); (try clear hk); (try clear hi)))
    go_roundg k1
    case measure => have := HK1.out; omega
    case rel => exact ⟨(a2), (a7), (by first | rfl | simp [*]), (by first | rfl | simp [*]), H', ⟨by have := HK1.out; omega⟩, ⟨aB⟩⟩
def klipperef02_Right.j0 : Nat → ByteArray → ByteArray → ByteArray → Bool → Option (Bool)
 | 0, _, _, _, _ => none
 | k + 1, x0, x3, x4, x17 => if x17 = true then (some false) else ((strings_IndexByte.f x0 47).bind fun a4 => (if a4 < 0 then (some true) else ((klipperef01_Compare.f k x4 (⟨#[49]⟩ : ByteArray)).bind fun a5 => (if a5 > 0 then (if x3.toList = ([48] : List UInt8) then (some false) else ((klipperef01_Gcd.f k x3 x4).bind fun a8 => (some (a8.toList == ([49] : List UInt8))))) else (some false)))))
def klipperef02_Right.f (k : Nat) (a0 : ByteArray) : Option (Bool) := (klipperef02_Parts.f a0).bind fun a1 => ((klipperef01_Right.f k a1.1).bind fun a9 => (if a9 = true then ((klipperef01_Right.f k a1.2).bind fun a6 => (klipperef02_Right.j0 k a0 a1.1 a1.2 (!a6))) else (klipperef02_Right.j0 k a0 a1.1 a1.2 true)))
theorem klipperef02_Right.mono_l : ∀ k, (∀ y0 y1 y2 y3, LeO (klipperef02_Right.j0 k y0 y1 y2 y3) (klipperef02_Right.j0 (k + 1) y0 y1 y2 y3))
 | 0 => fun _ _ _ _ r h => by simp [klipperef02_Right.j0] at h
 | k + 1 => by
  have ih0 := klipperef02_Right.mono_l k
  ·
   intro y0 y1 y2 y3
   unfold klipperef02_Right.j0
   repeat' first | (with_reducible first | exact ih0 .. | exact klipperef01_Compare.mono .. | exact klipperef01_Gcd.mono .. | exact klipperef01_Right.mono .. | exact LeO.refl _ | exact LeO.none _ | refine LeO.ite ?_ ?_ | refine LeO.bind ?_ (fun _ => ?_))
theorem klipperef02_Right.mono : ∀ a0 k, LeO (klipperef02_Right.f k a0) (klipperef02_Right.f (k + 1) a0) := by
 intro a0 k
 have ih0 := klipperef02_Right.mono_l k
 unfold klipperef02_Right.f
 repeat' first | (with_reducible first | exact ih0 .. | exact klipperef01_Compare.mono .. | exact klipperef01_Gcd.mono .. | exact klipperef01_Right.mono .. | exact LeO.refl _ | exact LeO.none _ | refine LeO.ite ?_ ?_ | refine LeO.bind ?_ (fun _ => ?_))
set_option maxHeartbeats 8000000 in
set_option maxRecDepth 100000 in
theorem klipperef02_Right.calls (k : Nat) (a0 : ByteArray) (r : Bool) (w : World) (hG : GW w) (h : klipperef02_Right.f k a0 = some r) :
  Calls Tryz.prog 12 #[.string a0] w fun e w' => e = .returned (.bool r) ∧ Below w.heap.size w w' := by
 have HB := mk0 (Below.refl w.heap.size w)
 have HG := mk0 hG
 clear hG
 have H : ((klipperef02_Parts.f a0).bind fun a1 => ((klipperef01_Right.f k a1.1).bind fun a9 => (if a9 = true then ((klipperef01_Right.f k a1.2).bind fun a6 => (klipperef02_Right.j0 k a0 a1.1 a1.2 (!a6))) else (klipperef02_Right.j0 k a0 a1.1 a1.2 true)))) = some r := h
 clear h
 obtain ⟨⟨a2, a3⟩, A2, H⟩ := bS H
 (try dsimp only at H)
 have b5 := mk0 H
 clear H
 go_enter Tryz.func12, Tryz.ntmps12
 go_upto_region 2 with (first | (refine gc 33 ?_; refine gl 7 Tryz.func33 #[.string a0] ?_; (with_reducible refine (klipperef02_Parts.calls a0 a2 a3 _ A2.out).mono ?_); rintro e w' ⟨rfl, ⟨nd, rfl⟩⟩; refine ⟨_, rfl, ?_⟩))
 (try simp only [Act.put, List.setIfInBounds_toArray, List.set_cons_zero, List.set_cons_succ])
 go_cut [17] (fun b7 wc => ∃ (kq : Nat) (a7 : Bool), b7 = .bool a7 ∧ Aside0 (klipperef02_Right.j0 kq a0 a2 a3 a7 = some r) ∧ Aside0 (kq ≤ k) ∧ Aside0 (Below w.heap.size w wc))
 case first =>
  have H := b5.out
  clear b5
  obtain ⟨a9, A4, H⟩ := bS H
  by_cases c5 : a9 = true
  ·
   subst c5
   have H1 : ((klipperef01_Right.f k a3).bind fun a6 => (klipperef02_Right.j0 k a0 a2 a3 (!a6))) = some r := by rw [if_pos rfl] at H; exact H
   clear H
   have H := H1
   clear H1
   obtain ⟨a6, A6, H⟩ := bS H
   have H' := mk0 H
   clear H
   go_wp2_with (first | (refine gc 34 ?_; refine gl 11 Tryz.func34 #[.string a2] ?_; (with_reducible refine (klipperef01_Right.calls k a2 true _ A4.out).mono ?_); rintro e w' ⟨rfl, ⟨nd, rfl⟩⟩; refine ⟨_, rfl, ?_⟩) | (go_at_call 34; (with_reducible refine (klipperef01_Right.calls k a3 a6 _ A6.out).mono ?_); rintro e w' ⟨rfl, ⟨nd, rfl⟩⟩))
   go_meet
   case rel => exact ⟨_, (!a6), (by first | rfl | simp [*]), H', ⟨by omega⟩, ⟨aB⟩⟩
  ·
   replace c5 := Bool.eq_false_iff.mpr c5
   subst c5
   have H1 : (klipperef02_Right.j0 k a0 a2 a3 true) = some r := by rw [if_neg (show ¬ (false = true) by decide)] at H; exact H
   clear H
   have H := H1
   clear H1
   have H' := mk0 H
   clear H
   go_wp2_with (first | (refine gc 34 ?_; refine gl 11 Tryz.func34 #[.string a2] ?_; (with_reducible refine (klipperef01_Right.calls k a2 false _ A4.out).mono ?_); rintro e w' ⟨rfl, ⟨nd, rfl⟩⟩; refine ⟨_, rfl, ?_⟩))
   go_meet
   case rel => exact ⟨_, (true), (by first | rfl | simp [*]), H', ⟨by omega⟩, ⟨aB⟩⟩
 case rest =>
  clear b5
  try clear c1
  try clear p2
  try clear c3
  try clear c5
  obtain ⟨kq, a7, rfl, HA, HJ2, HB⟩ := hcut
  cases kq with
  | zero => exact absurd HA.out (by simp [klipperef02_Right.j0])
  | succ kj2 =>
   have H := HA.out
   clear HA
   simp only [klipperef02_Right.j0] at H
   by_cases c7 : a7 = true
   ·
    subst c7
    have H1 : (some false) = some r := by rw [if_pos rfl] at H; exact H
    clear H
    have H := H1
    clear H1
    obtain rfl := Option.some.inj H
    go_wp2
    go_ret
    exact ⟨by first | rfl | (simp [*] <;> rfl), aB⟩
   ·
    replace c7 := Bool.eq_false_iff.mpr c7
    subst c7
    have H1 : ((strings_IndexByte.f a0 47).bind fun a4 => (if a4 < 0 then (some true) else ((klipperef01_Compare.f kj2 a3 (⟨#[49]⟩ : ByteArray)).bind fun a5 => (if a5 > 0 then (if a2.toList = ([48] : List UInt8) then (some false) else ((klipperef01_Gcd.f kj2 a2 a3).bind fun a8 => (some (a8.toList == ([49] : List UInt8))))) else (some false))))) = some r := by rw [if_neg (show ¬ (false = true) by decide)] at H; exact H
    clear H
    have H := H1
    clear H1
    obtain ⟨a4, A8, H⟩ := bS H
    by_cases c9 : a4 < 0
    ·
     rw [if_pos c9] at H
     have b6 : decide (a4 < 0) = true := decide_eq_true c9
     clear c9
     obtain rfl := Option.some.inj H
     go_wp2_with (first | (refine gc 35 ?_; refine gl 19 Tryz.func35 #[.string a0, .int .u8 47] ?_; (with_reducible refine (strings_IndexByte.calls a0 47 a4 _ A8.out).mono ?_); rintro e w' ⟨rfl, ⟨nd, rfl⟩⟩; refine ⟨_, rfl, ?_⟩))
     go_ret
     exact ⟨by first | rfl | (simp [*] <;> rfl), aB⟩
    ·
     rw [if_neg c9] at H
     have b6 : decide (a4 < 0) = false := decide_eq_false c9
     clear c9
     obtain ⟨a5, A10, H⟩ := bS H
     by_cases b1 : a5 > 0
     ·
      rw [if_pos b1] at H
      have b2 : decide (0 < a5) = true := decide_eq_true b1
      clear b1
      by_cases b0 : a2.toList = ([48] : List UInt8)
      ·
       rw [if_pos b0] at H
       have b3 : (a2.toList == ([48] : List UInt8)) = true := beq_iff_eq.mpr b0
       have b4 : (a2.toList != ([48] : List UInt8)) = false := bne_eq_false_iff_eq.mpr b0
       clear b0
       obtain rfl := Option.some.inj H
       go_wp2_with (first | (refine gc 35 ?_; refine gl 19 Tryz.func35 #[.string a0, .int .u8 47] ?_; (with_reducible refine (strings_IndexByte.calls a0 47 a4 _ A8.out).mono ?_); rintro e w' ⟨rfl, ⟨nd, rfl⟩⟩; refine ⟨_, rfl, ?_⟩) | (refine gc 36 ?_; refine gl 22 Tryz.func36 #[.string a3, .string (⟨#[49]⟩ : ByteArray)] ?_; (with_reducible refine (klipperef01_Compare.calls kj2 a3 (⟨#[49]⟩ : ByteArray) a5 _ ?side1 A10.out).mono ?_); (case side1 => exact GW.below HG.out (aB)); rintro e b8 ⟨rfl, hb⟩; refine ⟨_, rfl, ?_⟩; replace HB := uW hb; (try clear hb); (try clear hb2); (try clear hk); (try clear hi)))
       go_ret
       exact ⟨by first | rfl | (simp [*] <;> rfl), aB⟩
      ·
       rw [if_neg b0] at H
       have b3 : (a2.toList == ([48] : List UInt8)) = false := beq_eq_false_iff_ne.mpr b0
       have b4 : (a2.toList != ([48] : List UInt8)) = true := bne_iff_ne.mpr b0
       obtain ⟨a8, A14, H⟩ := bS H
       obtain rfl := Option.some.inj H
       go_wp2_with (first | (refine gc 35 ?_; refine gl 19 Tryz.func35 #[.string a0, .int .u8 47] ?_; (with_reducible refine (strings_IndexByte.calls a0 47 a4 _ A8.out).mono ?_); rintro e w' ⟨rfl, ⟨nd, rfl⟩⟩; refine ⟨_, rfl, ?_⟩) | (refine gc 36 ?_; refine gl 22 Tryz.func36 #[.string a3, .string (⟨#[49]⟩ : ByteArray)] ?_; (with_reducible refine (klipperef01_Compare.calls kj2 a3 (⟨#[49]⟩ : ByteArray) a5 _ ?side1 A10.out).mono ?_); (case side1 => exact GW.below HG.out (aB)); rintro e b9 ⟨rfl, hb⟩; refine ⟨_, rfl, ?_⟩; replace HB := uW hb; (try clear hb); (try clear hb2); (try clear hk); (try clear hi)) | (go_at_call 37; (with_reducible refine (klipperef01_Gcd.calls kj2 a2 a3 a8 _ ?side1 A14.out).mono ?_); (case side1 => exact GW.below HG.out (aB)); rintro e c4 ⟨rfl, hb⟩; replace HB := uW hb; (try clear hb); (try clear hb2); (try clear hk); (try clear hi)))
       go_ret
       exact ⟨by first | rfl | (simp [*] <;> rfl), aB⟩
     ·
      rw [if_neg b1] at H
      have b2 : decide (0 < a5) = false := decide_eq_false b1
      clear b1
      obtain rfl := Option.some.inj H
      go_wp2_with (first | (refine gc 35 ?_; refine gl 19 Tryz.func35 #[.string a0, .int .u8 47] ?_; (with_reducible refine (strings_IndexByte.calls a0 47 a4 _ A8.out).mono ?_); rintro e w' ⟨rfl, ⟨nd, rfl⟩⟩; refine ⟨_, rfl, ?_⟩) | (refine gc 36 ?_; refine gl 22 Tryz.func36 #[.string a3, .string (⟨#[49]⟩ : ByteArray)] ?_; (with_reducible refine (klipperef01_Compare.calls kj2 a3 (⟨#[49]⟩ : ByteArray) a5 _ ?side1 A10.out).mono ?_); (case side1 => exact GW.below HG.out (aB)); rintro e c6 ⟨rfl, hb⟩; refine ⟨_, rfl, ?_⟩; replace HB := uW hb; (try clear hb); (try clear hb2); (try clear hk); (try clear hi)))
      go_ret
      exact ⟨by first | rfl | (simp [*] <;> rfl), aB⟩
def klippelaw02_Right.f (k : Nat) (a0 : ByteArray) : Option (Bool) := (klipperef02_Right.f k a0).bind fun a1 => (some a1)
theorem klippelaw02_Right.mono : ∀ a0 k, LeO (klippelaw02_Right.f k a0) (klippelaw02_Right.f (k + 1) a0) := by
 intro a0 k
 unfold klippelaw02_Right.f
 repeat' first | (with_reducible first | exact klipperef02_Right.mono .. | exact LeO.refl _ | exact LeO.none _ | refine LeO.ite ?_ ?_ | refine LeO.bind ?_ (fun _ => ?_))
set_option maxHeartbeats 8000000 in
set_option maxRecDepth 100000 in
theorem klippelaw02_Right.calls (k : Nat) (a0 : ByteArray) (r : Bool) (w : World) (hG : GW w) (h : klippelaw02_Right.f k a0 = some r) :
  Calls Tryz.prog 6 #[.string a0] w fun e w' => e = .returned (.bool r) ∧ Below w.heap.size w w' := by
 have HB := mk0 (Below.refl w.heap.size w)
 have HG := mk0 hG
 clear hG
 have H : ((klipperef02_Right.f k a0).bind fun a1 => (some a1)) = some r := h
 clear h
 obtain ⟨a1, A2, H⟩ := bS H
 obtain rfl := Option.some.inj H
 go_enter Tryz.func6, Tryz.ntmps6
 go_wp2_with (first | (refine gc 12 ?_; refine gl 4 Tryz.func12 #[.string a0] ?_; (with_reducible refine (klipperef02_Right.calls k a0 a1 _ ?side1 A2.out).mono ?_); (case side1 => exact GW.below HG.out (aB)); rintro e w3 ⟨rfl, hb⟩; refine ⟨_, rfl, ?_⟩; replace HB := uW hb; (try clear hb); (try clear hb2); (try clear hk); (try clear hi)))
 go_ret
 exact ⟨by first | rfl | (simp [*] <;> rfl), aB⟩
def klippelaw55_CheckerNumbers.j0 : Nat → ByteArray → Bool → Option (Bool)
 | 0, _, _ => none
 | k + 1, x0, x9 => if x9 = true then ((klippelaw55_knownT.f).bind fun a1 => (some a1)) else ((checker_Number.f k x0).bind fun a2 => ((klippelaw02_Right.f k x0).bind fun a3 => (some (a2 == a3))))
def klippelaw55_CheckerNumbers.f (k : Nat) (a0 : ByteArray) : Option (Bool) := (klippelaw55_knownT.f).bind fun a4 => (if a4 = true then (klippelaw55_CheckerNumbers.j0 k a0 (decide ((a0.size : Int) > 450))) else (klippelaw55_CheckerNumbers.j0 k a0 true))
theorem klippelaw55_CheckerNumbers.mono_l : ∀ k, (∀ y0 y1, LeO (klippelaw55_CheckerNumbers.j0 k y0 y1) (klippelaw55_CheckerNumbers.j0 (k + 1) y0 y1))
 | 0 => fun _ _ r h => by simp [klippelaw55_CheckerNumbers.j0] at h
 | k + 1 => by
  have ih0 := klippelaw55_CheckerNumbers.mono_l k
  ·
   intro y0 y1
   unfold klippelaw55_CheckerNumbers.j0
   repeat' first | (with_reducible first | exact ih0 .. | exact checker_Number.mono .. | exact klippelaw02_Right.mono .. | exact LeO.refl _ | exact LeO.none _ | refine LeO.ite ?_ ?_ | refine LeO.bind ?_ (fun _ => ?_))
theorem klippelaw55_CheckerNumbers.mono : ∀ a0 k, LeO (klippelaw55_CheckerNumbers.f k a0) (klippelaw55_CheckerNumbers.f (k + 1) a0) := by
 intro a0 k
 have ih0 := klippelaw55_CheckerNumbers.mono_l k
 unfold klippelaw55_CheckerNumbers.f
 repeat' first | (with_reducible first | exact ih0 .. | exact checker_Number.mono .. | exact klippelaw02_Right.mono .. | exact LeO.refl _ | exact LeO.none _ | refine LeO.ite ?_ ?_ | refine LeO.bind ?_ (fun _ => ?_))
set_option maxHeartbeats 8000000 in
set_option maxRecDepth 100000 in
theorem klippelaw55_CheckerNumbers.calls (k : Nat) (a0 : ByteArray) (r : Bool) (w : World) (hG : GW w) (h : klippelaw55_CheckerNumbers.f k a0 = some r) :
  Calls Tryz.prog 3 #[.string a0] w fun e w' => e = .returned (.bool r) ∧ Below w.heap.size w w' := by
 have HB := mk0 (Below.refl w.heap.size w)
 have HG := mk0 hG
 clear hG
 have H : ((klippelaw55_knownT.f).bind fun a4 => (if a4 = true then (klippelaw55_CheckerNumbers.j0 k a0 (decide ((a0.size : Int) > 450))) else (klippelaw55_CheckerNumbers.j0 k a0 true))) = some r := h
 clear h
 have a6 := mk0 H
 clear H
 go_enter Tryz.func3, Tryz.ntmps3
 go_upto_region 1 with (fail)
 go_cut [9] (fun v9 wc => ∃ (kq : Nat) (a5 : Bool), v9 = .bool a5 ∧ Aside0 (klippelaw55_CheckerNumbers.j0 kq a0 a5 = some r) ∧ Aside0 (kq ≤ k) ∧ Aside0 (Below w.heap.size w wc))
 case first =>
  have H := a6.out
  clear a6
  obtain ⟨a4, A3, H⟩ := bS H
  by_cases c4 : a4 = true
  ·
   subst c4
   have H1 : (klippelaw55_CheckerNumbers.j0 k a0 (decide ((a0.size : Int) > 450))) = some r := by rw [if_pos rfl] at H; exact H
   clear H
   have H := H1
   clear H1
   have H' := mk0 H
   clear H
   go_wp2_with (first | (refine gc 4 ?_; refine gl 3 Tryz.func4 #[] ?_; (with_reducible refine (klippelaw55_knownT.calls  true _ ?side1 A3.out).mono ?_); (case side1 => exact GW.below HG.out (aB)); rintro e w5 ⟨rfl, hb⟩; refine ⟨_, rfl, ?_⟩; replace HB := uW hb; (try clear hb); (try clear hb2); (try clear hk); (try clear hi)))
   go_meet
   case rel => exact ⟨_, (decide ((a0.size : Int) > 450)), (by first | rfl | simp [*]), H', ⟨by omega⟩, ⟨aB⟩⟩
  ·
   replace c4 := Bool.eq_false_iff.mpr c4
   subst c4
   have H1 : (klippelaw55_CheckerNumbers.j0 k a0 true) = some r := by rw [if_neg (show ¬ (false = true) by decide)] at H; exact H
   clear H
   have H := H1
   clear H1
   have H' := mk0 H
   clear H
   go_wp2_with (first | (refine gc 4 ?_; refine gl 3 Tryz.func4 #[] ?_; (with_reducible refine (klippelaw55_knownT.calls  false _ ?side1 A3.out).mono ?_); (case side1 => exact GW.below HG.out (aB)); rintro e w6 ⟨rfl, hb⟩; refine ⟨_, rfl, ?_⟩; replace HB := uW hb; (try clear hb); (try clear hb2); (try clear hk); (try clear hi)))
   go_meet
   case rel => exact ⟨_, (true), (by first | rfl | simp [*]), H', ⟨by omega⟩, ⟨aB⟩⟩
 case rest =>
  clear a6
  try clear p2
  try clear c3
  try clear c4
  obtain ⟨kq, a5, rfl, HA, HJ1, HB⟩ := hcut
  cases kq with
  | zero => exact absurd HA.out (by simp [klippelaw55_CheckerNumbers.j0])
  | succ kj1 =>
   have H := HA.out
   clear HA
   simp only [klippelaw55_CheckerNumbers.j0] at H
   by_cases c7 : a5 = true
   ·
    subst c7
    have H1 : ((klippelaw55_knownT.f).bind fun a1 => (some a1)) = some r := by rw [if_pos rfl] at H; exact H
    clear H
    have H := H1
    clear H1
    obtain ⟨a1, A8, H⟩ := bS H
    obtain rfl := Option.some.inj H
    go_wp2_with (first | (refine gc 4 ?_; refine gl 10 Tryz.func4 #[] ?_; (with_reducible refine (klippelaw55_knownT.calls  a1 _ ?side1 A8.out).mono ?_); (case side1 => exact GW.below HG.out (aB)); rintro e w9 ⟨rfl, hb⟩; refine ⟨_, rfl, ?_⟩; replace HB := uW hb; (try clear hb); (try clear hb2); (try clear hk); (try clear hi)))
    go_ret
    exact ⟨by first | rfl | (simp [*] <;> rfl), aB⟩
   ·
    replace c7 := Bool.eq_false_iff.mpr c7
    subst c7
    have H1 : ((checker_Number.f kj1 a0).bind fun a2 => ((klippelaw02_Right.f kj1 a0).bind fun a3 => (some (a2 == a3)))) = some r := by rw [if_neg (show ¬ (false = true) by decide)] at H; exact H
    clear H
    have H := H1
    clear H1
    obtain ⟨a2, A10, H⟩ := bS H
    obtain ⟨a3, A11, H⟩ := bS H
    obtain rfl := Option.some.inj H
    go_wp2_with (first | (refine gc 5 ?_; refine gl 12 Tryz.func5 #[.string a0] ?_; (with_reducible refine (checker_Number.calls kj1 a0 a2 _ A10.out).mono ?_); rintro e a7 ⟨rfl, hb⟩; refine ⟨_, rfl, ?_⟩; replace HB := uW hb; (try clear hb); (try clear hb2); (try clear hk); (try clear hi)) | (refine gc 6 ?_; refine gl 14 Tryz.func6 #[.string a0] ?_; (with_reducible refine (klippelaw02_Right.calls kj1 a0 a3 _ ?side1 A11.out).mono ?_); (case side1 => exact GW.below HG.out (aB)); rintro e a8 ⟨rfl, hb⟩; refine ⟨_, rfl, ?_⟩; replace HB := uW hb; (try clear hb); (try clear hb2); (try clear hk); (try clear hi)))
    go_ret
    exact ⟨by first | rfl | (simp [*] <;> rfl), aB⟩
/-- THE ONE PURE STATEMENT of klippelaw55_CheckerNumbers: yours. -/
def klippelaw55_CheckerNumbers.Pure : Prop := ∀ (a0 : ByteArray), a0.size ≤ 140737488351232 → ∃ k, klippelaw55_CheckerNumbers.f k a0 = some true
theorem klippelaw55_CheckerNumbers.walk (P : klippelaw55_CheckerNumbers.Pure) (a0 : ByteArray) (w : World) (hG : GW w) (w0 : a0.size ≤ 140737488351232) :
  Calls Tryz.prog 3 #[.string a0] w fun e w' => e = .returned (.bool true) ∧ Below w.heap.size w w' := by
 obtain ⟨k, h⟩ := P a0 w0
 refine (klippelaw55_CheckerNumbers.calls k a0 true w hG h).mono ?_
 rintro e w' ⟨rfl, hd⟩
 exact ⟨rfl, hd⟩
end Go.Proofs.YtfhlmmmhcpkjnaaGreatDoor.PCheckerNumbers
