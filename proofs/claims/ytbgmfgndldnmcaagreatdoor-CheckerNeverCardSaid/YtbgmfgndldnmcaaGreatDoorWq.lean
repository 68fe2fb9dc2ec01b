/- Short words for the printed texts: facts with default proofs. -/
import Derived.Test.YtbgmfgndldnmcaaGreatDoorWa
import Derived.Maps.OwnOps
import Derived.Maps.Views
set_option linter.unusedVariables false
namespace Go.Proofs.YtbgmfgndldnmcaaGreatDoorW.Q
open Go.RowKit Go.Proofs.YtbgmfgndldnmcaaGreatDoorW.PrintWords Go.Proofs.YtbgmfgndldnmcaaGreatDoorW.PrintLast Go.Proofs.YtbgmfgndldnmcaaGreatDoorW.PrintMore Go.Proofs.YtbgmfgndldnmcaaGreatDoorMyWords
theorem mk0 {p : Prop} (h : p) : Aside0 p := ⟨h⟩
theorem o0 {p : Prop} (h : Aside0 p := by (with_reducible assumption)) : p := h.out
theorem aL {p q : Prop} (hk : p) (h : p → q := by intro hk_; first | exact hk_ | exact hk_.2 | exact hk_.1 | exact hk_.2.1 | exact hk_.2.2 | exact hk_.1.2 | exact hk_.1.1 | exact hk_.2.2.1 | exact hk_.2.2.2 | exact hk_.1.2.1 | exact hk_.1.2.2 | exact hk_.1.1.2 | exact hk_.1.1.1 | exact hk_.2.2.2.1 | exact hk_.2.2.2.2 | exact hk_.1.2.2.1 | exact hk_.1.2.2.2 | exact hk_.1.1.2.1 | exact hk_.1.1.2.2 | exact hk_.1.1.1.2 | exact hk_.1.1.1.1 | exact hk_.2.2.2.2.1 | exact hk_.2.2.2.2.2 | exact hk_.1.2.2.2.1 | exact hk_.1.2.2.2.2 | exact hk_.1.1.2.2.1 | exact hk_.1.1.2.2.2 | exact hk_.1.1.1.2.1 | exact hk_.1.1.1.2.2 | exact hk_.1.1.1.1.2 | exact hk_.2.2.2.2.2.1 | exact hk_.2.2.2.2.2.2 | exact hk_.1.2.2.2.2.1 | exact hk_.1.2.2.2.2.2 | exact hk_.1.1.2.2.2.1 | exact hk_.1.1.2.2.2.2 | exact hk_.1.1.1.2.2.1 | exact hk_.1.1.1.2.2.2 | exact hk_.1.1.1.1.2.1 | exact hk_.1.1.1.1.2.2 | exact hk_.2.2.2.2.2.2.1 | exact hk_.2.2.2.2.2.2.2 | exact hk_.1.2.2.2.2.2.1 | exact hk_.1.2.2.2.2.2.2 | exact hk_.1.1.2.2.2.2.1 | exact hk_.1.1.2.2.2.2.2 | exact hk_.1.1.1.2.2.2.1 | exact hk_.1.1.1.2.2.2.2 | exact hk_.1.1.1.1.2.2.1 | exact hk_.1.1.1.1.2.2.2 | exact hk_.2.2.2.2.2.2.2.1 | exact hk_.2.2.2.2.2.2.2.2 | exact hk_.1.2.2.2.2.2.2.1 | exact hk_.1.2.2.2.2.2.2.2 | exact hk_.1.1.2.2.2.2.2.1 | exact hk_.1.1.2.2.2.2.2.2 | exact hk_.1.1.1.2.2.2.2.1 | exact hk_.1.1.1.2.2.2.2.2 | exact hk_.1.1.1.1.2.2.2.1 | exact hk_.1.1.1.1.2.2.2.2 | exact hk_.2.2.2.2.2.2.2.2.1 | exact hk_.1.2.2.2.2.2.2.2.1 | exact hk_.1.2.2.2.2.2.2.2.2 | exact hk_.1.1.2.2.2.2.2.2.1 | exact hk_.1.1.2.2.2.2.2.2.2 | exact hk_.1.1.1.2.2.2.2.2.1 | exact hk_.1.1.1.2.2.2.2.2.2 | exact hk_.1.1.1.1.2.2.2.2.1 | exact hk_.1.1.1.1.2.2.2.2.2 | exact hk_.1.2.2.2.2.2.2.2.2.1 | exact hk_.1.1.2.2.2.2.2.2.2.1 | exact hk_.1.1.2.2.2.2.2.2.2.2 | exact hk_.1.1.1.2.2.2.2.2.2.1 | exact hk_.1.1.1.2.2.2.2.2.2.2 | exact hk_.1.1.1.1.2.2.2.2.2.1 | exact hk_.1.1.1.1.2.2.2.2.2.2) : q := h hk
theorem aB {n : Nat} {w W : World} (h : Below n w W := by (repeat (first | (with_reducible first | exact Aside0.out (by assumption) | apply below_alloc | apply pw_below_drewN | apply below_drew1 | refine below_set ?_ o0) | exact o0)); first | done | fail) : Below n w W := h
theorem aA {as bs : Array Value} (h : as = bs := by (try simp only [List.map_toArray, List.map_cons, List.map_nil]); first | done | rfl | (simp only [List.length_drop, List.length_take]; rfl)) : as = bs := h
theorem aD {p : Prop} [Decidable p] (h : decide p = true := by first | (with_reducible assumption) | assumption) : p := of_decide_eq_true h
theorem aH {p : Prop} (h : p := by first | (go_simp; done) | (go_simp; rfl) | (go_simp; simp only [Go.Proofs.YtbgmfgndldnmcaaGreatDoorMyWords.u32_u8, Go.Proofs.YtbgmfgndldnmcaaGreatDoorMyWords.u8_w]; done) | (go_simp; simp only [Go.Proofs.YtbgmfgndldnmcaaGreatDoorMyWords.u32_u8, Go.Proofs.YtbgmfgndldnmcaaGreatDoorMyWords.u8_w]; rfl)) : p := h
theorem aP {p : Prop} (h : p := by simp only [Act.put, List.setIfInBounds_toArray, List.set_cons_zero, List.set_cons_succ, i64_w, i32_w] <;> rfl) : p := h
section
variable {α : Type} {d : Kd α} {e base : Nat} {W W' : World} {ok : Nat → Prop} {v : Value} {xs : List α}
theorem pV (h : Kd.V d e W base ok v xs) (p : Kd.V d e W base ok v xs → Kd.V d e W' base ok v xs := by intro h_; (with_reducible repeat (first | exact h_ | apply Kd.V_alloc | apply Kd.V_drewN | apply Kd.V_drew))) : Kd.V d e W' base ok v xs := p h
theorem pN (h : Kd.N d e W base ok v xs) (p : Kd.N d e W base ok v xs → Kd.N d e W' base ok v xs := by intro h_; (with_reducible repeat (first | exact h_ | apply Kd.N_alloc | apply Kd.N_drewN | apply Kd.N_drew))) : Kd.N d e W' base ok v xs := p h
theorem pR (h : Kd.R d e W base ok v xs) (p : Kd.R d e W base ok v xs → Kd.R d e W' base ok v xs := by intro h_; (with_reducible repeat (first | exact h_ | apply Kd.R_alloc | apply Kd.R_drewN | apply Kd.R_drew))) : Kd.R d e W' base ok v xs := p h
theorem pC {A : Option Addr} {n : Nat} (h : Kd.C d W A n xs) (p : Kd.C d W A n xs → Kd.C d W' A n xs := by intro h_; repeat (first | (with_reducible exact h_) | (with_reducible refine Kd.C_alloc ?_ _) | (with_reducible refine Kd.C_drewN ?_ _) | (with_reducible refine Kd.C_drew ?_) | exact h_)) : Kd.C d W' A n xs := p h
theorem pB {g : Nat} {o : Obj} (h : W.heap[g]? = some o) (p : W.heap[g]? = some o → W'.heap[g]? = some o := by intro h_; (with_reducible repeat (first | exact h_ | refine blk_drewN ?_ _ | refine blk_drew ?_ | refine blk_alloc ?_ _))) : W'.heap[g]? = some o := p h
theorem farV (h : Kd.V d e W' base ok v xs := by (repeat (first | (with_reducible first | exact o0 | apply Kd.V_alloc | apply Kd.V_drewN | apply Kd.V_drew | apply Kd.V_far) | (intro k_ hk_; exact aL hk_))); first | done | fail) : Kd.V d e W' base ok v xs := h
theorem tV (H : Kd.V d e W base ok v xs) (p : Kd.V d e W base ok v xs → Kd.V d e W' base ok v xs := by intro h_; (repeat (first | (with_reducible first | exact h_ | apply Kd.V_alloc | apply Kd.V_drewN | apply Kd.V_drew | apply Kd.V_far) | (intro k_ hk_; exact aL hk_))); first | done | fail) : Kd.V d e W' base ok v xs := p H
theorem sV {ok' : Nat → Prop} (H : Kd.V d e W base ok v xs) (p : Kd.V d e W base ok v xs → Kd.V d e W' base ok' v xs := by intro h_; apply Kd.V_mono; (repeat (first | (with_reducible first | exact h_ | apply Kd.V_alloc | apply Kd.V_drewN | apply Kd.V_drew | apply Kd.V_far) | (intro k_ hk_; (repeat' (with_reducible refine And.intro ?_ ?_)) <;> exact aL hk_))); first | done | fail) : Kd.V d e W' base ok' v xs := p H
theorem uV {w1 : World} (H : Aside0 (Kd.V d e W base ok v xs)) (hb : Below W'.heap.size W' w1) (p : Kd.V d e W base ok v xs → Kd.V d e W' base ok v xs := by intro h_; (with_reducible repeat (first | exact h_ | apply Kd.V_alloc | apply Kd.V_drewN | apply Kd.V_drew))) : Aside0 (Kd.V d e w1 base ok v xs) := ⟨Kd.V_below (p H.out) hb⟩
theorem eV {w1 : World} {g : Nat} (H : Aside0 (Kd.V d e W base ok v xs)) (hg : g = W'.heap.size) (hb : Below W'.heap.size W' w1) (p : Kd.V d e W base ok v xs → Kd.V d e W' base ok v xs := by intro h_; (with_reducible repeat (first | exact h_ | apply Kd.V_alloc | apply Kd.V_drewN | apply Kd.V_drew))) : Aside0 (Kd.V d e w1 base (fun k => ok k ∧ k ≠ g) v xs) := ⟨Kd.V_below (Kd.V_elderB (p H.out) g (Nat.le_of_eq hg.symm)) hb⟩
theorem dV {w1 : World} {u : Value} (H : Aside0 (Kd.V d e W base ok v xs)) (hu : ∀ k, u.ownBlock = some k → W'.heap.size ≤ k) (hb : Below W'.heap.size W' w1) (p : Kd.V d e W base ok v xs → Kd.V d e W' base ok v xs := by intro h_; (with_reducible repeat (first | exact h_ | apply Kd.V_alloc | apply Kd.V_drewN | apply Kd.V_drew))) : Aside0 (Kd.V d e w1 base (fun k => ok k ∧ some k ≠ u.ownBlock) v xs) := ⟨Kd.V_elder' (p H.out) hu hb⟩
theorem qV {w1 : World} (H : Aside0 (Kd.V d e W base ok v xs)) (hq : W' = w1) (p : Kd.V d e W base ok v xs → Kd.V d e W' base ok v xs := by intro h_; (with_reducible repeat (first | exact h_ | apply Kd.V_alloc | apply Kd.V_drewN | apply Kd.V_drew))) : Aside0 (Kd.V d e w1 base ok v xs) := ⟨hq ▸ p H.out⟩
theorem mV {base' : Nat} (h : Kd.V d e W base ok v xs) (hb : base' ≤ base := by exact below_size aB) : Aside0 (Kd.V d e W base' ok v xs) := ⟨Kd.V_lower h hb⟩
theorem farN (h : Kd.N d e W' base ok v xs := by (repeat (first | (with_reducible first | exact o0 | apply Kd.N_alloc | apply Kd.N_drewN | apply Kd.N_drew | apply Kd.N_far) | (intro k_ hk_; exact aL hk_))); first | done | fail) : Kd.N d e W' base ok v xs := h
theorem tN (H : Kd.N d e W base ok v xs) (p : Kd.N d e W base ok v xs → Kd.N d e W' base ok v xs := by intro h_; (repeat (first | (with_reducible first | exact h_ | apply Kd.N_alloc | apply Kd.N_drewN | apply Kd.N_drew | apply Kd.N_far) | (intro k_ hk_; exact aL hk_))); first | done | fail) : Kd.N d e W' base ok v xs := p H
theorem sN {ok' : Nat → Prop} (H : Kd.N d e W base ok v xs) (p : Kd.N d e W base ok v xs → Kd.N d e W' base ok' v xs := by intro h_; apply Kd.N_mono; (repeat (first | (with_reducible first | exact h_ | apply Kd.N_alloc | apply Kd.N_drewN | apply Kd.N_drew | apply Kd.N_far) | (intro k_ hk_; (repeat' (with_reducible refine And.intro ?_ ?_)) <;> exact aL hk_))); first | done | fail) : Kd.N d e W' base ok' v xs := p H
theorem uN {w1 : World} (H : Aside0 (Kd.N d e W base ok v xs)) (hb : Below W'.heap.size W' w1) (p : Kd.N d e W base ok v xs → Kd.N d e W' base ok v xs := by intro h_; (with_reducible repeat (first | exact h_ | apply Kd.N_alloc | apply Kd.N_drewN | apply Kd.N_drew))) : Aside0 (Kd.N d e w1 base ok v xs) := ⟨Kd.N_below (p H.out) hb⟩
theorem eN {w1 : World} {g : Nat} (H : Aside0 (Kd.N d e W base ok v xs)) (hg : g = W'.heap.size) (hb : Below W'.heap.size W' w1) (p : Kd.N d e W base ok v xs → Kd.N d e W' base ok v xs := by intro h_; (with_reducible repeat (first | exact h_ | apply Kd.N_alloc | apply Kd.N_drewN | apply Kd.N_drew))) : Aside0 (Kd.N d e w1 base (fun k => ok k ∧ k ≠ g) v xs) := ⟨Kd.N_below (Kd.N_elderB (p H.out) g (Nat.le_of_eq hg.symm)) hb⟩
theorem dN {w1 : World} {u : Value} (H : Aside0 (Kd.N d e W base ok v xs)) (hu : ∀ k, u.ownBlock = some k → W'.heap.size ≤ k) (hb : Below W'.heap.size W' w1) (p : Kd.N d e W base ok v xs → Kd.N d e W' base ok v xs := by intro h_; (with_reducible repeat (first | exact h_ | apply Kd.N_alloc | apply Kd.N_drewN | apply Kd.N_drew))) : Aside0 (Kd.N d e w1 base (fun k => ok k ∧ some k ≠ u.ownBlock) v xs) := ⟨Kd.N_elder' (p H.out) hu hb⟩
theorem qN {w1 : World} (H : Aside0 (Kd.N d e W base ok v xs)) (hq : W' = w1) (p : Kd.N d e W base ok v xs → Kd.N d e W' base ok v xs := by intro h_; (with_reducible repeat (first | exact h_ | apply Kd.N_alloc | apply Kd.N_drewN | apply Kd.N_drew))) : Aside0 (Kd.N d e w1 base ok v xs) := ⟨hq ▸ p H.out⟩
theorem mN {base' : Nat} (h : Kd.N d e W base ok v xs) (hb : base' ≤ base := by exact below_size aB) : Aside0 (Kd.N d e W base' ok v xs) := ⟨Kd.N_lower h hb⟩
theorem farR (h : Kd.R d e W' base ok v xs := by (repeat (first | (with_reducible first | exact o0 | apply Kd.R_alloc | apply Kd.R_drewN | apply Kd.R_drew | apply Kd.R_far) | (intro k_ hk_; exact aL hk_))); first | done | fail) : Kd.R d e W' base ok v xs := h
theorem tR (H : Kd.R d e W base ok v xs) (p : Kd.R d e W base ok v xs → Kd.R d e W' base ok v xs := by intro h_; (repeat (first | (with_reducible first | exact h_ | apply Kd.R_alloc | apply Kd.R_drewN | apply Kd.R_drew | apply Kd.R_far) | (intro k_ hk_; exact aL hk_))); first | done | fail) : Kd.R d e W' base ok v xs := p H
theorem sR {ok' : Nat → Prop} (H : Kd.R d e W base ok v xs) (p : Kd.R d e W base ok v xs → Kd.R d e W' base ok' v xs := by intro h_; apply Kd.R_mono; (repeat (first | (with_reducible first | exact h_ | apply Kd.R_alloc | apply Kd.R_drewN | apply Kd.R_drew | apply Kd.R_far) | (intro k_ hk_; (repeat' (with_reducible refine And.intro ?_ ?_)) <;> exact aL hk_))); first | done | fail) : Kd.R d e W' base ok' v xs := p H
theorem uR {w1 : World} (H : Aside0 (Kd.R d e W base ok v xs)) (hb : Below W'.heap.size W' w1) (p : Kd.R d e W base ok v xs → Kd.R d e W' base ok v xs := by intro h_; (with_reducible repeat (first | exact h_ | apply Kd.R_alloc | apply Kd.R_drewN | apply Kd.R_drew))) : Aside0 (Kd.R d e w1 base ok v xs) := ⟨Kd.R_below (p H.out) hb⟩
theorem eR {w1 : World} {g : Nat} (H : Aside0 (Kd.R d e W base ok v xs)) (hg : g = W'.heap.size) (hb : Below W'.heap.size W' w1) (p : Kd.R d e W base ok v xs → Kd.R d e W' base ok v xs := by intro h_; (with_reducible repeat (first | exact h_ | apply Kd.R_alloc | apply Kd.R_drewN | apply Kd.R_drew))) : Aside0 (Kd.R d e w1 base (fun k => ok k ∧ k ≠ g) v xs) := ⟨Kd.R_below (Kd.R_elderB (p H.out) g (Nat.le_of_eq hg.symm)) hb⟩
theorem dR {w1 : World} {u : Value} (H : Aside0 (Kd.R d e W base ok v xs)) (hu : ∀ k, u.ownBlock = some k → W'.heap.size ≤ k) (hb : Below W'.heap.size W' w1) (p : Kd.R d e W base ok v xs → Kd.R d e W' base ok v xs := by intro h_; (with_reducible repeat (first | exact h_ | apply Kd.R_alloc | apply Kd.R_drewN | apply Kd.R_drew))) : Aside0 (Kd.R d e w1 base (fun k => ok k ∧ some k ≠ u.ownBlock) v xs) := ⟨Kd.R_elder' (p H.out) hu hb⟩
theorem qR {w1 : World} (H : Aside0 (Kd.R d e W base ok v xs)) (hq : W' = w1) (p : Kd.R d e W base ok v xs → Kd.R d e W' base ok v xs := by intro h_; (with_reducible repeat (first | exact h_ | apply Kd.R_alloc | apply Kd.R_drewN | apply Kd.R_drew))) : Aside0 (Kd.R d e w1 base ok v xs) := ⟨hq ▸ p H.out⟩
theorem mR {base' : Nat} (h : Kd.R d e W base ok v xs) (hb : base' ≤ base := by exact below_size aB) : Aside0 (Kd.R d e W base' ok v xs) := ⟨Kd.R_lower h hb⟩

theorem uC {w1 : World} {A : Option Addr} {n : Nat} (H : Aside0 (Kd.C d W A n xs)) (hb : Below W'.heap.size W' w1) (p : Kd.C d W A n xs → Kd.C d W' A n xs := by intro h_; repeat (first | (with_reducible exact h_) | (with_reducible refine Kd.C_alloc ?_ _) | (with_reducible refine Kd.C_drewN ?_ _) | (with_reducible refine Kd.C_drew ?_) | exact h_)) : Aside0 (Kd.C d w1 A n xs) := ⟨Kd.C_below (p H.out) hb⟩
theorem far1 {w : World} {g g' i : Nat} {o : Obj} {u : Value} (h : w.heap[g]? = some o) (hp : g ≠ g') : (w.setCell ⟨g', i, none⟩ u).heap[g]? = some o := (Below.heap_setCell w _ u g hp).trans h
theorem sB {g : Nat} {o : Obj} (h : W.heap[g]? = some o := by (with_reducible repeat (first | exact o0 | apply blk_drewN | apply blk_drew | apply blk_alloc | (apply far1; case hp => exact o0))); first | done | ((with_reducible apply blk_put) <;> first | exact sB | rfl)) : W.heap[g]? = some o := h
theorem uB {g : Nat} {o : Obj} {w1 : World} (H : Aside0 (W.heap[g]? = some o)) (hb : Below W'.heap.size W' w1) (p : W.heap[g]? = some o → W'.heap[g]? = some o := by intro h_; (with_reducible repeat (first | exact h_ | refine blk_drewN ?_ _ | refine blk_drew ?_ | refine blk_alloc ?_ _ | refine far1 ?_ o0))) : Aside0 (w1.heap[g]? = some o) := ⟨blk_below (p H.out) hb⟩
theorem qB {g : Nat} {o : Obj} {w1 : World} (H : Aside0 (W.heap[g]? = some o)) (hq : W' = w1) (p : W.heap[g]? = some o → W'.heap[g]? = some o := by intro h_; (with_reducible repeat (first | exact h_ | refine blk_drewN ?_ _ | refine blk_drew ?_ | refine blk_alloc ?_ _ | refine far1 ?_ o0))) : Aside0 (w1.heap[g]? = some o) := ⟨hq ▸ p H.out⟩
theorem gB {g : Nat} {o : Obj} {w1 : World} {row : Option Nat} (H : Aside0 (W.heap[g]? = some o)) (hg : W'.grownBy w1 row) (hne : some g ≠ row) (p : W.heap[g]? = some o → W'.heap[g]? = some o := by intro h_; (with_reducible repeat (first | exact h_ | refine blk_drewN ?_ _ | refine blk_drew ?_ | refine blk_alloc ?_ _ | refine far1 ?_ o0))) : Aside0 (w1.heap[g]? = some o) := ⟨blk_grown (p H.out) hg hne⟩
theorem uL {g g' : Nat} {o : Obj} (H : Aside0 (W.heap[g]? = some o)) (hg : g' = W'.heap.size) (p : W.heap[g]? = some o → W'.heap[g]? = some o := by intro h_; (with_reducible repeat (first | exact h_ | refine blk_drewN ?_ _ | refine blk_drew ?_ | refine blk_alloc ?_ _))) : Aside0 (g ≠ g') := ⟨by rw [hg]; exact Nat.ne_of_lt (blk_lt (p H.out))⟩
theorem uM {g g' : Nat} {o : Obj} (H : Aside0 (W.heap[g]? = some o)) (hg : g' = W'.heap.size) (p : W.heap[g]? = some o → W'.heap[g]? = some o := by intro h_; (with_reducible repeat (first | exact h_ | refine blk_drewN ?_ _ | refine blk_drew ?_ | refine blk_alloc ?_ _))) : Aside0 (g' ≠ g) := ⟨by rw [hg]; exact Nat.ne_of_gt (blk_lt (p H.out))⟩
theorem uW {w w1 : World} (hb : Below W'.heap.size W' w1) (h : Below w.heap.size w W' := by exact aB) : Aside0 (Below w.heap.size w w1) := ⟨below_step h hb⟩
theorem uG {w : World} {g : Nat} (hg : g = W'.heap.size) (h : Below w.heap.size w W' := by exact aB) : Aside0 (w.heap.size ≤ g) := ⟨by rw [hg]; exact below_size h⟩
theorem qW {w w1 : World} (hq : W' = w1) (h : Below w.heap.size w W' := by exact aB) : Aside0 (Below w.heap.size w w1) := ⟨hq ▸ h⟩
theorem aM {ok ok' : Nat → Prop} (h : ∀ k, ok k → ok' k := by
  intro k_ hk_
  repeat' (with_reducible refine Or.elim hk_ ?_ ?_ <;> intro hk_)
  all_goals (repeat' (first | (with_reducible exact trivial) | (with_reducible refine And.intro ?_ ?_)))
  all_goals first
    | exact Nat.le_trans (below_size aB) hk_
    | exact Kd.freshB sB k_ hk_
    | exact Kd.fresh' (Kd.N_lt farN) k_ hk_
    | exact Kd.fresh' (Kd.V_lt farV) k_ hk_
    | exact Kd.fresh' (Kd.R_lt farR) k_ hk_
    | exact .inr (Nat.le_trans (below_size aB) hk_)
    | exact .inl (.inl hk_)
    | exact .inl (.inr hk_)
    | exact fun e_ => Nat.not_le.2 hk_ (by rw [e_]; exact o0)
    | exact aL hk_
    | (have hr_ := (Aside0.out (p := Kd.R _ _ _ _ _ _ _) (by assumption)).1 k_ hk_.symm; clear hk_; have hk_ := hr_; first | exact .inr hk_ | exact aL hk_)
    | (revert hk_; simp only [and_imp]; intros; assumption)) : ∀ k, ok k → ok' k := h
theorem lV {ok' : Nat → Prop} {base' : Nat} (h : Kd.V d e W base ok v xs) (m : ∀ k, ok k → ok' k := by exact aM) (hb : base' ≤ base := by exact below_size aB) : Aside0 (Kd.V d e W base' ok' v xs) := ⟨Kd.V_lower (Kd.V_mono h m) hb⟩
theorem lN {ok' : Nat → Prop} {base' : Nat} (h : Kd.N d e W base ok v xs) (m : ∀ k, ok k → ok' k := by exact aM) (hb : base' ≤ base := by exact below_size aB) : Aside0 (Kd.N d e W base' ok' v xs) := ⟨Kd.N_lower (Kd.N_mono h m) hb⟩
end
section
variable {P : Program} {ops : Array Oper} {Q : Exit → Act → World → Prop} {md : Region.Mode} {S : World → Prop} {ds : List Nat} {N : Option Tmp} {oi : Oper} {v : Value} {fuel : Nat} {l l' : Array Bool} {a a' : Act} {w : World} {T : Bool × List (List Nat × List Nat)} {B : List Nat}
theorem pu (i n : Nat) (HT : Aside0 (rtab md ops = T)) (h : wpAnyLast P md ops Q S ds fuel l' a' w) (hi : ops[i]? = some oi := by rfl) (hN : oi.dst = some n := by rfl) (hl : l.setIfInBounds i true = l' := by simp only [List.setIfInBounds_toArray, List.set_cons_zero, List.set_cons_succ] <;> rfl) (hc : anyT T l.toList l'.toList i = true := by kernel_rfl) (hw : Region.wanted oi (yielded ops a.tmps) = true := by rfl)
    (hy : ∀ w', (execOp a.eval oi).run P w' = .ok (.value v) w' := by intro w'; go_simp; with_reducible rfl) (ha : a.put (some n) v = a' := by exact aP)
    (hQ : ∀ c a w, Q (.panic c) (a.put oi.dst v) w → Q (.panic c) a w := by exact fun _ _ _ h => h) : wpAnyLast P md ops Q S ds (fuel + 1) l a w := pure_ l' hi hN (any_of HT.out hc) hQ (Or.inl ⟨hw, hy⟩) ha h
theorem tk (i n : Nat) (HT : Aside0 (rtab md ops = T)) (HW : Aside0 (waitsOk T.2 B = true)) (hS : S w) (h : wpAnyLast P md ops Q S ds fuel l' a' w) (hi : ops[i]? = some oi := by rfl) (hN : oi.dst = some n := by rfl) (hl : l.setIfInBounds i true = l' := by simp only [List.setIfInBounds_toArray, List.set_cons_zero, List.set_cons_succ] <;> rfl) (hc : takeW T B ds l.toList l'.toList i = true := by kernel_rfl) (hw : Region.wanted oi (yielded ops a.tmps) = true := by rfl)
    (hy : ∀ w', S w' → (execOp a.eval oi).run P w' = .ok (.value v) w' := by intro w' hs_; (repeat (have := hs_.1; replace hs_ := hs_.2)); go_simp; with_reducible rfl) (ha : a.put (some n) v = a' := by exact aP)
    (hQ : ∀ c a w, Q (.panic c) (a.put oi.dst v) w → Q (.panic c) a w := by exact fun _ _ _ h => h) : wpAnyLast P md ops Q S ds (fuel + 1) l a w := take_ l' hi hN (take_ofW HT.out HW.out hc) hQ (Or.inl ⟨hw, hy⟩) hS ha h
theorem oN (i n : Nat) (HT : Aside0 (rtab md ops = T)) (h : ∀ K : Act → World → Prop, Shut (∀ a' w', S w' → (S w' → wpAnyLast P md ops Q S ds fuel l' a' w') → K a' w') → if Region.wanted oi (yielded ops a.tmps) = true then Oper.wp P oi a w K Q else K (a.put (some n) undef) w) (hi : ops[i]? = some oi := by rfl) (hN : oi.dst = some n := by rfl) (hl : l.setIfInBounds i true = l' := by simp only [List.setIfInBounds_toArray, List.set_cons_zero, List.set_cons_succ] <;> rfl)
    (hc : (readyT T.2 l.toList == [i] && l.toList.set i true == l'.toList) = true := by kernel_rfl) (hd : i ∉ ds := by decide) : wpAnyLast P md ops Q S ds (fuel + 1) l a w := one_ l' hi hN (one_of HT.out hc) hd h
theorem gz {K : Act → World → Prop} {f : FuncId} {fn : Func} (hf : P.funcs[f]? = some fn) {as : Array Operand} {ts : Array TypeId} (args : Array Value) (h : Calls P f args w fun e w' => ∃ v, e = .returned v ∧ K (a.put N v) w') (hw : Region.wanted oi (yielded ops a.tmps) = true := by rfl) (hN : oi.dst = N := by rfl) (hop : oi.op = .call { callee := .value (.func f), args := as, argTypes := ts } := by rfl) (hname : (fn.name == "runtime.NumGoroutine") = false := by kernel_rfl) (hb : fn.body.isSome = true := by rfl)
    (hargs : as.map a.eval = args := by exact aA) : if Region.wanted oi (yielded ops a.tmps) = true then Oper.wp P oi a w K Q else K (a.put N undef) w := goes_ hf hname hb args hw hN hop hargs h
theorem gl {rest : List Oper} (n : Tmp) {f : FuncId} {fn : Func} (hf : P.funcs[f]? = some fn) {as : Array Operand} {ts : Array TypeId} (args : Array Value) (h : Calls P f args w fun e w' => ∃ v, e = .returned v ∧ wpList P ops Q rest (a.put (some n) v) w') (hd : oi.dst = some n := by rfl) (hg : oi.guard = none := by rfl) (hop : oi.op = .call { callee := .value (.func f), args := as, argTypes := ts } := by rfl) (hname : (fn.name == "runtime.NumGoroutine") = false := by kernel_rfl) (hb : fn.body.isSome = true := by rfl)
    (hargs : as.map a.eval = args := by exact aA) : wpList P ops Q (oi :: rest) a w := goesL_ (some n) hd hg hf hname hb args hop hargs h
theorem gc {rest : List Oper} (f : FuncId) {as : Array Operand} {ts : Array TypeId} (h : wpList P ops Q (oi :: rest) a w) (ho : oi.op = .call { callee := .value (.func f), args := as, argTypes := ts } := by with_reducible rfl) : wpList P ops Q (oi :: rest) a w := h
theorem gd {rest : List Oper} (n : Tmp) (h : wpList P ops Q (oi :: rest) a w) (hd : oi.dst = some n := by with_reducible rfl) : wpList P ops Q (oi :: rest) a w := h
theorem cZ {g : Nat} {cs : Array Value} {t : TypeId} (H : Aside0 (w.heap[g]? = some (.cells cs t (0, 0)))) (i : Nat) (h : cs[i]? = some v := by simp only [List.getElem?_toArray, List.getElem?_cons_zero, List.getElem?_cons_succ] <;> rfl) : w.cell? ⟨g, i, none⟩ = some v := (blk_cell H.out i).trans h
theorem cS {p : Prop} (h : p := by (repeat' (with_reducible refine And.intro ?_ ?_)) <;> exact (blk_cell sB _).trans rfl) : p := h
theorem bS {α β : Type} {x : Option α} {f : α → Option β} {r : β} (H : x.bind f = some r) : ∃ t, Aside0 (x = some t) ∧ f t = some r := (Option.bind_eq_some_iff.mp H).imp fun _ h => ⟨⟨h.1⟩, h.2⟩
end
section
open Go.Maps (Keyed)
def MTold (D : DataW Nat) (F : List UInt8 → Option Int) : Prop := Go.Maps.IsMap D ∧ ∀ s zd, D.atKey (.string s) zd = match F s with | some c => .lit (.int .i64 c) | none => zd
theorem mtold_empty : MTold (.map []) (fun _ => none) := ⟨Go.Maps.isMap_empty, fun _ _ => rfl⟩
theorem MTold.put {D : DataW Nat} {F : List UInt8 → Option Int} (h : MTold D F) (s : List UInt8) (c : Int) (hs : WideAt.IsKeyLit (.string s)) : MTold (D.put (.string s) (.lit (.int .i64 c))) (fun x => if x = s then some c else F x) := by
  refine ⟨h.1.put _ _, fun x zd => ?_⟩
  by_cases hx : x = s
  · subst hx
    rw [Go.Maps.atKey_put_same h.1 hs]
    simp
  · rw [Go.Maps.atKey_put_other (fun e => hx (by injection e)), h.2 x zd]
    simp [hx]
theorem MTold.find {D : DataW Nat} {F : List UInt8 → Option Int} (h : MTold D F) {s : List UInt8} {y : DataW Nat} (hat : ∀ zd, D.atKey (.string s) zd = y) : ∃ c, F s = some c ∧ y = .lit (.int .i64 c) := by
  cases hF : F s with
  | some c => exact ⟨c, rfl, by rw [← hat .nil, h.2 s .nil, hF]⟩
  | none =>
    have h1 := (hat .nil).symm.trans (h.2 s .nil)
    have h2 := (hat (.lit (.bool true))).symm.trans (h.2 s (.lit (.bool true)))
    rw [hF] at h1 h2
    rw [h1] at h2
    cases h2
theorem MTold.miss {D : DataW Nat} {F : List UInt8 → Option Int} (h : MTold D F) {s : List UInt8} (hat : ∀ zd, D.atKey (.string s) zd = zd) : F s = none := by
  cases hF : F s with
  | none => rfl
  | some c =>
    have h1 := (hat .nil).symm.trans (h.2 s .nil)
    rw [hF] at h1
    cases h1
theorem lookup_ok {P : Program} (w : World) {ops : Array Oper} {rest : List Oper} {o : Oper} {a : Act} {Q : Exit → Act → World → Prop}
    (hg : o.guard = none) (m x : Operand) (t : TypeId) (hop : o.op = Op.lookup t m x true)
    (k e : TypeId) (K : Keyed P k) (ht : P.underlying t = some (.map k e)) (he : P.underlying e = some (.int .i64)) (hz : (zeroValue e).run P w = .ok (.int .i64 0) w) (b n : Nat) (D : DataW Nat)
    (hm : a.eval m = .map (some b)) (hown : w.ownsMap P k (plainElem P e) b n D) (F : List UInt8 → Option Int) (hT : MTold D F) (s : ByteArray) (hx : a.eval x = .string s) (hkey : keyOf P k (.string s) = some (.string s.data.toList))
    (hK : wpList P ops Q rest (a.put o.dst (.tuple #[.int .i64 ((F s.data.toList).getD 0), .bool (F s.data.toList).isSome])) w) :
    wpList P ops Q (o :: rest) a w := by
  refine wpList_plain hg fun K' hK' => ?_
  obtain ⟨es, clock, hb, Ft, _, rfl⟩ := hown
  have hrun : (Instr.lookup t (.map (some b)) (.string s) true).run P w = .ok (.tuple #[.int .i64 ((F s.data.toList).getD 0), .bool (F s.data.toList).isSome]) w := by
    rcases Maps.fit_look true K ht hz hb Ft hkey with ⟨hrun, _, hat⟩ | ⟨e0, y, _, _, hrun, hRv, hat, _⟩
    · rw [hrun, hT.miss hat]
      rfl
    · obtain ⟨c, hc, hy⟩ := hT.find hat
      obtain ⟨c', hv, hz', _⟩ := plainElem_int_inv he hRv
      rw [hz'] at hy
      simp at hy
      rw [hrun, hc, hv, hy]
      rfl
  unfold Oper.wp
  simp [execOp, hop, hm, hx, hrun, Result.andThen]
  exact hK' _ _ hK
end
end Go.Proofs.YtbgmfgndldnmcaaGreatDoorW.Q
