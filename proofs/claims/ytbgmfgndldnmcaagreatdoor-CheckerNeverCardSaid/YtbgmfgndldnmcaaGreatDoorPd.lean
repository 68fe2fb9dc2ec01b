/- Functions of the program as plain Lean functions, with proved contracts; printed by programs of this session. -/
import Derived.Test.YtbgmfgndldnmcaaGreatDoorPc
namespace Go.Proofs.YtbgmfgndldnmcaaGreatDoor.PCheckerNever
open Go.RowKit Go.Proofs.YtbgmfgndldnmcaaGreatDoorW.PrintWords Go.Proofs.YtbgmfgndldnmcaaGreatDoorW.PrintLast Go.Proofs.YtbgmfgndldnmcaaGreatDoorW.PrintMore Go.Proofs.YtbgmfgndldnmcaaGreatDoorW.Q
attribute [local go_sem] max2_int max_two
set_option linter.unusedVariables false
set_option linter.unusedSimpArgs false
/-- Is an index that of an arc? -/
def cycArc (l0 : List (S33)) (i : Int) : Bool := decide (0 ≤ i) && decide (i < (l0.length : Int)) && decide ((rd_T33 l0 i).f0 ≥ 1) && decide ((rd_T33 l0 i).f0 ≤ 3)
/-- Does the relation at place k of a cycle fit the one before it, and is its lower unit new? -/
def cycFits (l0 : List (S33)) (l1 : List Int) (k : Nat) : Bool :=
 ((rd_T33 l0 (rd l1 (((k + l1.length - 1) % l1.length : Nat) : Int))).f1.toList == (rd_T33 l0 (rd l1 (k : Int))).f2.toList) &&
 (List.range k).all fun j => decide ((rd_T33 l0 (rd l1 (j : Int))).f2 ≠ (rd_T33 l0 (rd l1 (k : Int))).f2)
def checker_Cycle.f (l0 : List (S33)) (l1 : List Int) : Option (Bool) :=
 if l0.all (fun x => ordBrief x.f1 && ordBrief x.f2) && decide (l1.length ≤ 1000 ∧ l0.length ≤ 1000) then some (decide (0 < l1.length) && l1.all (cycArc l0) && (List.range l1.length).all (cycFits l0 l1)) else none
/-- The map's datum holds 'true' just at the keys of F. -/
def BTold (D : DataW Nat) (F : List UInt8 → Bool) : Prop := Go.Maps.IsMap D ∧ ∀ s zd, D.atKey (.string s) zd = if F s = true then .lit (.bool true) else zd
theorem btold_empty : BTold (.map []) (fun _ => false) := ⟨Go.Maps.isMap_empty, fun _ _ => rfl⟩
theorem BTold.put {D : DataW Nat} {F : List UInt8 → Bool} (h : BTold D F) (s : List UInt8) (hs : WideAt.IsKeyLit (.string s)) : BTold (D.put (.string s) (.lit (.bool true))) (fun x => decide (x = s) || F x) := by
 refine ⟨h.1.put _ _, fun x zd => ?_⟩
 by_cases hx : x = s
 ·
  subst hx
  rw [Go.Maps.atKey_put_same h.1 hs]
  simp
 ·
  rw [Go.Maps.atKey_put_other (fun e => hx (by injection e)), h.2 x zd]
  simp [hx]
theorem BTold.find {D : DataW Nat} {F : List UInt8 → Bool} (h : BTold D F) {s : List UInt8} {y : DataW Nat} (hat : ∀ zd, D.atKey (.string s) zd = y) : F s = true ∧ y = .lit (.bool true) := by
 cases hF : F s with
 | true => exact ⟨rfl, by rw [← hat .nil, h.2 s .nil, hF]; rfl⟩
 | false =>
  have h1 := (hat .nil).symm.trans (h.2 s .nil)
  have h2 := (hat (.lit (.bool true))).symm.trans (h.2 s (.lit (.bool true)))
  rw [hF] at h1 h2
  rw [h1] at h2
  cases h2
theorem BTold.miss {D : DataW Nat} {F : List UInt8 → Bool} (h : BTold D F) {s : List UInt8} (hat : ∀ zd, D.atKey (.string s) zd = zd) : F s = false := by
 cases hF : F s with
 | false => rfl
 | true =>
  have h1 := (hat .nil).symm.trans (h.2 s .nil)
  rw [hF] at h1
  cases h1
theorem plainElem_bool_inv {H : Type} {P : Program} {e : TypeId} (he : P.underlying e = some .bool) {v : Value} {z : DataW H × List MemPlace} (h : plainElem P e v = some z) : ∃ a, v = .bool a ∧ z = (.lit (.bool a), []) := by
 unfold plainElem at h
 rw [he] at h
 cases v <;> simp at h
 obtain rfl := h
 exact ⟨_, rfl, rfl⟩
theorem cycBelow {w W : World} {b n : Nat} {D : DataW Nat} (h : w.ownsMap Tryz.prog 9 (plainElem Tryz.prog 4) b n D) (hb : Below w.heap.size w W) : W.ownsMap Tryz.prog 9 (plainElem Tryz.prog 4) b n D := by
 have hlt := h.lt
 obtain ⟨es, clock, hbk, F, hs, hD⟩ := h
 exact ⟨es, clock, (hb.block b hlt).trans hbk, F, hs, hD⟩
theorem cycDrawn (w : World) (n : Nat) : Below w.heap.size w (w.drewN n) := by apply pw_below_drewN; exact Below.refl _ _
theorem cycZero (w : World) : (zeroValue 4).run Tryz.prog w = .ok (.bool false) w := by kernel_rfl
theorem lookup_set {P : Program} (w : World) (t k e : TypeId) (K : Go.Maps.Keyed P k) (ht : P.underlying t = some (.map k e)) (he : P.underlying e = some .bool) (hz : (zeroValue e).run P w = .ok (.bool false) w) (b n : Nat) (D : DataW Nat)
  (hown : w.ownsMap P k (plainElem P e) b n D) (F : List UInt8 → Bool) (hT : BTold D F) (s : ByteArray) (hkey : keyOf P k (.string s) = some (.string s.data.toList)) :
  (Instr.lookup t (.map (some b)) (.string s) false).run P w = .ok (.bool (F s.data.toList)) w := by
 obtain ⟨es, clock, hb, Ft, _, rfl⟩ := hown
 rcases Maps.fit_look false K ht hz hb Ft hkey with ⟨hrun, _, hat⟩ | ⟨e0, y, _, _, hrun, hRv, hat, _⟩
 ·
  rw [hrun, hT.miss hat]
  rfl
 ·
  obtain ⟨c, hy⟩ := hT.find hat
  obtain ⟨c', hv, hz'⟩ := plainElem_bool_inv he hRv
  rw [hz'] at hy
  simp at hy
  rw [hrun, c, hv, hy]
  rfl
theorem cycArc_is (l0 : List (S33)) (i : Int) : checker_arc.f l0 i = some (cycArc l0 i) := by
 unfold checker_arc.f cycArc
 by_cases h0 : 0 ≤ i
 ·
  by_cases h1 : i < (l0.length : Int)
  ·
   by_cases h2 : (rd_T33 l0 i).f0 ≥ 1
   ·
    by_cases h3 : (rd_T33 l0 i).f0 ≤ 3 <;> simp [h0, h1, h2, h3]
   ·
    simp [h0, h1, h2]
  ·
   simp [h0, h1]
 ·
  simp [h0]
theorem cycMem {l1 : List Int} {k : Nat} (hk : k < l1.length) : rd l1 (k : Int) ∈ l1 := by
 unfold rd
 rw [Int.toNat_natCast, List.getD_eq_getElem?_getD, List.getElem?_eq_getElem hk]
 exact List.getElem_mem hk
theorem cycNone {l0 : List (S33)} {l1 : List Int} {k : Nat} (hk : k < l1.length) (h : cycArc l0 (rd l1 (k : Int)) = false) : l1.all (cycArc l0) = false := by
 cases hA : l1.all (cycArc l0) with
 | false => rfl
 | true => rw [List.all_eq_true.1 hA _ (cycMem hk)] at h; cases h
theorem cycAll {l0 : List (S33)} {l1 : List Int} (h : ∀ j, j < l1.length → cycArc l0 (rd l1 (j : Int)) = true) : l1.all (cycArc l0) = true := by
 rw [List.all_eq_true]
 intro x hx
 obtain ⟨j, hj, rfl⟩ := List.getElem_of_mem hx
 have := h j hj
 unfold rd at this
 rwa [Int.toNat_natCast, List.getD_eq_getElem?_getD, List.getElem?_eq_getElem hj] at this
theorem cycArc.calls (A0 : Option Addr) (c0 : Nat) (l0 : List (S33)) (i : Int) (g : Nat) (w : World) (hg : w.cell? ⟨g, 0, none⟩ = some (.slice A0 l0.length c0)) (hr0 : Kd.C k33 w A0 l0.length l0) (hc0 : l0.length ≤ c0) :
  Calls Tryz.prog 16 #[.int .i64 i, .pointer (some ⟨g, 0, none⟩)] w fun e w' => e = .returned (.bool (!cycArc l0 i)) ∧ Drawn0 w w' := by
 go_enter Tryz.func16, Tryz.ntmps16
 go_wp2_with (first
  | (go_at_call 14; refine (checker_arc.calls A0 c0 l0 i _ _ hr0 hc0 (cycArc_is l0 i)).mono ?_; rintro e w' ⟨rfl, hd⟩)
  | go_in)
 go_ret
 exact ⟨rfl, by repeat (first | exact Drawn0.refl _ | exact hd | apply Drawn0.step)⟩
set_option maxRecDepth 100000 in
set_option maxHeartbeats 8000000 in
theorem cycIndex.calls (A0 : Option Addr) (c0 : Nat) (l0 : List (S33)) (A1 : Option Addr) (c1 : Nat) (l1 : List Int) (g : Nat) (w : World) (hg : w.cell? ⟨g, 0, none⟩ = some (.slice A0 l0.length c0)) (hr0 : Kd.C k33 w A0 l0.length l0) (hc0 : l0.length ≤ c0) (hr1 : Kd.C (Kd.int .i64) w A1 l1.length l1) (hc1 : l1.length ≤ c1) (hlen : l1.length ≤ 1000) :
  Calls Tryz.prog 32 #[.slice A1 l1.length c1, .func (.func 16) #[] #[.pointer (some ⟨g, 0, none⟩)]] w fun e w' => (∃ r : Int, e = .returned (.int .i64 r) ∧ decide (r ≥ 0) = !l1.all (cycArc l0)) ∧ Drawn0 w w' := by
 go_enter Tryz.func32, Tryz.ntmps32
 go_wp2
 go_loopw [8] (fun i wr => ∃ k : Nat, k ≤ l1.length ∧ i = .int .i64 k ∧ (∀ j, j < k → cycArc l0 (rd l1 (j : Int)) = true) ∧ Drawn0 w wr)
  (fun i _ => l1.length - (intOf i).toNat)
 case atStart => exact ⟨0, Nat.zero_le _, rfl, fun j hj => absurd hj (Nat.not_lt_zero _), Drawn0.refl _⟩
 case round =>
  obtain ⟨k, hk, rfl, hno, ⟨nd, rfl⟩⟩ := hrel
  by_cases hlt : k < l1.length
  ·
   obtain ⟨ad, eA, hx⟩ := Kd.at_int hr1 (k : Int) (by omega) (by omega)
   subst eA
   rw [Int.toNat_natCast] at hx
   cases hf : cycArc l0 (rd l1 (k : Int)) with
   | true =>
    go_wp2_with (first
     | (go_at_call 16; refine (cycArc.calls A0 c0 l0 (rd l1 (k : Int)) g _ ?hg ?hr hc0).mono ?_; (case hg => simpa using hg); (case hr => exact pC hr0); rw [hf]; rintro e w' ⟨rfl, ⟨nd1, rfl⟩⟩)
     | go_in)
    go_roundw
    case rel =>
     refine ⟨k + 1, by omega, by go_num, fun j hj => ?_, by repeat (first | exact Drawn0.refl _ | apply Drawn0.step)⟩
     by_cases hjk : j = k
     ·
      subst hjk
      exact hf
     ·
      exact hno j (by omega)
    case measure => simp [intOf]; omega
   | false =>
    go_wp2_with (first
     | (go_at_call 16; refine (cycArc.calls A0 c0 l0 (rd l1 (k : Int)) g _ ?hg ?hr hc0).mono ?_; (case hg => simpa using hg); (case hr => exact pC hr0); rw [hf]; rintro e w' ⟨rfl, ⟨nd1, rfl⟩⟩)
     | go_in)
    go_ret
    refine ⟨⟨_, rfl, ?_⟩, by repeat (first | exact Drawn0.refl _ | apply Drawn0.step)⟩
    rw [cycNone hlt hf]
    exact decide_eq_true (Int.natCast_nonneg k)
  ·
   obtain rfl : k = l1.length := by omega
   go_wp2
   go_ret
   refine ⟨⟨_, rfl, ?_⟩, by repeat (first | exact Drawn0.refl _ | apply Drawn0.step)⟩
   rw [cycAll hno]
   rfl
set_option maxRecDepth 100000 in
set_option maxHeartbeats 8000000 in
theorem cycContains.calls (A0 : Option Addr) (c0 : Nat) (l0 : List (S33)) (A1 : Option Addr) (c1 : Nat) (l1 : List Int) (g : Nat) (w : World) (hg : w.cell? ⟨g, 0, none⟩ = some (.slice A0 l0.length c0)) (hr0 : Kd.C k33 w A0 l0.length l0) (hc0 : l0.length ≤ c0) (hr1 : Kd.C (Kd.int .i64) w A1 l1.length l1) (hc1 : l1.length ≤ c1) (hlen : l1.length ≤ 1000) :
  Calls Tryz.prog 15 #[.slice A1 l1.length c1, .func (.func 16) #[] #[.pointer (some ⟨g, 0, none⟩)]] w fun e w' => e = .returned (.bool (!l1.all (cycArc l0))) ∧ Drawn0 w w' := by
 go_enter Tryz.func15, Tryz.ntmps15
 go_wp2_with (first
  | (go_at_call 32; refine (cycIndex.calls A0 c0 l0 A1 c1 l1 g _ hg hr0 hc0 hr1 hc1 hlen).mono ?_; rintro e w' ⟨⟨q, rfl, hq⟩, ⟨nd1, rfl⟩⟩)
  | go_in)
 go_ret
 exact ⟨by rw [← hq]; rfl, by repeat (first | exact Drawn0.refl _ | apply Drawn0.step)⟩
def cycSeen (l0 : List (S33)) (l1 : List Int) (k : Nat) (s : List UInt8) : Bool := (List.range k).any fun j => decide ((rd_T33 l0 (rd l1 (j : Int))).f2.data.toList = s)
theorem cycSeen_succ (l0 : List (S33)) (l1 : List Int) (k : Nat) : cycSeen l0 l1 (k + 1) = fun s => decide (s = (rd_T33 l0 (rd l1 (k : Int))).f2.data.toList) || cycSeen l0 l1 k s := by
 funext s
 unfold cycSeen
 rw [List.range_succ, List.any_append, List.any_cons, List.any_nil, Bool.or_false, Bool.or_comm]
 congr 1
 exact decide_eq_decide.2 ⟨Eq.symm, Eq.symm⟩
theorem cycSeen_not (l0 : List (S33)) (l1 : List Int) (k : Nat) (s : ByteArray) : ((List.range k).all fun j => decide ((rd_T33 l0 (rd l1 (j : Int))).f2 ≠ s)) = !cycSeen l0 l1 k s.data.toList := by
 unfold cycSeen
 rw [List.not_any_eq_all_not]
 congr 1
 funext j
 have : ((rd_T33 l0 (rd l1 (j : Int))).f2.data.toList = s.data.toList) ↔ (rd_T33 l0 (rd l1 (j : Int))).f2 = s := by
  constructor
  ·
   intro h
   have h2 := Array.toList_inj.1 h
   cases hq : (rd_T33 l0 (rd l1 (j : Int))).f2
   cases s
   simp_all
  ·
   intro h
   rw [h]
 simp [this]
theorem cycNo {f : Nat → Bool} {n k : Nat} (hk : k < n) (h : f k = false) : (List.range n).all f = false := by
 cases hA : (List.range n).all f with
 | false => rfl
 | true => rw [List.all_eq_true.1 hA k (List.mem_range.2 hk)] at h; cases h
theorem cycYes {f : Nat → Bool} {n : Nat} (h : ∀ j, j < n → f j = true) : (List.range n).all f = true := List.all_eq_true.2 fun j hj => h j (List.mem_range.1 hj)
theorem cycIn {l0 : List (S33)} {i : Int} (h : cycArc l0 i = true) : 0 ≤ i ∧ i < (l0.length : Int) := by
 unfold cycArc at h
 simp only [Bool.and_eq_true, decide_eq_true_eq] at h
 exact ⟨h.1.1.1, h.1.1.2⟩
theorem cycBriefOf {l0 : List (S33)} (h : (l0.all fun x => ordBrief x.f1 && ordBrief x.f2) = true) {i : Int} (h0 : 0 ≤ i) (h1 : i < (l0.length : Int)) : ordBrief (rd_T33 l0 i).f2 = true := by
 obtain ⟨k, rfl⟩ := Int.eq_ofNat_of_zero_le h0
 exact (ordBriefOf h (by omega)).2
set_option maxRecDepth 100000 in
set_option maxHeartbeats 8000000 in
theorem checker_Cycle.calls (A0 : Option Addr) (c0 : Nat) (l0 : List (S33)) (A1 : Option Addr) (c1 : Nat) (l1 : List Int) (r : Bool) (w : World) (hr0 : Kd.C k33 w A0 l0.length l0) (hc0 : l0.length ≤ c0) (hr1 : Kd.C (Kd.int .i64) w A1 l1.length l1) (hc1 : l1.length ≤ c1) (h : checker_Cycle.f l0 l1 = some r) :
  Calls Tryz.prog 8 #[.slice A0 l0.length c0, .slice A1 l1.length c1] w fun e w' => e = .returned (.bool r) ∧ Below w.heap.size w w' := by
 have hmm := @run_makeMap Tryz.prog
 have hmf : ∀ (fn : Fn) (first cap : Array Value) (w : World), (Instr.makeFunc fn first cap).run Tryz.prog w = .ok (.func fn first cap) w := fun _ _ _ _ => rfl
 unfold checker_Cycle.f at h
 by_cases hB : (l0.all (fun x => ordBrief x.f1 && ordBrief x.f2) && decide (l1.length ≤ 1000 ∧ l0.length ≤ 1000)) = true
 case neg => rw [if_neg hB] at h; cases h
 rw [if_pos hB] at h
 rw [Bool.and_eq_true] at hB
 obtain ⟨hB0, hB2⟩ := hB
 replace hB2 : l1.length ≤ 1000 ∧ l0.length ≤ 1000 := of_decide_eq_true hB2
 obtain ⟨hB2, hB3⟩ := hB2
 obtain rfl := Option.some.inj h
 clear h
 go_enter Tryz.func8, Tryz.ntmps8
 cases hz : ((l1.length : Int) == 0) with
 | true =>
  go_wp2
  go_ret
  refine ⟨?_, by repeat (first | exact Below.refl _ _ | apply below_alloc | apply pw_below_drewN)⟩
  have e : l1.length = 0 := by simpa using hz
  rw [decide_eq_false (by omega : ¬ 0 < l1.length), Bool.false_and, Bool.false_and]
  rfl
 | false =>
  have hpos : 0 < l1.length := by
   rcases Nat.eq_zero_or_pos l1.length with e | e
   ·
    rw [e] at hz; cases hz
   ·
    exact e
  cases hall : l1.all (cycArc l0) with
  | false =>
   go_wp2_with (first
    | (go_at_call 15; refine (cycContains.calls A0 c0 l0 A1 c1 l1 w.heap.size _ ?hg ?hr0 hc0 ?hr1 hc1 hB2).mono ?_; (case hg => simp); (case hr0 => exact Kd.C_below hr0 ((Below.refl _ _).alloc (Nat.le_refl _) _)); (case hr1 => exact Kd.C_below hr1 ((Below.refl _ _).alloc (Nat.le_refl _) _)); rw [hall]; rintro e w' ⟨rfl, ⟨nd1, rfl⟩⟩)
    | go_in)
   go_ret
   refine ⟨?_, by repeat (first | exact Below.refl _ _ | apply below_alloc | apply pw_below_drewN)⟩
   rw [Bool.and_false, Bool.false_and]
   rfl
  | true =>
   go_wp2_with (first
    | (go_at_call 15; refine (cycContains.calls A0 c0 l0 A1 c1 l1 w.heap.size _ ?hg ?hr0 hc0 ?hr1 hc1 hB2).mono ?_; (case hg => simp); (case hr0 => exact Kd.C_below hr0 ((Below.refl _ _).alloc (Nat.le_refl _) _)); (case hr1 => exact Kd.C_below hr1 ((Below.refl _ _).alloc (Nat.le_refl _) _)); rw [hall]; rintro e w' ⟨rfl, ⟨nd1, rfl⟩⟩)
    | go_in)
   go_loopw [20] (fun i wr => ∃ k : Nat, k ≤ l1.length ∧ i = .int .i64 k ∧ (∀ j, j < k → cycFits l0 l1 j = true) ∧ (∃ D, wr.ownsMap Tryz.prog 9 (plainElem Tryz.prog 4) (w.heap.size + 1) k D ∧ BTold D (cycSeen l0 l1 k)) ∧ wr.heap[w.heap.size]? = some (.cells #[.slice A0 l0.length c0] 26 (0, 0)) ∧ Below w.heap.size w wr)
    (fun i _ => l1.length - (intOf i).toNat)
   case atStart =>
    refine ⟨0, Nat.zero_le _, rfl, fun j hj => absurd hj (Nat.not_lt_zero _), ⟨_, ?_, btold_empty⟩, ?_, by repeat (first | exact Below.refl _ _ | apply below_alloc | apply pw_below_drewN)⟩
    ·
     have e : ((w.alloc (.cells #[.slice A0 l0.length c0] 26)).drewN nd1).heap.size = w.heap.size + 1 := by simp
     have h2 := World.ownsMap_made (H := Nat) ((w.alloc (.cells #[.slice A0 l0.length c0] 26)).drewN nd1) Tryz.prog 9 (plainElem Tryz.prog 4)
     rw [e] at h2
     exact h2
    ·
     have h1 := heap_alloc_new w (.cells #[.slice A0 l0.length c0] 26)
     have h2 : Below (w.alloc (.cells #[.slice A0 l0.length c0] 26)).heap.size (w.alloc (.cells #[.slice A0 l0.length c0] 26)) (((w.alloc (.cells #[.slice A0 l0.length c0] 26)).drewN nd1).alloc (.map #[] 0)) := by repeat (first | exact Below.refl _ _ | apply below_alloc | apply pw_below_drewN)
     exact (h2.block w.heap.size (by simp)).trans h1
   case round =>
    obtain ⟨k, hk, rfl, hno, ⟨D, hown, hD⟩, hbox, hnx⟩ := hrel
    by_cases hlt : k < l1.length
    case neg =>
     obtain rfl : k = l1.length := by omega
     go_wp2
     go_ret
     refine ⟨?_, hnx⟩
     rw [cycYes hno, decide_eq_true hpos]
     rfl
    obtain ⟨ad, eA, hx⟩ := Kd.at_int hr1 (k : Int) (by omega) (by omega)
    have hbm : (k + l1.length - 1) % l1.length < l1.length := Nat.mod_lt _ hpos
    obtain ⟨a1, eA2, hy⟩ := Kd.at_int hr1 (((k + l1.length - 1) % l1.length : Nat) : Int) (by omega) (by omega)
    subst eA
    obtain rfl := Option.some.inj eA2
    replace hx := (hnx.cell (World.block_lt_of_cell? w _ hx)).trans hx
    replace hy := (hnx.cell (World.block_lt_of_cell? w _ hy)).trans hy
    rw [Int.toNat_natCast] at hx hy
    have hax : cycArc l0 (rd l1 (k : Int)) = true := List.all_eq_true.1 hall _ (cycMem hlt)
    have hay : cycArc l0 (rd l1 (((k + l1.length - 1) % l1.length : Nat) : Int)) = true := List.all_eq_true.1 hall _ (cycMem hbm)
    have hF : cycFits l0 l1 k = cycFits l0 l1 k := rfl
    conv at hF => rhs; unfold cycFits
    rw [cycSeen_not] at hF
    generalize hxi : rd l1 (k : Int) = xi at hx hax hF
    generalize hbi : rd l1 (((k + l1.length - 1) % l1.length : Nat) : Int) = bi at hy hay hF
    obtain ⟨hx0, hx1⟩ := cycIn hax
    obtain ⟨hy0, hy1⟩ := cycIn hay
    obtain ⟨a0, eA0, hc0', hc1', hc2'⟩ := at_T33 hr0 xi hx0 hx1
    obtain ⟨a2, eA3, hd0, hd1, hd2⟩ := at_T33 hr0 bi hy0 hy1
    subst eA0
    obtain rfl := Option.some.inj eA3
    replace hc2' := (hnx.cell (World.block_lt_of_cell? w _ hc2')).trans hc2'
    replace hd1 := (hnx.cell (World.block_lt_of_cell? w _ hd1)).trans hd1
    have hbc : wr.cell? ⟨w.heap.size, 0, none⟩ = some (.slice (some a0) l0.length c0) := by
     simp [World.cell?, hbox]
    have hbnd : 0 ≤ ((k : Int) + (l1.length : Int) - 1) % (l1.length : Int) ∧ ((k : Int) + (l1.length : Int) - 1) % (l1.length : Int) < (l1.length : Int) := ⟨Int.emod_nonneg _ (by omega), Int.emod_lt_of_pos _ (by omega)⟩
    have hbr := cycBriefOf hB0 hx0 hx1
    generalize hxe : rd_T33 l0 xi = x at hc2' hF hbr
    generalize hye : rd_T33 l0 bi = y at hd1 hF
    have hkey := ordKey hbr
    have hlk : ∀ n, (Instr.lookup 57 (.map (some (w.heap.size + 1))) (.string x.f2) false).run Tryz.prog (wr.drewN n) = .ok (.bool (cycSeen l0 l1 k x.f2.data.toList)) (wr.drewN n) := fun n => by
     exact lookup_set _ _ 9 4 ordKeyed Tryz.underlying57 Tryz.underlying4 (cycZero _) _ _ _ (cycBelow hown (cycDrawn _ _)) _ hD _ hkey
    cases hs : (y.f1.toList == x.f2.toList) with
    | false =>
     go_wp2
     go_quiet (fail)
     go_wp2
     go_ret
     refine ⟨?_, by apply pw_below_drewN; exact hnx⟩
     rw [cycNo hlt (by rw [hF, hs, Bool.false_and]), Bool.and_false]
     rfl
    | true =>
     cases hv : cycSeen l0 l1 k x.f2.data.toList with
     | true =>
      rw [hv] at hlk
      go_wp2
      go_quiet (fail)
      go_wp2
      go_ret
      refine ⟨?_, by apply pw_below_drewN; exact hnx⟩
      rw [cycNo hlt (by rw [hF, hs, hv]; rfl), Bool.and_false]
      rfl
     | false =>
      rw [hv] at hlk
      have hkl := ordKeyed.key hkey
      go_wp2
      go_quiet (fail)
      go_wp2_with (first
       | (at_mapUpdate; refine wpList_mapUpdate_own _ rfl _ _ _ 57 rfl 9 4 ordKeyed Tryz.underlying57 _ (w.heap.size + 1) k _ rfl (cycBelow hown (cycDrawn _ _)) (by unfold maxLen; omega) _ _ _ rfl rfl hkey _ [] (plainElem_bool Tryz.underlying4 true) ?_; intro w1 hown1 hgrow1)
       | go_in)
      go_roundw
      case rel =>
       refine ⟨k + 1, by omega, by go_num, fun j hj => ?_, ⟨_, hown1, ?_⟩, ?_, ?_⟩
       ·
        by_cases hjk : j = k
        ·
         subst hjk
         rw [hF, hs, hv]
         rfl
        ·
         exact hno j (by omega)
       ·
        have h2 := hD.put _ hkl
        rw [cycSeen_succ, hxi, hxe]
        exact h2
       ·
        exact (hgrow1.block _ (Nat.lt_of_lt_of_le (World.block_lt_of_cell? wr ⟨w.heap.size, 0, none⟩ hbc) (by simp)) (by simp)).trans (by simpa using hbox)
       ·
        have hnx2 : Below w.heap.size w (wr.drewN nq) := by apply pw_below_drewN; exact hnx
        exact hnx2.grown hgrow1 hnx2.size (fun j hj => by cases hj; omega)
      case measure => simp [intOf]; omega
mutual
def klippelaw55_CheckerNever.j0 : Nat → List (S50) → List ByteArray → Bool → Option (Bool)
 | 0, _, _, _ => none
 | k + 1, x0, x1, x19 => if x19 = true then ((klippelaw55_knownT.f).bind fun b8 => (some b8)) else ((klippelaw21_Make.f k x0).bind fun a2 => ((checker_Order.f a2 x1).bind fun b9 => (if b9 = true then (klippelaw55_CheckerNever.l0 k a2 (a2.length : Int) 0) else (some true))))
def klippelaw55_CheckerNever.l0 : Nat → List (S33) → Int → Int → Option (Bool)
 | 0, _, _, _ => none
 | k + 1, x5, x6, x7 => if x7 < (wrap64 ((wrap64 (x6 * x6)) * x6)) then (if x6 = 0 then (none) else ((checker_Cycle.f x5 (([Int.tmod x7 x6] : List Int))).bind fun c8 => (if c8 = true then (some false) else ((checker_Cycle.f x5 (([Int.tmod x7 x6, Int.tmod (wrap64 (Int.tdiv x7 x6)) x6] : List Int))).bind fun b3 => (if b3 = true then (some false) else ((checker_Cycle.f x5 (([Int.tmod x7 x6, Int.tmod (wrap64 (Int.tdiv x7 x6)) x6, wrap64 (Int.tdiv (wrap64 (Int.tdiv x7 x6)) x6)] : List Int))).bind fun b0 => (if b0 = true then (some false) else (klippelaw55_CheckerNever.l0 k x5 x6 (wrap64 (x7 + 1)))))))))) else (some true)
end
def klippelaw55_CheckerNever.f (k : Nat) (l0 : List (S50)) (l1 : List ByteArray) : Option (Bool) := (klippelaw55_knownT.f).bind fun c9 => (if c9 = true then ((klippelaw21_Fits.f l0).bind fun b5 => (if b5 = true then (klippelaw55_CheckerNever.j0 k l0 l1 (decide ((l1.length : Int) > 8))) else (klippelaw55_CheckerNever.j0 k l0 l1 true))) else (klippelaw55_CheckerNever.j0 k l0 l1 true))
theorem klippelaw55_CheckerNever.mono_l : ∀ k, (∀ y0 y1 y2, LeO (klippelaw55_CheckerNever.j0 k y0 y1 y2) (klippelaw55_CheckerNever.j0 (k + 1) y0 y1 y2)) ∧ (∀ y0 y1 y2, LeO (klippelaw55_CheckerNever.l0 k y0 y1 y2) (klippelaw55_CheckerNever.l0 (k + 1) y0 y1 y2))
 | 0 => ⟨fun _ _ _ r h => by simp [klippelaw55_CheckerNever.j0] at h, fun _ _ _ r h => by simp [klippelaw55_CheckerNever.l0] at h⟩
 | k + 1 => by
  obtain ⟨ih0, ih1⟩ := klippelaw55_CheckerNever.mono_l k
  refine ⟨?_, ?_⟩
  ·
   intro y0 y1 y2
   unfold klippelaw55_CheckerNever.j0
   repeat' first | (with_reducible first | exact ih0 .. | exact ih1 .. | exact klippelaw21_Make.mono .. | exact LeO.refl _ | exact LeO.none _ | refine LeO.ite ?_ ?_ | refine LeO.bind ?_ (fun _ => ?_))
  ·
   intro y0 y1 y2
   unfold klippelaw55_CheckerNever.l0
   repeat' first | (with_reducible first | exact ih0 .. | exact ih1 .. | exact klippelaw21_Make.mono .. | exact LeO.refl _ | exact LeO.none _ | refine LeO.ite ?_ ?_ | refine LeO.bind ?_ (fun _ => ?_))
theorem klippelaw55_CheckerNever.mono : ∀ a0 a1 k, LeO (klippelaw55_CheckerNever.f k a0 a1) (klippelaw55_CheckerNever.f (k + 1) a0 a1) := by
 intro a0 a1 k
 obtain ⟨ih0, ih1⟩ := klippelaw55_CheckerNever.mono_l k
 unfold klippelaw55_CheckerNever.f
 repeat' first | (with_reducible first | exact ih0 .. | exact ih1 .. | exact klippelaw21_Make.mono .. | exact LeO.refl _ | exact LeO.none _ | refine LeO.ite ?_ ?_ | refine LeO.bind ?_ (fun _ => ?_))
def klippelaw55_CheckerNever.T10 : Bool × List (List Nat × List Nat) := (true, [([], []), ([], []), ([], []), ([1, 2], [1, 2]), ([3], [3]), ([0, 4], [0, 4]), ([5, 5], [5]), ([6], [6]), ([6], [6]), ([6], [6]), ([8, 9, 6], [6, 8, 9]), ([6], [6]), ([6], [6]), ([11, 12, 6], [6, 11, 12]), ([6], [6]), ([13, 14, 6], [6, 13, 14]), ([10, 15, 6], [6, 10, 15]), ([7, 16, 6, 6], [6, 7, 16]), ([6, 17], [6, 17]), ([18, 17], [18]), ([19], [19]), ([19], [19]), ([19], [19]), ([21, 22, 19], [19, 21, 22]), ([19], [19]), ([19], [19]), ([24, 25, 19], [19, 24, 25]), ([19], [19]), ([26, 27, 19], [19, 26, 27]), ([19], [19]), ([19], [19]), ([29, 30, 19], [19, 29, 30]), ([19], [19]), ([31, 32, 19], [19, 31, 32]), ([23, 28, 33, 19], [19, 23, 28, 33]), ([20, 34, 19, 19], [19, 20, 34]), ([19, 35], [19, 35])])
def klippelaw55_CheckerNever.B10 : List Nat := [0, 0, 0, 6, 14, 31, 63, 127, 127, 127, 895, 127, 127, 6271, 127, 30847, 65407, 131071, 262143, 524287, 1048575, 1048575, 1048575, 7340031, 1048575, 1048575, 51380223, 1048575, 252706815, 1048575, 1048575, 1611661311, 1048575, 8054112255, 17178820607, 34359738367, 68719476735]
theorem klippelaw55_CheckerNever.tab10 : rtab .any (opsOf Tryz.f3 10) = klippelaw55_CheckerNever.T10 := by kernel_rfl
theorem klippelaw55_CheckerNever.bits10 : waitsOk klippelaw55_CheckerNever.T10.2 klippelaw55_CheckerNever.B10 = true := by kernel_rfl
set_option maxHeartbeats 8000000 in
set_option maxRecDepth 100000 in
theorem klippelaw55_CheckerNever.calls (k : Nat) (A0 : Option Addr) (c0 : Nat) (l0 : List (S50)) (A1 : Option Addr) (c1 : Nat) (l1 : List ByteArray) (r : Bool) (w : World) (hG : GW w) (hr0 : Kd.C k50 w A0 l0.length l0) (hc0 : l0.length ≤ c0) (hr1 : Kd.C Kd.string w A1 l1.length l1) (hc1 : l1.length ≤ c1) (h : klippelaw55_CheckerNever.f k l0 l1 = some r) :
  Calls Tryz.prog 3 #[.slice A0 l0.length c0, .slice A1 l1.length c1] w fun e w' => e = .returned (.bool r) ∧ Below w.heap.size w w' := by
 have HR0 := mk0 hr0
 have f9 := mk0 hc0
 clear hr0 hc0
 have HR1 := mk0 hr1
 have k0 := mk0 hc1
 clear hr1 hc1
 have HB := mk0 (Below.refl w.heap.size w)
 have HG := mk0 hG
 clear hG
 have H : ((klippelaw55_knownT.f).bind fun c9 => (if c9 = true then ((klippelaw21_Fits.f l0).bind fun b5 => (if b5 = true then (klippelaw55_CheckerNever.j0 k l0 l1 (decide ((l1.length : Int) > 8))) else (klippelaw55_CheckerNever.j0 k l0 l1 true))) else (klippelaw55_CheckerNever.j0 k l0 l1 true))) = some r := h
 clear h
 have g3 := mk0 H
 clear H
 go_enter Tryz.func3, Tryz.ntmps3
 go_upto_region 1 with (fail)
 go_cut [19] (fun k5 wc => ∃ (kq : Nat) (b7 : Bool), k5 = .bool b7 ∧ Aside0 (klippelaw55_CheckerNever.j0 kq l0 l1 b7 = some r) ∧ Aside0 (kq ≤ k) ∧ Aside0 (Below w.heap.size w wc))
 case first =>
  have H := g3.out
  clear g3
  obtain ⟨c9, A4, H⟩ := bS H
  by_cases c5 : c9 = true
  ·
   subst c5
   have H1 : ((klippelaw21_Fits.f l0).bind fun b5 => (if b5 = true then (klippelaw55_CheckerNever.j0 k l0 l1 (decide ((l1.length : Int) > 8))) else (klippelaw55_CheckerNever.j0 k l0 l1 true))) = some r := by rw [if_pos rfl] at H; exact H
   clear H
   have H := H1
   clear H1
   obtain ⟨b5, A6, H⟩ := bS H
   by_cases c7 : b5 = true
   ·
    subst c7
    have H1 : (klippelaw55_CheckerNever.j0 k l0 l1 (decide ((l1.length : Int) > 8))) = some r := by rw [if_pos rfl] at H; exact H
    clear H
    have H := H1
    clear H1
    have H' := mk0 H
    clear H
    go_wp2_with (first | (refine gc 4 ?_; refine gl 8 Tryz.func4 #[] ?_; (with_reducible refine (klippelaw55_knownT.calls  true _ ?side1 A4.out).mono ?_); (case side1 => exact GW.below HG.out (aB)); rintro e w8 ⟨rfl, hb⟩; refine ⟨_, rfl, ?_⟩; replace HB := uW hb; (try clear hb); (try clear hb2); (try clear hk); (try clear hi)) | (go_at_call 5; (with_reducible refine (klippelaw21_Fits.calls _ _ l0 true _ ?side1 ?side2 A6.out).mono ?_); (case side1 => exact pC (Kd.C_below HR0.out HB.out)); (case side2 => exact f9.out); rintro e w' ⟨rfl, ⟨nd, rfl⟩⟩))
    go_meet
    case rel => exact ⟨_, (decide ((l1.length : Int) > 8)), (by first | rfl | simp [*]), H', ⟨by omega⟩, ⟨aB⟩⟩
   ·
    replace c7 := Bool.eq_false_iff.mpr c7
    subst c7
    have H1 : (klippelaw55_CheckerNever.j0 k l0 l1 true) = some r := by rw [if_neg (show ¬ (false = true) by decide)] at H; exact H
    clear H
    have H := H1
    clear H1
    have H' := mk0 H
    clear H
    go_wp2_with (first | (refine gc 4 ?_; refine gl 8 Tryz.func4 #[] ?_; (with_reducible refine (klippelaw55_knownT.calls  true _ ?side1 A4.out).mono ?_); (case side1 => exact GW.below HG.out (aB)); rintro e w9 ⟨rfl, hb⟩; refine ⟨_, rfl, ?_⟩; replace HB := uW hb; (try clear hb); (try clear hb2); (try clear hk); (try clear hi)) | (go_at_call 5; (with_reducible refine (klippelaw21_Fits.calls _ _ l0 false _ ?side1 ?side2 A6.out).mono ?_); (case side1 => exact pC (Kd.C_below HR0.out HB.out)); (case side2 => exact f9.out); rintro e w' ⟨rfl, ⟨nd, rfl⟩⟩))
    go_meet
    case rel => exact ⟨_, (true), (by first | rfl | simp [*]), H', ⟨by omega⟩, ⟨aB⟩⟩
  ·
   replace c5 := Bool.eq_false_iff.mpr c5
   subst c5
   have H1 : (klippelaw55_CheckerNever.j0 k l0 l1 true) = some r := by rw [if_neg (show ¬ (false = true) by decide)] at H; exact H
   clear H
   have H := H1
   clear H1
   have H' := mk0 H
   clear H
   go_wp2_with (first | (refine gc 4 ?_; refine gl 8 Tryz.func4 #[] ?_; (with_reducible refine (klippelaw55_knownT.calls  false _ ?side1 A4.out).mono ?_); (case side1 => exact GW.below HG.out (aB)); rintro e k6 ⟨rfl, hb⟩; refine ⟨_, rfl, ?_⟩; replace HB := uW hb; (try clear hb); (try clear hb2); (try clear hk); (try clear hi)))
   go_meet
   case rel => exact ⟨_, (true), (by first | rfl | simp [*]), H', ⟨by omega⟩, ⟨aB⟩⟩
 case rest =>
  clear g3
  try clear c1
  try clear p2
  try clear c3
  try clear c4
  try clear c5
  try clear c7
  obtain ⟨kq, b7, rfl, HA, HJ2, HB⟩ := hcut
  cases kq with
  | zero => exact absurd HA.out (by simp [klippelaw55_CheckerNever.j0])
  | succ kj2 =>
   have H := HA.out
   clear HA
   simp only [klippelaw55_CheckerNever.j0] at H
   by_cases e3 : b7 = true
   ·
    subst e3
    have H1 : ((klippelaw55_knownT.f).bind fun b8 => (some b8)) = some r := by rw [if_pos rfl] at H; exact H
    clear H
    have H := H1
    clear H1
    obtain ⟨b8, A12, H⟩ := bS H
    obtain rfl := Option.some.inj H
    go_wp2_with (first | (refine gc 4 ?_; refine gl 20 Tryz.func4 #[] ?_; (with_reducible refine (klippelaw55_knownT.calls  b8 _ ?side1 A12.out).mono ?_); (case side1 => exact GW.below HG.out (aB)); rintro e k7 ⟨rfl, hb⟩; refine ⟨_, rfl, ?_⟩; replace HB := uW hb; (try clear hb); (try clear hb2); (try clear hk); (try clear hi)))
    go_ret
    exact ⟨by first | rfl | (simp [*] <;> rfl), aB⟩
   ·
    replace e3 := Bool.eq_false_iff.mpr e3
    subst e3
    have H1 : ((klippelaw21_Make.f kj2 l0).bind fun a2 => ((checker_Order.f a2 l1).bind fun b9 => (if b9 = true then (klippelaw55_CheckerNever.l0 kj2 a2 (a2.length : Int) 0) else (some true)))) = some r := by rw [if_neg (show ¬ (false = true) by decide)] at H; exact H
    clear H
    have H := H1
    clear H1
    obtain ⟨a2, A14, H⟩ := bS H
    obtain ⟨b9, A15, H⟩ := bS H
    by_cases e4 : b9 = true
    ·
     subst e4
     have H1 : (klippelaw55_CheckerNever.l0 kj2 a2 (a2.length : Int) 0) = some r := by rw [if_pos rfl] at H; exact H
     clear H
     have H := H1
     clear H1
     have H' := mk0 H
     clear H
     go_wp2_with (first | (refine gc 6 ?_; refine gl 22 Tryz.func6 #[.slice A0 l0.length c0] ?_; (with_reducible refine (klippelaw21_Make.calls kj2 _ _ l0 a2 _ ?side1 ?side2 A14.out).mono ?_); (case side1 => exact pC (Kd.C_below HR0.out HB.out)); (case side2 => exact f9.out); rintro e k8 ⟨g4, rfl, e5, hb⟩; refine ⟨_, rfl, ?_⟩; have a8 := mR e5;replace HB := uW hb; (try clear hb); (try clear e5); obtain ⟨b1, b2, g5⟩ := Kd.R_slice a8.out; subst g5) | (refine gc 7 ?_; refine gl 25 Tryz.func7 #[.slice b1 a2.length b2, .slice A1 l1.length c1] ?_; (with_reducible refine (checker_Order.calls _ _ a2 _ _ l1 true _ ?side1 ?side2 ?side3 ?side4 A15.out).mono ?_); (case side1 => exact pC ((Kd.R_reads' a8.out).2.2)); (case side2 => exact (Kd.R_reads' a8.out).2.1); (case side3 => exact pC (Kd.C_below HR1.out HB.out)); (case side4 => exact k0.out); rintro e k9 ⟨rfl, hb⟩; refine ⟨_, rfl, ?_⟩; replace a8 := uR a8 hb;replace HB := uW hb; (try clear hb); (try clear hb2); (try clear hk); (try clear hi)))
     go_loopg [7] kj2 (fun kq v7 w' => ∃ (a3 : Int), v7 = .int .i64 a3 ∧ Aside0 (klippelaw55_CheckerNever.l0 kq a2 (a2.length : Int) a3 = some r) ∧ Aside0 (kq ≤ kj2) ∧ Aside0 (Kd.R k33 33 w' w.heap.size (fun _ => True) (.slice b1 a2.length b2) a2) ∧ Aside0 (Below w.heap.size w w'))
     case atStart => exact ⟨(0), (by first | rfl | simp [*]), H', ⟨Nat.le_refl _⟩, ⟨pR a8.out⟩, ⟨aB⟩⟩
     case round =>
      clear H'
      try clear c1
      try clear p2
      try clear c3
      try clear c4
      try clear c5
      try clear c6
      try clear c7
      try clear e3
      try clear e4
      try clear p2
      obtain ⟨a3, rfl, HA, HK2, a5, HB⟩ := hrel
      cases gk with
      | zero => exact absurd HA.out (by simp [klippelaw55_CheckerNever.l0])
      | succ k2 =>
       have H := HA.out
       clear HA
       simp only [klippelaw55_CheckerNever.l0] at H
       by_cases e2 : a3 < (wrap64 ((wrap64 ((a2.length : Int) * (a2.length : Int))) * (a2.length : Int)))
       ·
        rw [if_pos e2] at H
        have e6 : decide (a3 < (wrap64 ((wrap64 ((a2.length : Int) * (a2.length : Int))) * (a2.length : Int)))) = true := decide_eq_true e2
        clear e2
        by_cases e7 : (a2.length : Int) = 0
        ·
         rw [if_pos e7] at H
         exact absurd H (by simp)
        ·
         rw [if_neg e7] at H
         have k1 : ((a2.length : Int) == 0) = false := beq_eq_false_iff_ne.mpr e7
         have k3 : ((a2.length : Int) != 0) = true := bne_iff_ne.mpr e7
         have k4 : ¬ (a2 = []) := fun h_ => e7 (by rw [h_]; rfl)
         obtain ⟨b4, hy636⟩ : ∃ y_ : List Int, y_ = (([Int.tmod a3 (a2.length : Int)] : List Int)) := ⟨_, rfl⟩
         replace H : ((checker_Cycle.f a2 b4).bind fun c8 => (if c8 = true then (some false) else ((checker_Cycle.f a2 (([Int.tmod a3 (a2.length : Int), Int.tmod (wrap64 (Int.tdiv a3 (a2.length : Int))) (a2.length : Int)] : List Int))).bind fun b3 => (if b3 = true then (some false) else ((checker_Cycle.f a2 (([Int.tmod a3 (a2.length : Int), Int.tmod (wrap64 (Int.tdiv a3 (a2.length : Int))) (a2.length : Int), wrap64 (Int.tdiv (wrap64 (Int.tdiv a3 (a2.length : Int))) (a2.length : Int))] : List Int))).bind fun b0 => (if b0 = true then (some false) else (klippelaw55_CheckerNever.l0 k2 a2 (a2.length : Int) (wrap64 (a3 + 1))))))))) = some r := by first | (rw [hy636]; exact H) | (rw [hy636]; exact (Option.bind_some _ _).symm.trans H) | exact (Option.bind_some _ _).symm.trans H
         have Ny636 := mk0 hy636
         clear hy636
         obtain ⟨c8, A22, H⟩ := bS H
         by_cases g0 : c8 = true
         ·
          subst g0
          have H1 : (some false) = some r := by rw [if_pos rfl] at H; exact H
          clear H
          have H := H1
          clear H1
          obtain rfl := Option.some.inj H
          try go_wp2
          replace a5 := mk0 (Kd.R_drew a5.out)
          replace HB := mk0 (below_drew1 HB.out)
          refine start_ (n := 37) (S := fun w' => True) (ds := []) #[false, false, false, false, false, false, false, false, false, false, false, false, false, false, false, false, false, false, false, false, false, false, false, false, false, false, false, false, false, false, false, false, false, false, false, false, false] (by kernel_rfl) rfl rfl trivial (fun a7 => ?_); refine with_tabW klippelaw55_CheckerNever.tab10 klippelaw55_CheckerNever.bits10 (fun HT_ HW_ => ?_)
          generalize wr.drew = l2 at a5 HB a7 ⊢
          refine pu 0 38 HT_ ?_
          refine pu 1 39 HT_ ?_
          refine pu 2 40 HT_ ?_
          refine pu 3 41 HT_ ?_
          refine oN 4 42 HT_ (fun K hK => ?_)
          refine Kd.R_lit_step (Kd.int .i64) _ 3 ?hg (N := 42) ?hd (xs := ([Int.tmod a3 (a2.length : Int)] : List Int)) (inner := [.int .i64 (Int.tmod a3 (a2.length : Int))]) (ok := fun _ => True) (okp := fun _ => True) ?hr ?hp (fun _ hk => hk) trivial (Below.refl _ _) (Nat.le_refl _) (by simp) ?_; (case hd => rfl); (case hg => rfl); (case hr => exact aH); (case hp => exact (Reps.one (show Kd.M (Kd.int .i64) _ _ _ (Int.tmod a3 (a2.length : Int)) [.int .i64 (Int.tmod a3 (a2.length : Int))] from rfl) (Reps.none _ _)))
          intro d6 l3 d7 hb hg_ hnew_
          clear hg_ hnew_
          rw [← Ny636.out] at d7
          replace a5 := uR a5 hb
          have a4 := mR d7
          replace HB := uW hb
          clear hb d7
          obtain ⟨g6, g7, e8⟩ := Kd.R_slice a4.out
          (first | subst e8 | (injection e8 with f1_ f2_ f3_; have f4_ := f1_.symm; have f5_ := f3_.symm; clear f1_ f2_ f3_; subst f4_; subst f5_))
          refine hK.out _ _ trivial (fun a7 => ?_)
          clear hK K
          refine norm_ (a' := ?_) ?_ ?_
          rotate_left
          ·
           show Act.put _ (some 42) _ = _
           exact aP
          refine oN 5 43 HT_ (fun K hK => ?_)
          refine gz Tryz.func8 #[.slice b1 a2.length b2, .slice g6 b4.length g7] ?_
          with_reducible refine (checker_Cycle.calls _ _ a2 _ _ b4 true _ ?side1 ?side2 ?side3 ?side4 A22.out).mono ?_
          (case side1 => exact pC ((Kd.R_reads' a5.out).2.2))
          (case side2 => exact (Kd.R_reads' a5.out).2.1)
          (case side3 => exact pC ((Kd.R_reads' a4.out).2.2))
          (case side4 => exact (Kd.R_reads' a4.out).2.1)
          rintro e l4 ⟨rfl, hb⟩
          refine ⟨_, rfl, ?_⟩
          replace a5 := uR a5 hb
          replace a4 := uR a4 hb
          replace HB := uW hb
          (try clear hb)
          (try clear hb2)
          (try clear hk)
          (try clear hi)
          refine hK.out _ _ trivial (fun a7 => ?_)
          clear hK K
          refine norm_ (a' := ?_) ?_ ?_
          rotate_left
          ·
           show Act.put _ (some 43) _ = _
           exact aP
          refine pu 6 44 HT_ ?_
          refine pure_ (i := 7) (N := some 45) (v := undef) (a' := ?_) #[true, true, true, true, true, true, true, true, false, false, false, false, false, false, false, false, false, false, false, false, false, false, false, false, false, false, false, false, false, false, false, false, false, false, false, false, false] rfl rfl (any_of HT_.out (by kernel_rfl)) (fun _ _ _ h => h) (Or.inr ⟨by rfl, rfl⟩) ?_ ?_
          rotate_left
          ·
           exact aP
          refine pure_ (i := 8) (N := some 46) (v := undef) (a' := ?_) #[true, true, true, true, true, true, true, true, true, false, false, false, false, false, false, false, false, false, false, false, false, false, false, false, false, false, false, false, false, false, false, false, false, false, false, false, false] rfl rfl (any_of HT_.out (by kernel_rfl)) (fun _ _ _ h => h) (Or.inr ⟨by rfl, rfl⟩) ?_ ?_
          rotate_left
          ·
           exact aP
          refine pure_ (i := 9) (N := some 47) (v := undef) (a' := ?_) #[true, true, true, true, true, true, true, true, true, true, false, false, false, false, false, false, false, false, false, false, false, false, false, false, false, false, false, false, false, false, false, false, false, false, false, false, false] rfl rfl (any_of HT_.out (by kernel_rfl)) (fun _ _ _ h => h) (Or.inr ⟨by rfl, rfl⟩) ?_ ?_
          rotate_left
          ·
           exact aP
          refine pure_ (i := 10) (N := some 48) (v := undef) (a' := ?_) #[true, true, true, true, true, true, true, true, true, true, true, false, false, false, false, false, false, false, false, false, false, false, false, false, false, false, false, false, false, false, false, false, false, false, false, false, false] rfl rfl (any_of HT_.out (by kernel_rfl)) (fun _ _ _ h => h) (Or.inr ⟨by rfl, rfl⟩) ?_ ?_
          rotate_left
          ·
           exact aP
          refine pure_ (i := 11) (N := some 49) (v := undef) (a' := ?_) #[true, true, true, true, true, true, true, true, true, true, true, true, false, false, false, false, false, false, false, false, false, false, false, false, false, false, false, false, false, false, false, false, false, false, false, false, false] rfl rfl (any_of HT_.out (by kernel_rfl)) (fun _ _ _ h => h) (Or.inr ⟨by rfl, rfl⟩) ?_ ?_
          rotate_left
          ·
           exact aP
          refine pure_ (i := 12) (N := some 50) (v := undef) (a' := ?_) #[true, true, true, true, true, true, true, true, true, true, true, true, true, false, false, false, false, false, false, false, false, false, false, false, false, false, false, false, false, false, false, false, false, false, false, false, false] rfl rfl (any_of HT_.out (by kernel_rfl)) (fun _ _ _ h => h) (Or.inr ⟨by rfl, rfl⟩) ?_ ?_
          rotate_left
          ·
           exact aP
          refine pure_ (i := 13) (N := some 51) (v := undef) (a' := ?_) #[true, true, true, true, true, true, true, true, true, true, true, true, true, true, false, false, false, false, false, false, false, false, false, false, false, false, false, false, false, false, false, false, false, false, false, false, false] rfl rfl (any_of HT_.out (by kernel_rfl)) (fun _ _ _ h => h) (Or.inr ⟨by rfl, rfl⟩) ?_ ?_
          rotate_left
          ·
           exact aP
          refine pure_ (i := 14) (N := some 52) (v := undef) (a' := ?_) #[true, true, true, true, true, true, true, true, true, true, true, true, true, true, true, false, false, false, false, false, false, false, false, false, false, false, false, false, false, false, false, false, false, false, false, false, false] rfl rfl (any_of HT_.out (by kernel_rfl)) (fun _ _ _ h => h) (Or.inr ⟨by rfl, rfl⟩) ?_ ?_
          rotate_left
          ·
           exact aP
          refine pure_ (i := 15) (N := some 53) (v := undef) (a' := ?_) #[true, true, true, true, true, true, true, true, true, true, true, true, true, true, true, true, false, false, false, false, false, false, false, false, false, false, false, false, false, false, false, false, false, false, false, false, false] rfl rfl (any_of HT_.out (by kernel_rfl)) (fun _ _ _ h => h) (Or.inr ⟨by rfl, rfl⟩) ?_ ?_
          rotate_left
          ·
           exact aP
          refine pure_ (i := 16) (N := some 54) (v := undef) (a' := ?_) #[true, true, true, true, true, true, true, true, true, true, true, true, true, true, true, true, true, false, false, false, false, false, false, false, false, false, false, false, false, false, false, false, false, false, false, false, false] rfl rfl (any_of HT_.out (by kernel_rfl)) (fun _ _ _ h => h) (Or.inr ⟨by rfl, rfl⟩) ?_ ?_
          rotate_left
          ·
           exact aP
          refine pure_ (i := 17) (N := some 55) (v := undef) (a' := ?_) #[true, true, true, true, true, true, true, true, true, true, true, true, true, true, true, true, true, true, false, false, false, false, false, false, false, false, false, false, false, false, false, false, false, false, false, false, false] rfl rfl (any_of HT_.out (by kernel_rfl)) (fun _ _ _ h => h) (Or.inr ⟨by rfl, rfl⟩) ?_ ?_
          rotate_left
          ·
           exact aP
          refine pu 18 56 HT_ ?_
          refine pu 19 57 HT_ ?_
          refine pure_ (i := 20) (N := some 58) (v := undef) (a' := ?_) #[true, true, true, true, true, true, true, true, true, true, true, true, true, true, true, true, true, true, true, true, true, false, false, false, false, false, false, false, false, false, false, false, false, false, false, false, false] rfl rfl (any_of HT_.out (by kernel_rfl)) (fun _ _ _ h => h) (Or.inr ⟨by rfl, rfl⟩) ?_ ?_
          rotate_left
          ·
           exact aP
          refine pure_ (i := 21) (N := some 59) (v := undef) (a' := ?_) #[true, true, true, true, true, true, true, true, true, true, true, true, true, true, true, true, true, true, true, true, true, true, false, false, false, false, false, false, false, false, false, false, false, false, false, false, false] rfl rfl (any_of HT_.out (by kernel_rfl)) (fun _ _ _ h => h) (Or.inr ⟨by rfl, rfl⟩) ?_ ?_
          rotate_left
          ·
           exact aP
          refine pure_ (i := 22) (N := some 60) (v := undef) (a' := ?_) #[true, true, true, true, true, true, true, true, true, true, true, true, true, true, true, true, true, true, true, true, true, true, true, false, false, false, false, false, false, false, false, false, false, false, false, false, false] rfl rfl (any_of HT_.out (by kernel_rfl)) (fun _ _ _ h => h) (Or.inr ⟨by rfl, rfl⟩) ?_ ?_
          rotate_left
          ·
           exact aP
          refine pure_ (i := 23) (N := some 61) (v := undef) (a' := ?_) #[true, true, true, true, true, true, true, true, true, true, true, true, true, true, true, true, true, true, true, true, true, true, true, true, false, false, false, false, false, false, false, false, false, false, false, false, false] rfl rfl (any_of HT_.out (by kernel_rfl)) (fun _ _ _ h => h) (Or.inr ⟨by rfl, rfl⟩) ?_ ?_
          rotate_left
          ·
           exact aP
          refine pure_ (i := 24) (N := some 62) (v := undef) (a' := ?_) #[true, true, true, true, true, true, true, true, true, true, true, true, true, true, true, true, true, true, true, true, true, true, true, true, true, false, false, false, false, false, false, false, false, false, false, false, false] rfl rfl (any_of HT_.out (by kernel_rfl)) (fun _ _ _ h => h) (Or.inr ⟨by rfl, rfl⟩) ?_ ?_
          rotate_left
          ·
           exact aP
          refine pure_ (i := 25) (N := some 63) (v := undef) (a' := ?_) #[true, true, true, true, true, true, true, true, true, true, true, true, true, true, true, true, true, true, true, true, true, true, true, true, true, true, false, false, false, false, false, false, false, false, false, false, false] rfl rfl (any_of HT_.out (by kernel_rfl)) (fun _ _ _ h => h) (Or.inr ⟨by rfl, rfl⟩) ?_ ?_
          rotate_left
          ·
           exact aP
          refine pure_ (i := 26) (N := some 64) (v := undef) (a' := ?_) #[true, true, true, true, true, true, true, true, true, true, true, true, true, true, true, true, true, true, true, true, true, true, true, true, true, true, true, false, false, false, false, false, false, false, false, false, false] rfl rfl (any_of HT_.out (by kernel_rfl)) (fun _ _ _ h => h) (Or.inr ⟨by rfl, rfl⟩) ?_ ?_
          rotate_left
          ·
           exact aP
          refine pure_ (i := 27) (N := some 65) (v := undef) (a' := ?_) #[true, true, true, true, true, true, true, true, true, true, true, true, true, true, true, true, true, true, true, true, true, true, true, true, true, true, true, true, false, false, false, false, false, false, false, false, false] rfl rfl (any_of HT_.out (by kernel_rfl)) (fun _ _ _ h => h) (Or.inr ⟨by rfl, rfl⟩) ?_ ?_
          rotate_left
          ·
           exact aP
          refine pure_ (i := 28) (N := some 66) (v := undef) (a' := ?_) #[true, true, true, true, true, true, true, true, true, true, true, true, true, true, true, true, true, true, true, true, true, true, true, true, true, true, true, true, true, false, false, false, false, false, false, false, false] rfl rfl (any_of HT_.out (by kernel_rfl)) (fun _ _ _ h => h) (Or.inr ⟨by rfl, rfl⟩) ?_ ?_
          rotate_left
          ·
           exact aP
          refine pure_ (i := 29) (N := some 67) (v := undef) (a' := ?_) #[true, true, true, true, true, true, true, true, true, true, true, true, true, true, true, true, true, true, true, true, true, true, true, true, true, true, true, true, true, true, false, false, false, false, false, false, false] rfl rfl (any_of HT_.out (by kernel_rfl)) (fun _ _ _ h => h) (Or.inr ⟨by rfl, rfl⟩) ?_ ?_
          rotate_left
          ·
           exact aP
          refine pure_ (i := 30) (N := some 68) (v := undef) (a' := ?_) #[true, true, true, true, true, true, true, true, true, true, true, true, true, true, true, true, true, true, true, true, true, true, true, true, true, true, true, true, true, true, true, false, false, false, false, false, false] rfl rfl (any_of HT_.out (by kernel_rfl)) (fun _ _ _ h => h) (Or.inr ⟨by rfl, rfl⟩) ?_ ?_
          rotate_left
          ·
           exact aP
          refine pure_ (i := 31) (N := some 69) (v := undef) (a' := ?_) #[true, true, true, true, true, true, true, true, true, true, true, true, true, true, true, true, true, true, true, true, true, true, true, true, true, true, true, true, true, true, true, true, false, false, false, false, false] rfl rfl (any_of HT_.out (by kernel_rfl)) (fun _ _ _ h => h) (Or.inr ⟨by rfl, rfl⟩) ?_ ?_
          rotate_left
          ·
           exact aP
          refine pure_ (i := 32) (N := some 70) (v := undef) (a' := ?_) #[true, true, true, true, true, true, true, true, true, true, true, true, true, true, true, true, true, true, true, true, true, true, true, true, true, true, true, true, true, true, true, true, true, false, false, false, false] rfl rfl (any_of HT_.out (by kernel_rfl)) (fun _ _ _ h => h) (Or.inr ⟨by rfl, rfl⟩) ?_ ?_
          rotate_left
          ·
           exact aP
          refine pure_ (i := 33) (N := some 71) (v := undef) (a' := ?_) #[true, true, true, true, true, true, true, true, true, true, true, true, true, true, true, true, true, true, true, true, true, true, true, true, true, true, true, true, true, true, true, true, true, true, false, false, false] rfl rfl (any_of HT_.out (by kernel_rfl)) (fun _ _ _ h => h) (Or.inr ⟨by rfl, rfl⟩) ?_ ?_
          rotate_left
          ·
           exact aP
          refine pure_ (i := 34) (N := some 72) (v := undef) (a' := ?_) #[true, true, true, true, true, true, true, true, true, true, true, true, true, true, true, true, true, true, true, true, true, true, true, true, true, true, true, true, true, true, true, true, true, true, true, false, false] rfl rfl (any_of HT_.out (by kernel_rfl)) (fun _ _ _ h => h) (Or.inr ⟨by rfl, rfl⟩) ?_ ?_
          rotate_left
          ·
           exact aP
          refine pure_ (i := 35) (N := some 73) (v := undef) (a' := ?_) #[true, true, true, true, true, true, true, true, true, true, true, true, true, true, true, true, true, true, true, true, true, true, true, true, true, true, true, true, true, true, true, true, true, true, true, true, false] rfl rfl (any_of HT_.out (by kernel_rfl)) (fun _ _ _ h => h) (Or.inr ⟨by rfl, rfl⟩) ?_ ?_
          rotate_left
          ·
           exact aP
          refine pu 36 74 HT_ ?_
          refine done_ (done_of HT_.out (by kernel_rfl)) ?_
          try go_wp2
          go_ret
          exact ⟨by first | rfl | (simp [*] <;> rfl), aB⟩
         ·
          replace g0 := Bool.eq_false_iff.mpr g0
          subst g0
          have H1 : ((checker_Cycle.f a2 (([Int.tmod a3 (a2.length : Int), Int.tmod (wrap64 (Int.tdiv a3 (a2.length : Int))) (a2.length : Int)] : List Int))).bind fun b3 => (if b3 = true then (some false) else ((checker_Cycle.f a2 (([Int.tmod a3 (a2.length : Int), Int.tmod (wrap64 (Int.tdiv a3 (a2.length : Int))) (a2.length : Int), wrap64 (Int.tdiv (wrap64 (Int.tdiv a3 (a2.length : Int))) (a2.length : Int))] : List Int))).bind fun b0 => (if b0 = true then (some false) else (klippelaw55_CheckerNever.l0 k2 a2 (a2.length : Int) (wrap64 (a3 + 1))))))) = some r := by rw [if_neg (show ¬ (false = true) by decide)] at H; exact H
          clear H
          have H := H1
          clear H1
          obtain ⟨b6, hy640⟩ : ∃ y_ : List Int, y_ = (([Int.tmod a3 (a2.length : Int), Int.tmod (wrap64 (Int.tdiv a3 (a2.length : Int))) (a2.length : Int)] : List Int)) := ⟨_, rfl⟩
          replace H : ((checker_Cycle.f a2 b6).bind fun b3 => (if b3 = true then (some false) else ((checker_Cycle.f a2 (([Int.tmod a3 (a2.length : Int), Int.tmod (wrap64 (Int.tdiv a3 (a2.length : Int))) (a2.length : Int), wrap64 (Int.tdiv (wrap64 (Int.tdiv a3 (a2.length : Int))) (a2.length : Int))] : List Int))).bind fun b0 => (if b0 = true then (some false) else (klippelaw55_CheckerNever.l0 k2 a2 (a2.length : Int) (wrap64 (a3 + 1))))))) = some r := by first | (rw [hy640]; exact H) | (rw [hy640]; exact (Option.bind_some _ _).symm.trans H) | exact (Option.bind_some _ _).symm.trans H
          have Ny640 := mk0 hy640
          clear hy640
          obtain ⟨b3, A29, H⟩ := bS H
          by_cases g1 : b3 = true
          ·
           subst g1
           have H1 : (some false) = some r := by rw [if_pos rfl] at H; exact H
           clear H
           have H := H1
           clear H1
           obtain rfl := Option.some.inj H
           try go_wp2
           replace a5 := mk0 (Kd.R_drew a5.out)
           replace HB := mk0 (below_drew1 HB.out)
           refine start_ (n := 37) (S := fun w' => True) (ds := []) #[false, false, false, false, false, false, false, false, false, false, false, false, false, false, false, false, false, false, false, false, false, false, false, false, false, false, false, false, false, false, false, false, false, false, false, false, false] (by kernel_rfl) rfl rfl trivial (fun a7 => ?_); refine with_tabW klippelaw55_CheckerNever.tab10 klippelaw55_CheckerNever.bits10 (fun HT_ HW_ => ?_)
           generalize wr.drew = l5 at a5 HB a7 ⊢
           refine pu 0 38 HT_ ?_
           refine pu 1 39 HT_ ?_
           refine pu 2 40 HT_ ?_
           refine pu 3 41 HT_ ?_
           refine oN 4 42 HT_ (fun K hK => ?_)
           refine Kd.R_lit_step (Kd.int .i64) _ 3 ?hg (N := 42) ?hd (xs := ([Int.tmod a3 (a2.length : Int)] : List Int)) (inner := [.int .i64 (Int.tmod a3 (a2.length : Int))]) (ok := fun _ => True) (okp := fun _ => True) ?hr ?hp (fun _ hk => hk) trivial (Below.refl _ _) (Nat.le_refl _) (by simp) ?_; (case hd => rfl); (case hg => rfl); (case hr => exact aH); (case hp => exact (Reps.one (show Kd.M (Kd.int .i64) _ _ _ (Int.tmod a3 (a2.length : Int)) [.int .i64 (Int.tmod a3 (a2.length : Int))] from rfl) (Reps.none _ _)))
           intro d6 l6 d8 hb hg_ hnew_
           clear hg_ hnew_
           rw [← Ny636.out] at d8
           replace a5 := uR a5 hb
           have a4 := mR d8
           replace HB := uW hb
           clear hb d8
           obtain ⟨g8, g9, e9⟩ := Kd.R_slice a4.out
           (first | subst e9 | (injection e9 with f1_ f2_ f3_; have f4_ := f1_.symm; have f5_ := f3_.symm; clear f1_ f2_ f3_; subst f4_; subst f5_))
           refine hK.out _ _ trivial (fun a7 => ?_)
           clear hK K
           refine norm_ (a' := ?_) ?_ ?_
           rotate_left
           ·
            show Act.put _ (some 42) _ = _
            exact aP
           refine oN 5 43 HT_ (fun K hK => ?_)
           refine gz Tryz.func8 #[.slice b1 a2.length b2, .slice g8 b4.length g9] ?_
           with_reducible refine (checker_Cycle.calls _ _ a2 _ _ b4 false _ ?side1 ?side2 ?side3 ?side4 A22.out).mono ?_
           (case side1 => exact pC ((Kd.R_reads' a5.out).2.2))
           (case side2 => exact (Kd.R_reads' a5.out).2.1)
           (case side3 => exact pC ((Kd.R_reads' a4.out).2.2))
           (case side4 => exact (Kd.R_reads' a4.out).2.1)
           rintro e l7 ⟨rfl, hb⟩
           refine ⟨_, rfl, ?_⟩
           replace a5 := uR a5 hb
           replace a4 := uR a4 hb
           replace HB := uW hb
           (try clear hb)
           (try clear hb2)
           (try clear hk)
           (try clear hi)
           refine hK.out _ _ trivial (fun a7 => ?_)
           clear hK K
           refine norm_ (a' := ?_) ?_ ?_
           rotate_left
           ·
            show Act.put _ (some 43) _ = _
            exact aP
           refine pu 6 44 HT_ ?_
           refine pu 7 45 HT_ ?_
           refine pu 8 46 HT_ ?_
           refine pu 9 47 HT_ ?_
           refine pu 10 48 HT_ ?_
           refine pu 11 49 HT_ ?_
           refine pu 12 50 HT_ ?_
           refine pu 13 51 HT_ ?_
           refine pu 14 52 HT_ ?_
           refine pu 15 53 HT_ ?_
           refine oN 16 54 HT_ (fun K hK => ?_)
           refine Kd.R_lit_step (Kd.int .i64) _ 3 ?hg (N := 54) ?hd (xs := ([Int.tmod a3 (a2.length : Int), Int.tmod (wrap64 (Int.tdiv a3 (a2.length : Int))) (a2.length : Int)] : List Int)) (inner := [.int .i64 (Int.tmod a3 (a2.length : Int)), .int .i64 (Int.tmod (wrap64 (Int.tdiv a3 (a2.length : Int))) (a2.length : Int))]) (ok := fun _ => True) (okp := fun _ => True) ?hr ?hp (fun _ hk => hk) trivial (Below.refl _ _) (Nat.le_refl _) (by simp) ?_; (case hd => rfl); (case hg => rfl); (case hr => exact aH); (case hp => exact (Reps.one (show Kd.M (Kd.int .i64) _ _ _ (Int.tmod a3 (a2.length : Int)) [.int .i64 (Int.tmod a3 (a2.length : Int))] from rfl) (Reps.one (show Kd.M (Kd.int .i64) _ _ _ (Int.tmod (wrap64 (Int.tdiv a3 (a2.length : Int))) (a2.length : Int)) [.int .i64 (Int.tmod (wrap64 (Int.tdiv a3 (a2.length : Int))) (a2.length : Int))] from rfl) (Reps.none _ _))))
           intro f0 l8 d3 hb hg_ hnew_
           clear hg_ hnew_
           rw [← Ny640.out] at d3
           replace a5 := uR a5 hb
           have a6 := mk0 (Kd.R_lower (Kd.R_new' d3 (Kd.R_lt (pR a4.out))) (below_size (aB)))
           replace a4 := dR a4 (Kd.R_base d3) hb
           replace HB := uW hb
           clear hb d3
           obtain ⟨i1, i2, f1⟩ := Kd.R_slice a6.out
           (first | subst f1 | (injection f1 with f1_ f2_ f3_; have f4_ := f1_.symm; have f5_ := f3_.symm; clear f1_ f2_ f3_; subst f4_; subst f5_))
           refine hK.out _ _ trivial (fun a7 => ?_)
           clear hK K
           refine norm_ (a' := ?_) ?_ ?_
           rotate_left
           ·
            show Act.put _ (some 54) _ = _
            exact aP
           refine oN 17 55 HT_ (fun K hK => ?_)
           refine gz Tryz.func8 #[.slice b1 a2.length b2, .slice i1 b6.length i2] ?_
           with_reducible refine (checker_Cycle.calls _ _ a2 _ _ b6 true _ ?side1 ?side2 ?side3 ?side4 A29.out).mono ?_
           (case side1 => exact pC ((Kd.R_reads' a5.out).2.2))
           (case side2 => exact (Kd.R_reads' a5.out).2.1)
           (case side3 => exact pC ((Kd.R_reads' a6.out).2.2))
           (case side4 => exact (Kd.R_reads' a6.out).2.1)
           rintro e l9 ⟨rfl, hb⟩
           refine ⟨_, rfl, ?_⟩
           replace a5 := uR a5 hb
           replace a4 := uR a4 hb
           replace a6 := uR a6 hb
           replace HB := uW hb
           (try clear hb)
           (try clear hb2)
           (try clear hk)
           (try clear hi)
           refine hK.out _ _ trivial (fun a7 => ?_)
           clear hK K
           refine norm_ (a' := ?_) ?_ ?_
           rotate_left
           ·
            show Act.put _ (some 55) _ = _
            exact aP
           refine pu 18 56 HT_ ?_
           refine pu 19 57 HT_ ?_
           refine pure_ (i := 20) (N := some 58) (v := undef) (a' := ?_) #[true, true, true, true, true, true, true, true, true, true, true, true, true, true, true, true, true, true, true, true, true, false, false, false, false, false, false, false, false, false, false, false, false, false, false, false, false] rfl rfl (any_of HT_.out (by kernel_rfl)) (fun _ _ _ h => h) (Or.inr ⟨by rfl, rfl⟩) ?_ ?_
           rotate_left
           ·
            exact aP
           refine pure_ (i := 21) (N := some 59) (v := undef) (a' := ?_) #[true, true, true, true, true, true, true, true, true, true, true, true, true, true, true, true, true, true, true, true, true, true, false, false, false, false, false, false, false, false, false, false, false, false, false, false, false] rfl rfl (any_of HT_.out (by kernel_rfl)) (fun _ _ _ h => h) (Or.inr ⟨by rfl, rfl⟩) ?_ ?_
           rotate_left
           ·
            exact aP
           refine pure_ (i := 22) (N := some 60) (v := undef) (a' := ?_) #[true, true, true, true, true, true, true, true, true, true, true, true, true, true, true, true, true, true, true, true, true, true, true, false, false, false, false, false, false, false, false, false, false, false, false, false, false] rfl rfl (any_of HT_.out (by kernel_rfl)) (fun _ _ _ h => h) (Or.inr ⟨by rfl, rfl⟩) ?_ ?_
           rotate_left
           ·
            exact aP
           refine pure_ (i := 23) (N := some 61) (v := undef) (a' := ?_) #[true, true, true, true, true, true, true, true, true, true, true, true, true, true, true, true, true, true, true, true, true, true, true, true, false, false, false, false, false, false, false, false, false, false, false, false, false] rfl rfl (any_of HT_.out (by kernel_rfl)) (fun _ _ _ h => h) (Or.inr ⟨by rfl, rfl⟩) ?_ ?_
           rotate_left
           ·
            exact aP
           refine pure_ (i := 24) (N := some 62) (v := undef) (a' := ?_) #[true, true, true, true, true, true, true, true, true, true, true, true, true, true, true, true, true, true, true, true, true, true, true, true, true, false, false, false, false, false, false, false, false, false, false, false, false] rfl rfl (any_of HT_.out (by kernel_rfl)) (fun _ _ _ h => h) (Or.inr ⟨by rfl, rfl⟩) ?_ ?_
           rotate_left
           ·
            exact aP
           refine pure_ (i := 25) (N := some 63) (v := undef) (a' := ?_) #[true, true, true, true, true, true, true, true, true, true, true, true, true, true, true, true, true, true, true, true, true, true, true, true, true, true, false, false, false, false, false, false, false, false, false, false, false] rfl rfl (any_of HT_.out (by kernel_rfl)) (fun _ _ _ h => h) (Or.inr ⟨by rfl, rfl⟩) ?_ ?_
           rotate_left
           ·
            exact aP
           refine pure_ (i := 26) (N := some 64) (v := undef) (a' := ?_) #[true, true, true, true, true, true, true, true, true, true, true, true, true, true, true, true, true, true, true, true, true, true, true, true, true, true, true, false, false, false, false, false, false, false, false, false, false] rfl rfl (any_of HT_.out (by kernel_rfl)) (fun _ _ _ h => h) (Or.inr ⟨by rfl, rfl⟩) ?_ ?_
           rotate_left
           ·
            exact aP
           refine pure_ (i := 27) (N := some 65) (v := undef) (a' := ?_) #[true, true, true, true, true, true, true, true, true, true, true, true, true, true, true, true, true, true, true, true, true, true, true, true, true, true, true, true, false, false, false, false, false, false, false, false, false] rfl rfl (any_of HT_.out (by kernel_rfl)) (fun _ _ _ h => h) (Or.inr ⟨by rfl, rfl⟩) ?_ ?_
           rotate_left
           ·
            exact aP
           refine pure_ (i := 28) (N := some 66) (v := undef) (a' := ?_) #[true, true, true, true, true, true, true, true, true, true, true, true, true, true, true, true, true, true, true, true, true, true, true, true, true, true, true, true, true, false, false, false, false, false, false, false, false] rfl rfl (any_of HT_.out (by kernel_rfl)) (fun _ _ _ h => h) (Or.inr ⟨by rfl, rfl⟩) ?_ ?_
           rotate_left
           ·
            exact aP
           refine pure_ (i := 29) (N := some 67) (v := undef) (a' := ?_) #[true, true, true, true, true, true, true, true, true, true, true, true, true, true, true, true, true, true, true, true, true, true, true, true, true, true, true, true, true, true, false, false, false, false, false, false, false] rfl rfl (any_of HT_.out (by kernel_rfl)) (fun _ _ _ h => h) (Or.inr ⟨by rfl, rfl⟩) ?_ ?_
           rotate_left
           ·
            exact aP
           refine pure_ (i := 30) (N := some 68) (v := undef) (a' := ?_) #[true, true, true, true, true, true, true, true, true, true, true, true, true, true, true, true, true, true, true, true, true, true, true, true, true, true, true, true, true, true, true, false, false, false, false, false, false] rfl rfl (any_of HT_.out (by kernel_rfl)) (fun _ _ _ h => h) (Or.inr ⟨by rfl, rfl⟩) ?_ ?_
           rotate_left
           ·
            exact aP
           refine pure_ (i := 31) (N := some 69) (v := undef) (a' := ?_) #[true, true, true, true, true, true, true, true, true, true, true, true, true, true, true, true, true, true, true, true, true, true, true, true, true, true, true, true, true, true, true, true, false, false, false, false, false] rfl rfl (any_of HT_.out (by kernel_rfl)) (fun _ _ _ h => h) (Or.inr ⟨by rfl, rfl⟩) ?_ ?_
           rotate_left
           ·
            exact aP
           refine pure_ (i := 32) (N := some 70) (v := undef) (a' := ?_) #[true, true, true, true, true, true, true, true, true, true, true, true, true, true, true, true, true, true, true, true, true, true, true, true, true, true, true, true, true, true, true, true, true, false, false, false, false] rfl rfl (any_of HT_.out (by kernel_rfl)) (fun _ _ _ h => h) (Or.inr ⟨by rfl, rfl⟩) ?_ ?_
           rotate_left
           ·
            exact aP
           refine pure_ (i := 33) (N := some 71) (v := undef) (a' := ?_) #[true, true, true, true, true, true, true, true, true, true, true, true, true, true, true, true, true, true, true, true, true, true, true, true, true, true, true, true, true, true, true, true, true, true, false, false, false] rfl rfl (any_of HT_.out (by kernel_rfl)) (fun _ _ _ h => h) (Or.inr ⟨by rfl, rfl⟩) ?_ ?_
           rotate_left
           ·
            exact aP
           refine pure_ (i := 34) (N := some 72) (v := undef) (a' := ?_) #[true, true, true, true, true, true, true, true, true, true, true, true, true, true, true, true, true, true, true, true, true, true, true, true, true, true, true, true, true, true, true, true, true, true, true, false, false] rfl rfl (any_of HT_.out (by kernel_rfl)) (fun _ _ _ h => h) (Or.inr ⟨by rfl, rfl⟩) ?_ ?_
           rotate_left
           ·
            exact aP
           refine pure_ (i := 35) (N := some 73) (v := undef) (a' := ?_) #[true, true, true, true, true, true, true, true, true, true, true, true, true, true, true, true, true, true, true, true, true, true, true, true, true, true, true, true, true, true, true, true, true, true, true, true, false] rfl rfl (any_of HT_.out (by kernel_rfl)) (fun _ _ _ h => h) (Or.inr ⟨by rfl, rfl⟩) ?_ ?_
           rotate_left
           ·
            exact aP
           refine pu 36 74 HT_ ?_
           refine done_ (done_of HT_.out (by kernel_rfl)) ?_
           try go_wp2
           go_ret
           exact ⟨by first | rfl | (simp [*] <;> rfl), aB⟩
          ·
           replace g1 := Bool.eq_false_iff.mpr g1
           subst g1
           have H1 : ((checker_Cycle.f a2 (([Int.tmod a3 (a2.length : Int), Int.tmod (wrap64 (Int.tdiv a3 (a2.length : Int))) (a2.length : Int), wrap64 (Int.tdiv (wrap64 (Int.tdiv a3 (a2.length : Int))) (a2.length : Int))] : List Int))).bind fun b0 => (if b0 = true then (some false) else (klippelaw55_CheckerNever.l0 k2 a2 (a2.length : Int) (wrap64 (a3 + 1))))) = some r := by rw [if_neg (show ¬ (false = true) by decide)] at H; exact H
           clear H
           have H := H1
           clear H1
           obtain ⟨d0, hy644⟩ : ∃ y_ : List Int, y_ = (([Int.tmod a3 (a2.length : Int), Int.tmod (wrap64 (Int.tdiv a3 (a2.length : Int))) (a2.length : Int), wrap64 (Int.tdiv (wrap64 (Int.tdiv a3 (a2.length : Int))) (a2.length : Int))] : List Int)) := ⟨_, rfl⟩
           replace H : ((checker_Cycle.f a2 d0).bind fun b0 => (if b0 = true then (some false) else (klippelaw55_CheckerNever.l0 k2 a2 (a2.length : Int) (wrap64 (a3 + 1))))) = some r := by first | (rw [hy644]; exact H) | (rw [hy644]; exact (Option.bind_some _ _).symm.trans H) | exact (Option.bind_some _ _).symm.trans H
           have Ny644 := mk0 hy644
           clear hy644
           obtain ⟨b0, A40, H⟩ := bS H
           by_cases g2 : b0 = true
           ·
            subst g2
            have H1 : (some false) = some r := by rw [if_pos rfl] at H; exact H
            clear H
            have H := H1
            clear H1
            obtain rfl := Option.some.inj H
            try go_wp2
            replace a5 := mk0 (Kd.R_drew a5.out)
            replace HB := mk0 (below_drew1 HB.out)
            refine start_ (n := 37) (S := fun w' => True) (ds := []) #[false, false, false, false, false, false, false, false, false, false, false, false, false, false, false, false, false, false, false, false, false, false, false, false, false, false, false, false, false, false, false, false, false, false, false, false, false] (by kernel_rfl) rfl rfl trivial (fun a7 => ?_); refine with_tabW klippelaw55_CheckerNever.tab10 klippelaw55_CheckerNever.bits10 (fun HT_ HW_ => ?_)
            generalize wr.drew = m0 at a5 HB a7 ⊢
            refine pu 0 38 HT_ ?_
            refine pu 1 39 HT_ ?_
            refine pu 2 40 HT_ ?_
            refine pu 3 41 HT_ ?_
            refine oN 4 42 HT_ (fun K hK => ?_)
            refine Kd.R_lit_step (Kd.int .i64) _ 3 ?hg (N := 42) ?hd (xs := ([Int.tmod a3 (a2.length : Int)] : List Int)) (inner := [.int .i64 (Int.tmod a3 (a2.length : Int))]) (ok := fun _ => True) (okp := fun _ => True) ?hr ?hp (fun _ hk => hk) trivial (Below.refl _ _) (Nat.le_refl _) (by simp) ?_; (case hd => rfl); (case hg => rfl); (case hr => exact aH); (case hp => exact (Reps.one (show Kd.M (Kd.int .i64) _ _ _ (Int.tmod a3 (a2.length : Int)) [.int .i64 (Int.tmod a3 (a2.length : Int))] from rfl) (Reps.none _ _)))
            intro d6 m1 d9 hb hg_ hnew_
            clear hg_ hnew_
            rw [← Ny636.out] at d9
            replace a5 := uR a5 hb
            have a4 := mR d9
            replace HB := uW hb
            clear hb d9
            obtain ⟨i3, i4, f2⟩ := Kd.R_slice a4.out
            (first | subst f2 | (injection f2 with f1_ f2_ f3_; have f4_ := f1_.symm; have f5_ := f3_.symm; clear f1_ f2_ f3_; subst f4_; subst f5_))
            refine hK.out _ _ trivial (fun a7 => ?_)
            clear hK K
            refine norm_ (a' := ?_) ?_ ?_
            rotate_left
            ·
             show Act.put _ (some 42) _ = _
             exact aP
            refine oN 5 43 HT_ (fun K hK => ?_)
            refine gz Tryz.func8 #[.slice b1 a2.length b2, .slice i3 b4.length i4] ?_
            with_reducible refine (checker_Cycle.calls _ _ a2 _ _ b4 false _ ?side1 ?side2 ?side3 ?side4 A22.out).mono ?_
            (case side1 => exact pC ((Kd.R_reads' a5.out).2.2))
            (case side2 => exact (Kd.R_reads' a5.out).2.1)
            (case side3 => exact pC ((Kd.R_reads' a4.out).2.2))
            (case side4 => exact (Kd.R_reads' a4.out).2.1)
            rintro e m2 ⟨rfl, hb⟩
            refine ⟨_, rfl, ?_⟩
            replace a5 := uR a5 hb
            replace a4 := uR a4 hb
            replace HB := uW hb
            (try clear hb)
            (try clear hb2)
            (try clear hk)
            (try clear hi)
            refine hK.out _ _ trivial (fun a7 => ?_)
            clear hK K
            refine norm_ (a' := ?_) ?_ ?_
            rotate_left
            ·
             show Act.put _ (some 43) _ = _
             exact aP
            refine pu 6 44 HT_ ?_
            refine pu 7 45 HT_ ?_
            refine pu 8 46 HT_ ?_
            refine pu 9 47 HT_ ?_
            refine pu 10 48 HT_ ?_
            refine pu 11 49 HT_ ?_
            refine pu 12 50 HT_ ?_
            refine pu 13 51 HT_ ?_
            refine pu 14 52 HT_ ?_
            refine pu 15 53 HT_ ?_
            refine oN 16 54 HT_ (fun K hK => ?_)
            refine Kd.R_lit_step (Kd.int .i64) _ 3 ?hg (N := 54) ?hd (xs := ([Int.tmod a3 (a2.length : Int), Int.tmod (wrap64 (Int.tdiv a3 (a2.length : Int))) (a2.length : Int)] : List Int)) (inner := [.int .i64 (Int.tmod a3 (a2.length : Int)), .int .i64 (Int.tmod (wrap64 (Int.tdiv a3 (a2.length : Int))) (a2.length : Int))]) (ok := fun _ => True) (okp := fun _ => True) ?hr ?hp (fun _ hk => hk) trivial (Below.refl _ _) (Nat.le_refl _) (by simp) ?_; (case hd => rfl); (case hg => rfl); (case hr => exact aH); (case hp => exact (Reps.one (show Kd.M (Kd.int .i64) _ _ _ (Int.tmod a3 (a2.length : Int)) [.int .i64 (Int.tmod a3 (a2.length : Int))] from rfl) (Reps.one (show Kd.M (Kd.int .i64) _ _ _ (Int.tmod (wrap64 (Int.tdiv a3 (a2.length : Int))) (a2.length : Int)) [.int .i64 (Int.tmod (wrap64 (Int.tdiv a3 (a2.length : Int))) (a2.length : Int))] from rfl) (Reps.none _ _))))
            intro f0 m3 d4 hb hg_ hnew_
            clear hg_ hnew_
            rw [← Ny640.out] at d4
            replace a5 := uR a5 hb
            have a6 := mk0 (Kd.R_lower (Kd.R_new' d4 (Kd.R_lt (pR a4.out))) (below_size (aB)))
            replace a4 := dR a4 (Kd.R_base d4) hb
            replace HB := uW hb
            clear hb d4
            obtain ⟨i5, i6, f4⟩ := Kd.R_slice a6.out
            (first | subst f4 | (injection f4 with f1_ f2_ f3_; have f4_ := f1_.symm; have f5_ := f3_.symm; clear f1_ f2_ f3_; subst f4_; subst f5_))
            refine hK.out _ _ trivial (fun a7 => ?_)
            clear hK K
            refine norm_ (a' := ?_) ?_ ?_
            rotate_left
            ·
             show Act.put _ (some 54) _ = _
             exact aP
            refine oN 17 55 HT_ (fun K hK => ?_)
            refine gz Tryz.func8 #[.slice b1 a2.length b2, .slice i5 b6.length i6] ?_
            with_reducible refine (checker_Cycle.calls _ _ a2 _ _ b6 false _ ?side1 ?side2 ?side3 ?side4 A29.out).mono ?_
            (case side1 => exact pC ((Kd.R_reads' a5.out).2.2))
            (case side2 => exact (Kd.R_reads' a5.out).2.1)
            (case side3 => exact pC ((Kd.R_reads' a6.out).2.2))
            (case side4 => exact (Kd.R_reads' a6.out).2.1)
            rintro e m4 ⟨rfl, hb⟩
            refine ⟨_, rfl, ?_⟩
            replace a5 := uR a5 hb
            replace a4 := uR a4 hb
            replace a6 := uR a6 hb
            replace HB := uW hb
            (try clear hb)
            (try clear hb2)
            (try clear hk)
            (try clear hi)
            refine hK.out _ _ trivial (fun a7 => ?_)
            clear hK K
            refine norm_ (a' := ?_) ?_ ?_
            rotate_left
            ·
             show Act.put _ (some 55) _ = _
             exact aP
            refine pu 18 56 HT_ ?_
            refine pu 19 57 HT_ ?_
            refine pu 20 58 HT_ ?_
            refine pu 21 59 HT_ ?_
            refine pu 22 60 HT_ ?_
            refine pu 23 61 HT_ ?_
            refine pu 24 62 HT_ ?_
            refine pu 25 63 HT_ ?_
            refine pu 26 64 HT_ ?_
            refine pu 27 65 HT_ ?_
            refine pu 28 66 HT_ ?_
            refine pu 29 67 HT_ ?_
            refine pu 30 68 HT_ ?_
            refine pu 31 69 HT_ ?_
            refine pu 32 70 HT_ ?_
            refine pu 33 71 HT_ ?_
            refine oN 34 72 HT_ (fun K hK => ?_)
            refine Kd.R_lit_step (Kd.int .i64) _ 3 ?hg (N := 72) ?hd (xs := ([Int.tmod a3 (a2.length : Int), Int.tmod (wrap64 (Int.tdiv a3 (a2.length : Int))) (a2.length : Int), wrap64 (Int.tdiv (wrap64 (Int.tdiv a3 (a2.length : Int))) (a2.length : Int))] : List Int)) (inner := [.int .i64 (Int.tmod a3 (a2.length : Int)), .int .i64 (Int.tmod (wrap64 (Int.tdiv a3 (a2.length : Int))) (a2.length : Int)), .int .i64 (wrap64 (Int.tdiv (wrap64 (Int.tdiv a3 (a2.length : Int))) (a2.length : Int)))]) (ok := fun _ => True) (okp := fun _ => True) ?hr ?hp (fun _ hk => hk) trivial (Below.refl _ _) (Nat.le_refl _) (by simp) ?_; (case hd => rfl); (case hg => rfl); (case hr => exact aH); (case hp => exact (Reps.one (show Kd.M (Kd.int .i64) _ _ _ (Int.tmod a3 (a2.length : Int)) [.int .i64 (Int.tmod a3 (a2.length : Int))] from rfl) (Reps.one (show Kd.M (Kd.int .i64) _ _ _ (Int.tmod (wrap64 (Int.tdiv a3 (a2.length : Int))) (a2.length : Int)) [.int .i64 (Int.tmod (wrap64 (Int.tdiv a3 (a2.length : Int))) (a2.length : Int))] from rfl) (Reps.one (show Kd.M (Kd.int .i64) _ _ _ (wrap64 (Int.tdiv (wrap64 (Int.tdiv a3 (a2.length : Int))) (a2.length : Int))) [.int .i64 (wrap64 (Int.tdiv (wrap64 (Int.tdiv a3 (a2.length : Int))) (a2.length : Int)))] from rfl) (Reps.none _ _)))))
            intro i7 m5 d1 hb hg_ hnew_
            clear hg_ hnew_
            rw [← Ny644.out] at d1
            replace a5 := uR a5 hb
            have a9 := mk0 (Kd.R_lower (Kd.R_new' (Kd.R_new' d1 (Kd.R_lt (pR a4.out))) (Kd.R_lt (pR a6.out))) (below_size (aB)))
            replace a4 := dR a4 (Kd.R_base d1) hb
            replace a6 := dR a6 (Kd.R_base d1) hb
            replace HB := uW hb
            clear hb d1
            obtain ⟨i8, i9, f5⟩ := Kd.R_slice a9.out
            (first | subst f5 | (injection f5 with f1_ f2_ f3_; have f4_ := f1_.symm; have f5_ := f3_.symm; clear f1_ f2_ f3_; subst f4_; subst f5_))
            refine hK.out _ _ trivial (fun a7 => ?_)
            clear hK K
            refine norm_ (a' := ?_) ?_ ?_
            rotate_left
            ·
             show Act.put _ (some 72) _ = _
             exact aP
            refine oN 35 73 HT_ (fun K hK => ?_)
            refine gz Tryz.func8 #[.slice b1 a2.length b2, .slice i8 d0.length i9] ?_
            with_reducible refine (checker_Cycle.calls _ _ a2 _ _ d0 true _ ?side1 ?side2 ?side3 ?side4 A40.out).mono ?_
            (case side1 => exact pC ((Kd.R_reads' a5.out).2.2))
            (case side2 => exact (Kd.R_reads' a5.out).2.1)
            (case side3 => exact pC ((Kd.R_reads' a9.out).2.2))
            (case side4 => exact (Kd.R_reads' a9.out).2.1)
            rintro e m6 ⟨rfl, hb⟩
            refine ⟨_, rfl, ?_⟩
            replace a5 := uR a5 hb
            replace a4 := uR a4 hb
            replace a6 := uR a6 hb
            replace a9 := uR a9 hb
            replace HB := uW hb
            (try clear hb)
            (try clear hb2)
            (try clear hk)
            (try clear hi)
            refine hK.out _ _ trivial (fun a7 => ?_)
            clear hK K
            refine norm_ (a' := ?_) ?_ ?_
            rotate_left
            ·
             show Act.put _ (some 73) _ = _
             exact aP
            refine pu 36 74 HT_ ?_
            refine done_ (done_of HT_.out (by kernel_rfl)) ?_
            try go_wp2
            go_ret
            exact ⟨by first | rfl | (simp [*] <;> rfl), aB⟩
           ·
            replace g2 := Bool.eq_false_iff.mpr g2
            subst g2
            have H1 : (klippelaw55_CheckerNever.l0 k2 a2 (a2.length : Int) (wrap64 (a3 + 1))) = some r := by rw [if_neg (show ¬ (false = true) by decide)] at H; exact H
            clear H
            have H := H1
            clear H1
            have H' := mk0 H
            clear H
            try go_wp2
            replace a5 := mk0 (Kd.R_drew a5.out)
            replace HB := mk0 (below_drew1 HB.out)
            refine start_ (n := 37) (S := fun w' => True) (ds := []) #[false, false, false, false, false, false, false, false, false, false, false, false, false, false, false, false, false, false, false, false, false, false, false, false, false, false, false, false, false, false, false, false, false, false, false, false, false] (by kernel_rfl) rfl rfl trivial (fun a7 => ?_); refine with_tabW klippelaw55_CheckerNever.tab10 klippelaw55_CheckerNever.bits10 (fun HT_ HW_ => ?_)
            generalize wr.drew = m7 at a5 HB a7 ⊢
            refine pu 0 38 HT_ ?_
            refine pu 1 39 HT_ ?_
            refine pu 2 40 HT_ ?_
            refine pu 3 41 HT_ ?_
            refine oN 4 42 HT_ (fun K hK => ?_)
            refine Kd.R_lit_step (Kd.int .i64) _ 3 ?hg (N := 42) ?hd (xs := ([Int.tmod a3 (a2.length : Int)] : List Int)) (inner := [.int .i64 (Int.tmod a3 (a2.length : Int))]) (ok := fun _ => True) (okp := fun _ => True) ?hr ?hp (fun _ hk => hk) trivial (Below.refl _ _) (Nat.le_refl _) (by simp) ?_; (case hd => rfl); (case hg => rfl); (case hr => exact aH); (case hp => exact (Reps.one (show Kd.M (Kd.int .i64) _ _ _ (Int.tmod a3 (a2.length : Int)) [.int .i64 (Int.tmod a3 (a2.length : Int))] from rfl) (Reps.none _ _)))
            intro d6 m8 e1 hb hg_ hnew_
            clear hg_ hnew_
            rw [← Ny636.out] at e1
            replace a5 := uR a5 hb
            have a4 := mR e1
            replace HB := uW hb
            clear hb e1
            obtain ⟨j1, j2, f6⟩ := Kd.R_slice a4.out
            (first | subst f6 | (injection f6 with f1_ f2_ f3_; have f4_ := f1_.symm; have f5_ := f3_.symm; clear f1_ f2_ f3_; subst f4_; subst f5_))
            refine hK.out _ _ trivial (fun a7 => ?_)
            clear hK K
            refine norm_ (a' := ?_) ?_ ?_
            rotate_left
            ·
             show Act.put _ (some 42) _ = _
             exact aP
            refine oN 5 43 HT_ (fun K hK => ?_)
            refine gz Tryz.func8 #[.slice b1 a2.length b2, .slice j1 b4.length j2] ?_
            with_reducible refine (checker_Cycle.calls _ _ a2 _ _ b4 false _ ?side1 ?side2 ?side3 ?side4 A22.out).mono ?_
            (case side1 => exact pC ((Kd.R_reads' a5.out).2.2))
            (case side2 => exact (Kd.R_reads' a5.out).2.1)
            (case side3 => exact pC ((Kd.R_reads' a4.out).2.2))
            (case side4 => exact (Kd.R_reads' a4.out).2.1)
            rintro e m9 ⟨rfl, hb⟩
            refine ⟨_, rfl, ?_⟩
            replace a5 := uR a5 hb
            replace a4 := uR a4 hb
            replace HB := uW hb
            (try clear hb)
            (try clear hb2)
            (try clear hk)
            (try clear hi)
            refine hK.out _ _ trivial (fun a7 => ?_)
            clear hK K
            refine norm_ (a' := ?_) ?_ ?_
            rotate_left
            ·
             show Act.put _ (some 43) _ = _
             exact aP
            refine pu 6 44 HT_ ?_
            refine pu 7 45 HT_ ?_
            refine pu 8 46 HT_ ?_
            refine pu 9 47 HT_ ?_
            refine pu 10 48 HT_ ?_
            refine pu 11 49 HT_ ?_
            refine pu 12 50 HT_ ?_
            refine pu 13 51 HT_ ?_
            refine pu 14 52 HT_ ?_
            refine pu 15 53 HT_ ?_
            refine oN 16 54 HT_ (fun K hK => ?_)
            refine Kd.R_lit_step (Kd.int .i64) _ 3 ?hg (N := 54) ?hd (xs := ([Int.tmod a3 (a2.length : Int), Int.tmod (wrap64 (Int.tdiv a3 (a2.length : Int))) (a2.length : Int)] : List Int)) (inner := [.int .i64 (Int.tmod a3 (a2.length : Int)), .int .i64 (Int.tmod (wrap64 (Int.tdiv a3 (a2.length : Int))) (a2.length : Int))]) (ok := fun _ => True) (okp := fun _ => True) ?hr ?hp (fun _ hk => hk) trivial (Below.refl _ _) (Nat.le_refl _) (by simp) ?_; (case hd => rfl); (case hg => rfl); (case hr => exact aH); (case hp => exact (Reps.one (show Kd.M (Kd.int .i64) _ _ _ (Int.tmod a3 (a2.length : Int)) [.int .i64 (Int.tmod a3 (a2.length : Int))] from rfl) (Reps.one (show Kd.M (Kd.int .i64) _ _ _ (Int.tmod (wrap64 (Int.tdiv a3 (a2.length : Int))) (a2.length : Int)) [.int .i64 (Int.tmod (wrap64 (Int.tdiv a3 (a2.length : Int))) (a2.length : Int))] from rfl) (Reps.none _ _))))
            intro f0 n0 d5 hb hg_ hnew_
            clear hg_ hnew_
            rw [← Ny640.out] at d5
            replace a5 := uR a5 hb
            have a6 := mk0 (Kd.R_lower (Kd.R_new' d5 (Kd.R_lt (pR a4.out))) (below_size (aB)))
            replace a4 := dR a4 (Kd.R_base d5) hb
            replace HB := uW hb
            clear hb d5
            obtain ⟨j3, j4, f7⟩ := Kd.R_slice a6.out
            (first | subst f7 | (injection f7 with f1_ f2_ f3_; have f4_ := f1_.symm; have f5_ := f3_.symm; clear f1_ f2_ f3_; subst f4_; subst f5_))
            refine hK.out _ _ trivial (fun a7 => ?_)
            clear hK K
            refine norm_ (a' := ?_) ?_ ?_
            rotate_left
            ·
             show Act.put _ (some 54) _ = _
             exact aP
            refine oN 17 55 HT_ (fun K hK => ?_)
            refine gz Tryz.func8 #[.slice b1 a2.length b2, .slice j3 b6.length j4] ?_
            with_reducible refine (checker_Cycle.calls _ _ a2 _ _ b6 false _ ?side1 ?side2 ?side3 ?side4 A29.out).mono ?_
            (case side1 => exact pC ((Kd.R_reads' a5.out).2.2))
            (case side2 => exact (Kd.R_reads' a5.out).2.1)
            (case side3 => exact pC ((Kd.R_reads' a6.out).2.2))
            (case side4 => exact (Kd.R_reads' a6.out).2.1)
            rintro e n1 ⟨rfl, hb⟩
            refine ⟨_, rfl, ?_⟩
            replace a5 := uR a5 hb
            replace a4 := uR a4 hb
            replace a6 := uR a6 hb
            replace HB := uW hb
            (try clear hb)
            (try clear hb2)
            (try clear hk)
            (try clear hi)
            refine hK.out _ _ trivial (fun a7 => ?_)
            clear hK K
            refine norm_ (a' := ?_) ?_ ?_
            rotate_left
            ·
             show Act.put _ (some 55) _ = _
             exact aP
            refine pu 18 56 HT_ ?_
            refine pu 19 57 HT_ ?_
            refine pu 20 58 HT_ ?_
            refine pu 21 59 HT_ ?_
            refine pu 22 60 HT_ ?_
            refine pu 23 61 HT_ ?_
            refine pu 24 62 HT_ ?_
            refine pu 25 63 HT_ ?_
            refine pu 26 64 HT_ ?_
            refine pu 27 65 HT_ ?_
            refine pu 28 66 HT_ ?_
            refine pu 29 67 HT_ ?_
            refine pu 30 68 HT_ ?_
            refine pu 31 69 HT_ ?_
            refine pu 32 70 HT_ ?_
            refine pu 33 71 HT_ ?_
            refine oN 34 72 HT_ (fun K hK => ?_)
            refine Kd.R_lit_step (Kd.int .i64) _ 3 ?hg (N := 72) ?hd (xs := ([Int.tmod a3 (a2.length : Int), Int.tmod (wrap64 (Int.tdiv a3 (a2.length : Int))) (a2.length : Int), wrap64 (Int.tdiv (wrap64 (Int.tdiv a3 (a2.length : Int))) (a2.length : Int))] : List Int)) (inner := [.int .i64 (Int.tmod a3 (a2.length : Int)), .int .i64 (Int.tmod (wrap64 (Int.tdiv a3 (a2.length : Int))) (a2.length : Int)), .int .i64 (wrap64 (Int.tdiv (wrap64 (Int.tdiv a3 (a2.length : Int))) (a2.length : Int)))]) (ok := fun _ => True) (okp := fun _ => True) ?hr ?hp (fun _ hk => hk) trivial (Below.refl _ _) (Nat.le_refl _) (by simp) ?_; (case hd => rfl); (case hg => rfl); (case hr => exact aH); (case hp => exact (Reps.one (show Kd.M (Kd.int .i64) _ _ _ (Int.tmod a3 (a2.length : Int)) [.int .i64 (Int.tmod a3 (a2.length : Int))] from rfl) (Reps.one (show Kd.M (Kd.int .i64) _ _ _ (Int.tmod (wrap64 (Int.tdiv a3 (a2.length : Int))) (a2.length : Int)) [.int .i64 (Int.tmod (wrap64 (Int.tdiv a3 (a2.length : Int))) (a2.length : Int))] from rfl) (Reps.one (show Kd.M (Kd.int .i64) _ _ _ (wrap64 (Int.tdiv (wrap64 (Int.tdiv a3 (a2.length : Int))) (a2.length : Int))) [.int .i64 (wrap64 (Int.tdiv (wrap64 (Int.tdiv a3 (a2.length : Int))) (a2.length : Int)))] from rfl) (Reps.none _ _)))))
            intro i7 n2 d2 hb hg_ hnew_
            clear hg_ hnew_
            rw [← Ny644.out] at d2
            replace a5 := uR a5 hb
            have a9 := mk0 (Kd.R_lower (Kd.R_new' (Kd.R_new' d2 (Kd.R_lt (pR a4.out))) (Kd.R_lt (pR a6.out))) (below_size (aB)))
            replace a4 := dR a4 (Kd.R_base d2) hb
            replace a6 := dR a6 (Kd.R_base d2) hb
            replace HB := uW hb
            clear hb d2
            obtain ⟨j5, j6, f8⟩ := Kd.R_slice a9.out
            (first | subst f8 | (injection f8 with f1_ f2_ f3_; have f4_ := f1_.symm; have f5_ := f3_.symm; clear f1_ f2_ f3_; subst f4_; subst f5_))
            refine hK.out _ _ trivial (fun a7 => ?_)
            clear hK K
            refine norm_ (a' := ?_) ?_ ?_
            rotate_left
            ·
             show Act.put _ (some 72) _ = _
             exact aP
            refine oN 35 73 HT_ (fun K hK => ?_)
            refine gz Tryz.func8 #[.slice b1 a2.length b2, .slice j5 d0.length j6] ?_
            with_reducible refine (checker_Cycle.calls _ _ a2 _ _ d0 false _ ?side1 ?side2 ?side3 ?side4 A40.out).mono ?_
            (case side1 => exact pC ((Kd.R_reads' a5.out).2.2))
            (case side2 => exact (Kd.R_reads' a5.out).2.1)
            (case side3 => exact pC ((Kd.R_reads' a9.out).2.2))
            (case side4 => exact (Kd.R_reads' a9.out).2.1)
            rintro e n3 ⟨rfl, hb⟩
            refine ⟨_, rfl, ?_⟩
            replace a5 := uR a5 hb
            replace a4 := uR a4 hb
            replace a6 := uR a6 hb
            replace a9 := uR a9 hb
            replace HB := uW hb
            (try clear hb)
            (try clear hb2)
            (try clear hk)
            (try clear hi)
            refine hK.out _ _ trivial (fun a7 => ?_)
            clear hK K
            refine norm_ (a' := ?_) ?_ ?_
            rotate_left
            ·
             show Act.put _ (some 73) _ = _
             exact aP
            refine pu 36 74 HT_ ?_
            refine done_ (done_of HT_.out (by kernel_rfl)) ?_
            try go_wp2
            go_roundg k2
            case measure => have := HJ2.out; have := HK2.out; omega
            case rel => exact ⟨(wrap64 (a3 + 1)), (by first | rfl | simp [*]), H', ⟨by have := HJ2.out; have := HK2.out; omega⟩, ⟨pR a5.out⟩, ⟨aB⟩⟩
       ·
        rw [if_neg e2] at H
        have e6 : decide (a3 < (wrap64 ((wrap64 ((a2.length : Int) * (a2.length : Int))) * (a2.length : Int)))) = false := decide_eq_false e2
        clear e2
        obtain rfl := Option.some.inj H
        go_wp2
        go_ret
        exact ⟨by first | rfl | (simp [*] <;> rfl), aB⟩
    ·
     replace e4 := Bool.eq_false_iff.mpr e4
     subst e4
     have H1 : (some true) = some r := by rw [if_neg (show ¬ (false = true) by decide)] at H; exact H
     clear H
     have H := H1
     clear H1
     obtain rfl := Option.some.inj H
     go_wp2_with (first | (refine gc 6 ?_; refine gl 22 Tryz.func6 #[.slice A0 l0.length c0] ?_; (with_reducible refine (klippelaw21_Make.calls kj2 _ _ l0 a2 _ ?side1 ?side2 A14.out).mono ?_); (case side1 => exact pC (Kd.C_below HR0.out HB.out)); (case side2 => exact f9.out); rintro e n4 ⟨g4, rfl, e5, hb⟩; refine ⟨_, rfl, ?_⟩; have a8 := mR e5;replace HB := uW hb; (try clear hb); (try clear e5); obtain ⟨j7, j8, j9⟩ := Kd.R_slice a8.out; subst j9) | (refine gc 7 ?_; refine gl 25 Tryz.func7 #[.slice j7 a2.length j8, .slice A1 l1.length c1] ?_; (with_reducible refine (checker_Order.calls _ _ a2 _ _ l1 false _ ?side1 ?side2 ?side3 ?side4 A15.out).mono ?_); (case side1 => exact pC ((Kd.R_reads' a8.out).2.2)); (case side2 => exact (Kd.R_reads' a8.out).2.1); (case side3 => exact pC (Kd.C_below HR1.out HB.out)); (case side4 => exact k0.out); rintro e n5 ⟨rfl, hb⟩; refine ⟨_, rfl, ?_⟩; replace a8 := uR a8 hb;replace HB := uW hb; (try clear hb); (try clear hb2); (try clear hk); (try clear hi)))
     go_ret
     exact ⟨by first | rfl | (simp [*] <;> rfl), aB⟩
end Go.Proofs.YtbgmfgndldnmcaaGreatDoor.PCheckerNever
