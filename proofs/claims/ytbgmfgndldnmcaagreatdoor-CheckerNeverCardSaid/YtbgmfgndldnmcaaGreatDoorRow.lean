/- For any at most 8 relations and any list of names, no cycle and order are both accepted (klippelaw55.CheckerNever): the law returns true for every input, with its package-level tables as the program's text lays them. -/
import Derived.Test.YtbgmfgndldnmcaaGreatDoorTie
import Derived.Test.YtbgmfgndldnmcaaGreatDoorCards
import Derived.Test.YtbgmfgndldnmcaaGreatDoorPd
import Derived.Test.YtbgmfgndldnmcaaGreatDoorNvA
import Derived.Test.YtbgmfgndldnmcaaGreatDoorOp
import Derived.Lib.LaidTab
import Derived.Stop.LaidErr
import Derived.WalkKit
import Derived.ProofKit
import Derived.OpenShut
import Derived.ShutString
import Derived.LaidMore
import Derived.Lay
import Derived.ChangeOld
import Derived.Below
import Derived.SizedLaws
import Derived.SevenTiedAt
namespace Go.Proofs.YtbgmfgndldnmcaaGreatDoor.checkerNever
open Go.ChangeShapes Go.WideShapes Go.ChangeAt Go.RowKit
open Go.ChangeMaps (open_string shut_string)
open Go.Proofs.YtbgmfgndldnmcaaGreatDoor.PCheckerNever Go.Proofs.YtbgmfgndldnmcaaGreatDoorW.PrintWords Go.Proofs.YtbgmfgndldnmcaaGreatDoor.Op
set_option linter.unusedVariables false
theorem own : ownKnob Tryz.prog.godebug = none := by kernel_rfl
theorem laidOut : laidOutB Tryz.prog = true := by kernel_rfl
theorem table {W : World} (h : laidMetH Tryz.prog Rows.checkerNeverRow.laid W) : PCheckerNever.GW W := by
  rw [MakeChecks.laidMetH_plain _ _ _ (by kernel_rfl)] at h
  exact Lib.tabIs_of_head (g := 1) (t := 179) (e := 137) (n := 20) (by kernel_rfl) (by kernel_rfl) Tryz.underlying179 Tryz.underlying137 (by kernel_rfl) (by kernel_rfl) (laidMet.tail (laidMet.tail h))
set_option maxRecDepth 100000 in
theorem opens_seen {H : Type} {enc : TypeId × Value → H} {w : World} {base : Nat} {spare : Nat → Bool} {held : Bool} : Opens enc Tryz.prog w base spare held k50 50 fun _ => True := fun n cs x h => by
  obtain ⟨y0, y1, y2, m, _, hl, h0, h1, h2⟩ := Deep.trod_struct3 Tryz.underlying50 h
  have hc : Tryz.prog.cellsOf 50 = 3 := by kernel_rfl
  have hc5 : Tryz.prog.cellsOf 5 = 1 := by kernel_rfl
  rw [hc] at hl
  match cs, hl with
  | [u0, u1, u2], _ =>
    simp only [hc5, List.drop_zero, List.drop_succ_cons, List.take_succ_cons, List.take_zero] at h0 h1 h2
    obtain ⟨a0, e0, _⟩ := DataW.trod_int Tryz.underlying5 h0
    obtain ⟨a1, e1, _⟩ := DataW.trod_int Tryz.underlying5 h1
    obtain ⟨a2, e2, _⟩ := DataW.trod_int Tryz.underlying5 h2
    injection e0 with e0
    injection e1 with e1
    injection e2 with e2
    subst e0 e1 e2
    exact ⟨⟨a0, a1, a2⟩, k50_mk w ⟨a0, a1, a2⟩, trivial⟩
set_option maxRecDepth 100000 in
theorem lifted (os : Os) (started : os.Started) (H : Type) (enc : TypeId × Value → H) :
    ReturnsInHanded {} Tryz.checked os 3 .any (fun w args => (Rows.checkerNeverSpec.pre enc Tryz.prog Tryz.f3 Rows.checkerNeverRow.domain false w args ∧ laidMetH Tryz.prog Rows.checkerNeverRow.laid w) ∧ sizedMet enc Tryz.prog Tryz.f3 (OpenSpec.ofChange Rows.checkerNeverSpec) false w args)
      (Rows.checkerNeverSpec.post enc Tryz.prog Tryz.f3 false true false false) := by
  refine returnsInHanded_of_change_and (C := Tryz.checked) (X := fun w _ => laidMetH Tryz.prog Rows.checkerNeverRow.laid w) (fun _ _ _ hh h => h.of_heap hh) own started (by kernel_rfl) Tryz.func3
    (ChangeSpec.witness_shaped (enc := enc) (C := Tryz.checked) (os := os) (X := fun w _ => laidMetH Tryz.prog Rows.checkerNeverRow.laid w) false (World.laidAll Tryz.prog os Rows.checkerNeverRow.laid) #[.slice none 0 0, .slice none 0 0] 8 (World.laidAll_os _ _ _)
      (World.shaped_of_ZipB (by kernel_rfl) (by kernel_rfl)) (by kernel_rfl) (by kernel_rfl) (by kernel_rfl)
      (by rw [MakeChecks.laidMetH_plain _ _ _ (by kernel_rfl)]; exact laidMet_laidAll _ (by kernel_rfl) (by kernel_rfl))) ?_
  intro W base args ds gs before hval0 hW hcnd hsz0 hL _
  have hval : ∀ (j : Nat) t v, Tryz.f3.params[j]? = some t → args[j]? = some v → Value.okWide Tryz.prog W .any base t v := hval0
  have hW' := hW
  obtain ⟨p, q, hA0, hV, rfl, hfz, hnd⟩ := hW
  have hA : DataW.TrodAll enc Tryz.prog W 0 (fun _ => true) true Tryz.f3.params.toList args.toList ds p := hA0
  rw [Tryz.params3] at hA hval
  obtain ⟨v0, vs0, d0, ds0, p0, q0, hargs, rfl, rfl, h0, r0⟩ := trodAll_cons hA
  obtain ⟨v1, vs1, d1, ds1, p1, q1, rfl, rfl, rfl, h1, r1⟩ := trodAll_cons r0
  obtain ⟨rfl, rfl, rfl⟩ := trodAll_nil r1
  obtain rfl : args = #[v0, v1] := by cases args; simp_all
  obtain ⟨rfl, rfl⟩ := trodVars_none hV
  obtain ⟨a0, len0, cap0, rfl⟩ := okWide_slice Tryz.underlying22 (hval 0 22 v0 rfl rfl)
  obtain ⟨a1, len1, cap1, rfl⟩ := okWide_slice Tryz.underlying23 (hval 1 23 v1 rfl rfl)
  have k0 := h0
  have k1 := h1
  have lt0 : ∀ x ∈ p0, x.block < W.heap.size := by obtain ⟨m, hm⟩ := k0; exact DataW.trod_lt m _ _ _ hm
  have lt1 : ∀ x ∈ p1, x.block < W.heap.size := by obtain ⟨m, hm⟩ := k1; exact DataW.trod_lt m _ _ _ hm
  obtain ⟨fuel0, hf0⟩ := h0
  obtain ⟨fuel1, hf1⟩ := h1
  have : Inhabited S50 := ⟨z50⟩
  have : Inhabited ByteArray := ⟨ByteArray.empty⟩
  obtain ⟨A0, c0, l0, e0, hc0, _, hC0, _⟩ := open_C (d := k50) Tryz.underlying22 (by kernel_rfl) opens_seen hf0
  obtain ⟨A1, c1, l1, e1, hc1, _, hC1, hs1⟩ := open_C (d := Kd.string) Tryz.underlying23 (by kernel_rfl) (opens_string Tryz.underlying9) hf1
  simp only [Value.cells, List.cons.injEq, Value.slice.injEq, and_true] at e0 e1
  obtain ⟨rfl, rfl, rfl⟩ := e0
  obtain ⟨rfl, rfl, rfl⟩ := e1
  clear hA0 hval0 hsz0
  obtain ⟨k, hk⟩ := Nv.law l0 l1 hs1
  refine (klippelaw55_CheckerNever.calls k _ _ l0 _ _ l1 true W (table hL) hC0 hc0 hC1 hc1 hk).mono fun e W' ⟨he, bel⟩ => ?_
  subst he
  exact ⟨_, rfl, _, _, _, [], _, [], hW', trodAll_mk1 (shut_bool Tryz.underlying4 _), (trodAll_cons_mk (Below.trod laidOut (by kernel_rfl) (of_decide_eq_true (by kernel_rfl)) k0 bel lt0) (trodAll_cons_mk (Below.trod laidOut (by kernel_rfl) (of_decide_eq_true (by kernel_rfl)) k1 bel lt1) trodAll_mk0)), rfl, bel.frame _, fun h => by cases h⟩
theorem holds : Rows.CheckerNeverSaid :=
  OpenClaim.holds_of_wide 3 Tryz.f3 rfl rfl rfl rfl rfl rfl rfl ⟨rfl, rfl, rfl, rfl, rfl⟩ rfl rfl rfl rfl rfl (by kernel_rfl) Tryz.func3 (by kernel_rfl)
    (of_decide_eq_true (by kernel_rfl)) (by unfold Func.isWrapper; first | (rw [if_pos (by decide +kernel)]; kernel_rfl) | (rw [if_neg (by decide +kernel)]; exact ⟨rfl, rfl⟩))
    (fun os started H enc _ => lifted os started H enc)
end Go.Proofs.YtbgmfgndldnmcaaGreatDoor.checkerNever
namespace Go.Proofs.YtbgmfgndldnmcaaGreatDoor
/-- The card, under a short name, for the claim. -/
theorem checkerNever_holds : Rows.CheckerNeverCardSaid :=
  Claim7.holds_tied_plain_at .later [] [.data, .data, .data] true (true, "0c734e9a793fd48e561b71cda9134651377937caa6a93d327b02964ba65588a2") false checkerNever.holds (fun _ h => by cases h) (by kernel_rfl) (fun _ h => by cases h) checkerNever_row_tie rfl ⟨rfl, rfl⟩ (by kernel_rfl) rfl
    (fun f fn hf hfn => by
      obtain rfl : f = 3 := Option.some.inj ((show Tryz.prog.funcNamed "klippe/klippelaw55.CheckerNever" = some 3 by kernel_rfl).symm.trans hf) |>.symm
      obtain rfl : fn = Tryz.f3 := (Option.some.inj (Tryz.func3.symm.trans hfn)).symm
      exact ⟨by kernel_rfl, fun j t ht => by
        rw [Tryz.params3] at ht
        have hm : t ∈ [22, 23] := by simpa using Array.mem_of_getElem? ht
        have hall : ([22, 23].all fun u => !Tryz.prog.wantsStandIn u) = true := by kernel_rfl
        exact (show Tryz.prog.wantsStandIn t = false by simpa using List.all_eq_true.1 hall t hm)⟩)
    (by kernel_rfl)
#print axioms checkerNever_holds
end Go.Proofs.YtbgmfgndldnmcaaGreatDoor
