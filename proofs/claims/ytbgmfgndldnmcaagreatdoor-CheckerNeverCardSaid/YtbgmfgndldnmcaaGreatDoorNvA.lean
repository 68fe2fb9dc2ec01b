/- The plain law: what the program's Order accepts has no cycle that its Cycle accepts. -/
import Derived.Test.YtbgmfgndldnmcaaGreatDoorPd
import Derived.Test.YtbgmfgndldnmcaaGreatDoorWp
namespace Go.Proofs.YtbgmfgndldnmcaaGreatDoor.Nv
open Go.RowKit Go.Proofs.YtbgmfgndldnmcaaGreatDoorW.PrintWords Go.Proofs.YtbgmfgndldnmcaaGreatDoor.PCheckerNever
set_option linter.unusedVariables false
abbrev Rel := S33
abbrev Seen := S50
abbrev rdR : List Rel → Int → Rel := rd_T33
/-- The one-letter name of a unit. -/
def nm (a : Int) : ByteArray := strOfNums ([(wrap64 (65 + a)) % 256] : List Int)
theorem nm_is (a : Int) : klippelaw21_Name.f a = some (nm a) := rfl
def mkRel (s : Seen) : Rel :=
  if wrap64 (Int.tmod s.f1 6) = wrap64 (Int.tmod s.f2 6) then ⟨wrap64 (1 + wrap64 (Int.tmod s.f0 4)), nm (wrap64 (Int.tmod s.f1 6)), nm (Int.tmod (wrap64 (wrap64 (Int.tmod s.f1 6) + 1)) 6)⟩
  else ⟨wrap64 (1 + wrap64 (Int.tmod s.f0 4)), nm (wrap64 (Int.tmod s.f1 6)), nm (wrap64 (Int.tmod s.f2 6))⟩
theorem strOf_len (x : Int) : (strOfNums [x]).size = 1 := by
  unfold strOfNums
  rfl
theorem mkRel_brief (s : Seen) : (mkRel s).f1.size = 1 ∧ (mkRel s).f2.size = 1 := by
  unfold mkRel nm
  split <;> exact ⟨strOf_len _, strOf_len _⟩
theorem make_from (l : List Seen) (hl : l.length ≤ 8) (d : Nat) : ∀ (i : Nat), d = l.length - i → i ≤ l.length → Ev (fun k => klippelaw21_Make.l0 k l ((l.take i).map mkRel) (i : Int)) (l.map mkRel) := by
  induction d with
  | zero =>
    intro i h0 h1
    obtain rfl : i = l.length := by omega
    rw [List.take_length]
    refine Ev.step (f := fun k => klippelaw21_Make.j1 k l (l.map mkRel) (l.length : Int) false) (fun k => ?_) (Ev.step (f := fun _ => some (l.map mkRel)) (fun k => ?_) (Ev.now _))
    · rw [klippelaw21_Make.l0, if_neg (by omega)]
    · rw [klippelaw21_Make.j1, if_neg (by decide)]
  | succ d ih =>
    intro i h0 h1
    have hi : i < l.length := by omega
    have he : (l.take (i + 1)).map mkRel = (l.take i).map mkRel ++ [mkRel (rd_T50 l (i : Int))] := by
      rw [List.take_add_one, List.getElem?_eq_getElem hi, Option.toList_some, List.map_append, List.map_singleton]
      congr 3
      unfold rd_T50
      rw [Int.toNat_natCast, List.getD_eq_getElem?_getD, List.getElem?_eq_getElem hi]
      rfl
    have hw : wrap64 ((i : Int) + 1) = ((i + 1 : Nat) : Int) := by unfold wrap64; omega
    have hlen : ((l.take i).map mkRel).length < 3518437208883 := by
      rw [List.length_map, List.length_take]
      omega
    refine Ev.step (f := fun k => klippelaw21_Make.j1 k l ((l.take i).map mkRel) (i : Int) true) (fun k => ?_) (Ev.step (f := fun k => klippelaw21_Make.l0 k l ((l.take (i + 1)).map mkRel) ((i + 1 : Nat) : Int)) (fun k => ?_) (ih (i + 1) (by omega) (by omega)))
    · rw [klippelaw21_Make.l0, if_pos (by omega), decide_eq_true (by omega)]
    · rw [klippelaw21_Make.j1, if_pos rfl, if_pos (by omega), if_pos (by omega)]
      simp only [nm_is, Option.bind_some]
      rw [if_pos hlen, if_pos hlen, hw, he]
      unfold mkRel
      split <;> rfl
theorem make_is (l : List Seen) (hl : l.length ≤ 8) : Ev (fun k => klippelaw21_Make.f k l) (l.map mkRel) := make_from l hl l.length 0 (by omega) (Nat.zero_le _)
theorem brief_map (l : List Seen) : (l.map mkRel).all (fun x => ordBrief x.f1 && ordBrief x.f2) = true := by
  rw [List.all_eq_true]
  intro x hx
  obtain ⟨s, _, rfl⟩ := List.mem_map.1 hx
  have := mkRel_brief s
  rw [Bool.and_eq_true]
  exact ⟨decide_eq_true (by rw [this.1]; decide), decide_eq_true (by rw [this.2]; decide)⟩
theorem rdR_nat (all : List Rel) {i : Int} (h : 0 ≤ i) : rdR all ((i.toNat : Nat) : Int) = rdR all i := by rw [Int.toNat_of_nonneg h]
/-- No cycle of relations that an order keeps. -/
theorem never {all : List Rel} {l1 : List ByteArray} {c : List Int} (ho : (!ordTwice l1 && (List.range all.length).all fun j => ordKeeps l1 (rdR all (j : Int))) = true) :
    (decide (0 < c.length) && c.all (cycArc all) && (List.range c.length).all (cycFits all c)) = false := by
  cases hA : (decide (0 < c.length) && c.all (cycArc all) && (List.range c.length).all (cycFits all c)) with
  | false => rfl
  | true =>
    exfalso
    rw [Bool.and_eq_true, Bool.and_eq_true] at hA
    obtain ⟨⟨h0, ha⟩, hf⟩ := hA
    replace h0 : 0 < c.length := of_decide_eq_true h0
    rw [Bool.and_eq_true] at ho
    obtain ⟨_, ho⟩ := ho
    let lo : Nat → Int := fun k => (ordNm l1 l1.length (rdR all (rd c (k : Int))).f2.data.toList).getD 0
    let up : Nat → Int := fun k => (ordNm l1 l1.length (rdR all (rd c (k : Int))).f1.data.toList).getD 0
    have step : ∀ k, k < c.length → lo k < up k := by
      intro k hk
      have hc : cycArc all (rd c (k : Int)) = true := List.all_eq_true.1 ha _ (cycMem hk)
      obtain ⟨b0, b1⟩ := cycIn hc
      have hK := List.all_eq_true.1 ho (rd c (k : Int)).toNat (List.mem_range.2 (by omega))
      rw [rdR_nat all b0] at hK
      unfold cycArc at hc
      unfold ordKeeps at hK
      simp only [Bool.and_eq_true, decide_eq_true_eq] at hc
      simp only [Bool.and_eq_true, Bool.not_eq_true', Bool.and_eq_false_iff, decide_eq_false_iff_not] at hK
      obtain ⟨_, h⟩ := hK
      rcases h with (h | h) | h
      · exact absurd hc.1.2 h
      · exact absurd hc.2 h
      · show (ordNm l1 l1.length (rdR all (rd c (k : Int))).f2.data.toList).getD 0 < (ordNm l1 l1.length (rdR all (rd c (k : Int))).f1.data.toList).getD 0
        omega
    have link : ∀ k, k < c.length → up ((k + c.length - 1) % c.length) = lo k := by
      intro k hk
      have h := List.all_eq_true.1 hf k (List.mem_range.2 hk)
      unfold cycFits at h
      rw [Bool.and_eq_true] at h
      have h1 := beq_iff_eq.1 h.1
      rw [ByteArray.toList_eq, ByteArray.toList_eq] at h1
      show (ordNm l1 l1.length (rdR all (rd c _)).f1.data.toList).getD 0 = (ordNm l1 l1.length (rdR all (rd c (k : Int))).f2.data.toList).getD 0
      rw [h1]
    have grow : ∀ k, k < c.length → lo 0 ≤ lo k := by
      intro k
      induction k with
      | zero => exact fun _ => Int.le_refl _
      | succ k ih =>
        intro hk
        have h1 := ih (by omega)
        have h2 := step k (by omega)
        have h3 := link (k + 1) hk
        rw [show (k + 1 + c.length - 1) % c.length = k by rw [show k + 1 + c.length - 1 = k + c.length by omega, Nat.add_mod_right, Nat.mod_eq_of_lt (by omega)]] at h3
        omega
    have h1 := grow (c.length - 1) (by omega)
    have h2 := step (c.length - 1) (by omega)
    have h3 := link 0 h0
    rw [show (0 + c.length - 1) % c.length = c.length - 1 by rw [Nat.zero_add, Nat.mod_eq_of_lt (by omega)]] at h3
    omega
theorem cycle_no {all : List Rel} {l1 : List ByteArray} {c : List Int} (hb : all.all (fun x => ordBrief x.f1 && ordBrief x.f2) = true) (hl : all.length ≤ 8) (hc : c.length ≤ 3) (ho : (!ordTwice l1 && (List.range all.length).all fun j => ordKeeps l1 (rdR all (j : Int))) = true) : checker_Cycle.f all c = some false := by
  unfold checker_Cycle.f
  rw [if_pos (by rw [hb, decide_eq_true (by omega)]; rfl), never ho]
theorem cube {n : Nat} (h : n ≤ 8) : wrap64 (wrap64 ((n : Int) * (n : Int)) * (n : Int)) = ((n * n * n : Nat) : Int) ∧ n * n * n ≤ 512 := by
  have h1 : n * n ≤ 64 := Nat.mul_le_mul h h
  have h2 : n * n * n ≤ 512 := Nat.mul_le_mul h1 h
  have e1 : wrap64 ((n : Int) * (n : Int)) = ((n * n : Nat) : Int) := by
    rw [← Int.natCast_mul]
    generalize n * n = m at h1
    unfold wrap64
    omega
  rw [e1, ← Int.natCast_mul]
  refine ⟨?_, h2⟩
  generalize n * n * n = m at h2
  unfold wrap64
  omega
theorem loop_is {all : List Rel} {l1 : List ByteArray} (hb : all.all (fun x => ordBrief x.f1 && ordBrief x.f2) = true) (hl : all.length ≤ 8) (ho : (!ordTwice l1 && (List.range all.length).all fun j => ordKeeps l1 (rdR all (j : Int))) = true) (d : Nat) :
    ∀ i : Nat, d = all.length * all.length * all.length - i → i ≤ all.length * all.length * all.length → Ev (fun k => klippelaw55_CheckerNever.l0 k all (all.length : Int) (i : Int)) true := by
  obtain ⟨hw, h512⟩ := cube hl
  induction d with
  | zero =>
    intro i h0 h1
    refine Ev.step (f := fun _ => some true) (fun k => ?_) (Ev.now _)
    rw [klippelaw55_CheckerNever.l0, hw, if_neg (by omega)]
  | succ d ih =>
    intro i h0 h1
    have hn : all.length ≠ 0 := by
      intro e
      rw [e] at h0
      simp at h0
    have hi : wrap64 ((i : Int) + 1) = ((i + 1 : Nat) : Int) := by
      generalize all.length * all.length * all.length = m at h0 h1 h512
      unfold wrap64
      omega
    refine Ev.step (f := fun k => klippelaw55_CheckerNever.l0 k all (all.length : Int) ((i + 1 : Nat) : Int)) (fun k => ?_) (ih (i + 1) (by omega) (by omega))
    rw [klippelaw55_CheckerNever.l0, hw, if_pos (by omega), if_neg (by omega)]
    rw [cycle_no hb hl (by simp) ho, Option.bind_some, if_neg (by decide), cycle_no hb hl (by simp) ho, Option.bind_some, if_neg (by decide), cycle_no hb hl (by simp) ho, Option.bind_some, if_neg (by decide), hi]
/-- The law, on plain lists. -/
theorem law (l : List Seen) (l1 : List ByteArray) (hs : ∀ s ∈ l1, s.size ≤ maxLen) : ∃ k, klippelaw55_CheckerNever.f k l l1 = some true := by
  have known : Ev (fun k => klippelaw55_CheckerNever.j0 k l l1 true) true := Ev.step (f := fun _ => some true) (fun k => by rw [klippelaw55_CheckerNever.j0, if_pos rfl, klippelaw55_knownT.f, Option.bind_some]) (Ev.now _)
  have key : Ev (fun k => klippelaw55_CheckerNever.f k l l1) true := by
    by_cases h0 : (l.length : Int) ≤ 8
    · by_cases h1 : (l1.length : Int) > 8
      · refine Ev.congr (f := fun k => klippelaw55_CheckerNever.j0 k l l1 true) (fun k => ?_) known
        rw [klippelaw55_CheckerNever.f, klippelaw55_knownT.f, Option.bind_some, if_pos rfl, klippelaw21_Fits.f, decide_eq_true h0, Option.bind_some, if_pos rfl, decide_eq_true h1]
      · refine Ev.congr (f := fun k => klippelaw55_CheckerNever.j0 k l l1 false) (fun k => ?_) ?_
        · rw [klippelaw55_CheckerNever.f, klippelaw55_knownT.f, Option.bind_some, if_pos rfl, klippelaw21_Fits.f, decide_eq_true h0, Option.bind_some, if_pos rfl, decide_eq_false h1]
        have hlen : (l.map mkRel).length ≤ 8 := by rw [List.length_map]; omega
        have hB : (l1.all ordBrief && (l.map mkRel).all (fun x => ordBrief x.f1 && ordBrief x.f2) && decide (l1.length ≤ 1000 ∧ (l.map mkRel).length ≤ 1000)) = true := by
          have hA : l1.all ordBrief = true := List.all_eq_true.2 (fun s h => decide_eq_true (hs s h))
          rw [brief_map, hA, decide_eq_true (by omega)]
          rfl
        have hO : checker_Order.f (l.map mkRel) l1 = some (!ordTwice l1 && (List.range (l.map mkRel).length).all fun j => ordKeeps l1 (rdR (l.map mkRel) (j : Int))) := by
          unfold checker_Order.f
          rw [if_pos hB]
        refine Ev.step (f := fun k => (klippelaw21_Make.f k l).bind fun t => ((checker_Order.f t l1).bind fun b => (if b = true then (klippelaw55_CheckerNever.l0 k t (t.length : Int) 0) else (some true)))) (fun k => by rw [klippelaw55_CheckerNever.j0, if_neg (by decide)]) (Ev.bind (make_is l (by omega)) ?_)
        cases ho : (!ordTwice l1 && (List.range (l.map mkRel).length).all fun j => ordKeeps l1 (rdR (l.map mkRel) (j : Int))) with
        | false =>
          refine Ev.congr (f := fun _ => some true) (fun k => ?_) (Ev.now _)
          rw [hO, ho, Option.bind_some, if_neg (by decide)]
        | true =>
          refine Ev.congr (f := fun k => klippelaw55_CheckerNever.l0 k (l.map mkRel) ((l.map mkRel).length : Int) ((0 : Nat) : Int)) (fun k => ?_) (loop_is (brief_map l) hlen ho _ 0 rfl (Nat.zero_le _))
          rw [hO, ho, Option.bind_some, if_pos rfl]
          rfl
    · refine Ev.congr (f := fun k => klippelaw55_CheckerNever.j0 k l l1 true) (fun k => ?_) known
      rw [klippelaw55_CheckerNever.f, klippelaw55_knownT.f, Option.bind_some, if_pos rfl, klippelaw21_Fits.f, decide_eq_false h0, Option.bind_some, if_neg (by decide)]
  exact key.rounds
end Go.Proofs.YtbgmfgndldnmcaaGreatDoor.Nv
