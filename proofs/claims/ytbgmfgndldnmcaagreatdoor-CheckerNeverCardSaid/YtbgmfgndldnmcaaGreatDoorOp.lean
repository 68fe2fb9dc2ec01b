/- How arguments that the claim's form hands over read as the kinds of the printed contracts: numbers, strings, structs, slices of these. -/
import Derived.Test.YtbgmfgndldnmcaaGreatDoorWa
import Derived.Deep.Strs
import Derived.Carry
namespace Go.Proofs.YtbgmfgndldnmcaaGreatDoor.Op
open Go.ChangeShapes Go.WideShapes Go.RowKit Go.Deep Go.Proofs.YtbgmfgndldnmcaaGreatDoorW.PrintWords
set_option linter.unusedVariables false
section
variable {H : Type} {enc : TypeId × Value → H} {P : Program} {w : World} {base : Nat} {spare : Nat → Bool} {held : Bool}
/-- Values of type e read as the kind d, and what is read has the property p. -/
def Opens (enc : TypeId × Value → H) (P : Program) (w : World) (base : Nat) (spare : Nat → Bool) (held : Bool) {α : Type} (d : Kd α) (e : TypeId) (p : α → Prop) : Prop :=
  ∀ n cs x, DataW.trod enc P w base spare held n e cs = some x → ∃ a, d.K w a cs ∧ p a
theorem opens_int {k : IntKind} {e : TypeId} (he : P.underlying e = some (.int k)) : Opens enc P w base spare held (Kd.int k) e fun a => (Lit.int k a).wf = true := fun n cs x h => by
  obtain ⟨a, rfl, _, hw⟩ := DataW.trod_int he h
  exact ⟨a, rfl, hw⟩
theorem opens_string {e : TypeId} (he : P.underlying e = some .string) : Opens enc P w base spare held Kd.string e fun a => a.size ≤ maxLen := fun n cs x h => by
  obtain ⟨a, rfl, _, hw⟩ := DataW.trod_string he h
  exact ⟨a, rfl, hw⟩
theorem Opens.weak {α : Type} {d : Kd α} {e : TypeId} {p q : α → Prop} (h : Opens enc P w base spare held d e p) (hq : ∀ a, p a → q a) : Opens enc P w base spare held d e q := fun n cs x hx => by
  obtain ⟨a, h1, h2⟩ := h n cs x hx
  exact ⟨a, h1, hq a h2⟩
/-- A slice, at its length. -/
theorem open_C {α : Type} [Inhabited α] {d : Kd α} {t e : TypeId} {p : α → Prop} (ht : P.underlying t = some (.slice e)) (hs : P.cellsOf e = d.sz) (hd : Opens enc P w base spare held d e p) {fuel : Nat} {cs : List Value} {x : DataW H × List MemPlace} (h : DataW.trod enc P w base spare held fuel t cs = some x) :
    ∃ (A : Option Addr) (c : Nat) (l : List α), cs = [.slice A l.length c] ∧ l.length ≤ c ∧ l.length ≤ maxLen ∧ d.C w A l.length l ∧ ∀ a ∈ l, p a := by
  rcases open_slice ht h with ⟨rfl, _⟩ | ⟨a, len, cap, m, n, D, Pl, rfl, hb, hl, hm, hmm, rfl, hx⟩
  · exact ⟨none, 0, [], rfl, Nat.le_refl _, Nat.zero_le _, ⟨rfl, Nat.zero_le _, fun h0 => absurd h0 (Nat.lt_irrefl _)⟩, fun a ha => by cases ha⟩
  · have hlm : len ≤ m := by rw [hmm]; split <;> omega
    have each : ∀ i, i < len → ∃ b : α, ∃ cs', cs'.length = d.sz ∧ d.K w b cs' ∧ p b ∧ ∀ j u, cs'[j]? = some u → w.cell? (a.add (i * d.sz + j)) = some u := fun i hi => by
      obtain ⟨cs', h1, h2⟩ := hx i (by omega)
      rw [hs] at h1
      obtain ⟨_, h3, h4⟩ := World.cells?_some h1
      obtain ⟨b, h5, h6⟩ := hd n cs' _ h2
      refine ⟨b, cs', h3, h5, h6, fun j u hu => ?_⟩
      have hj : j < cs'.length := (List.getElem?_eq_some_iff.1 hu).1
      rw [← add_add, h4 j (by omega), hu]
    obtain ⟨f, hf⟩ := choose_lt each
    have hlen : ((List.range len).map f).length = len := by simp
    refine ⟨some a, cap, (List.range len).map f, by rw [hlen], by omega, by omega, ⟨rfl, by rw [hlen]; unfold maxLen at hm; omega, fun _ => ⟨a, rfl, fun j q hq => ?_⟩⟩, fun b hb' => ?_⟩
    · have hj : j < len := by
        have := (List.getElem?_eq_some_iff.1 hq).1
        omega
      rw [List.getElem?_map, List.getElem?_range hj] at hq
      obtain rfl : f j = q := by simpa using hq
      obtain ⟨cs', h1, h2, h3, h4⟩ := hf j hj
      exact ⟨cs', h1, h2, h4⟩
    · obtain ⟨j, hj, rfl⟩ := List.mem_map.1 hb'
      obtain ⟨cs', h1, h2, h3, h4⟩ := hf j (List.mem_range.1 hj)
      exact h3
end
end Go.Proofs.YtbgmfgndldnmcaaGreatDoor.Op
