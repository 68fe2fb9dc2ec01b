/- The plain law: what the program's Number computes answers as the statement says. -/
import Derived.Test.YtfhlmmmhcpkjnaaGreatDoorPd
import Derived.Test.YtfhlmmmhcpkjnaaGreatDoorWp
set_option linter.unusedVariables false
namespace Go.Proofs.YtfhlmmmhcpkjnaaGreatDoor.Pl
open Go.RowKit Go.Proofs.YtfhlmmmhcpkjnaaGreatDoorW.PrintWords Go.Proofs.YtfhlmmmhcpkjnaaGreatDoor.PCheckerNumbers
def vl (B : Nat) : List Int → Nat
  | [] => 0
  | x :: r => x.toNat + B * vl B r
def dg (B : Nat) (l : List Int) : Prop := ∀ x ∈ l, 0 ≤ x ∧ x < (B : Int)
def tz (l : List Int) : Prop := l.getLast? ≠ some 0
theorem vl_append (B : Nat) (a b : List Int) : vl B (a ++ b) = vl B a + B ^ a.length * vl B b := by
  induction a with
  | nil => simp [vl]
  | cons x a ih =>
    simp only [List.cons_append, vl, ih, List.length_cons, Nat.pow_succ, Nat.mul_add]
    rw [Nat.mul_comm (B ^ a.length) B, Nat.mul_assoc]
    omega
theorem vl_one (B : Nat) (x : Int) : vl B [x] = x.toNat := by simp [vl]
theorem vl_snoc (B : Nat) (a : List Int) (x : Int) : vl B (a ++ [x]) = vl B a + B ^ a.length * x.toNat := by rw [vl_append, vl_one]
theorem vl_zeros (B n : Nat) : vl B (List.replicate n 0) = 0 := by
  induction n with
  | zero => rfl
  | succ n ih => simp [List.replicate_succ, vl, ih]
theorem dg_nil (B : Nat) : dg B [] := fun x h => by cases h
theorem dg_append {B : Nat} {a b : List Int} (h : dg B a) (h' : dg B b) : dg B (a ++ b) := by
  intro x hx
  rcases List.mem_append.1 hx with hx | hx
  · exact h x hx
  · exact h' x hx
theorem dg_snoc {B : Nat} {a : List Int} {x : Int} (h : dg B a) (h0 : 0 ≤ x) (h1 : x < (B : Int)) : dg B (a ++ [x]) := by
  refine dg_append h fun y hy => ?_
  simp only [List.mem_singleton] at hy
  subst hy
  exact ⟨h0, h1⟩
theorem dg_take {B : Nat} {a : List Int} (h : dg B a) (n : Nat) : dg B (a.take n) := fun x hx => h x (List.mem_of_mem_take hx)
theorem dg_drop {B : Nat} {a : List Int} (h : dg B a) (n : Nat) : dg B (a.drop n) := fun x hx => h x (List.mem_of_mem_drop hx)
theorem dg_zeros {B : Nat} (hB : 0 < B) (n : Nat) : dg B (List.replicate n 0) := fun x hx => by
  obtain rfl := List.eq_of_mem_replicate hx
  omega
theorem dg_set {B : Nat} {a : List Int} (h : dg B a) (i : Nat) {x : Int} (h0 : 0 ≤ x) (h1 : x < (B : Int)) : dg B (a.set i x) := fun y hy => by
  rcases List.mem_or_eq_of_mem_set hy with hy | rfl
  · exact h y hy
  · exact ⟨h0, h1⟩
theorem rd_dg {B : Nat} {a : List Int} (h : dg B a) (hB : 0 < B) (i : Int) : 0 ≤ rd a i ∧ rd a i < (B : Int) := by
  unfold rd
  rw [List.getD_eq_getElem?_getD]
  cases hx : a[i.toNat]? with
  | none => simp; omega
  | some x =>
    simp only [Option.getD_some]
    exact h x (List.mem_of_getElem? hx)
theorem rd_nat (a : List Int) (i : Nat) : rd a (i : Int) = a.getD i 0 := by simp [rd]
theorem take_snoc (l : List Int) (i : Nat) (h : i < l.length) : l.take (i + 1) = l.take i ++ [rd l (i : Int)] := by
  rw [List.take_succ_eq_append_getElem h, rd_nat, List.getD_eq_getElem?_getD, List.getElem?_eq_getElem h]
  rfl
theorem vl_take_succ (B : Nat) (l : List Int) (i : Nat) (h : i < l.length) : vl B (l.take (i + 1)) = vl B (l.take i) + B ^ i * (rd l (i : Int)).toNat := by
  rw [take_snoc l i h, vl_snoc, List.length_take, Nat.min_eq_left (by omega)]
theorem vl_set (B : Nat) (l : List Int) (i : Nat) (x : Int) (h : i < l.length) : vl B (l.set i x) + B ^ i * (rd l (i : Int)).toNat = vl B l + B ^ i * x.toNat := by
  induction l generalizing i with
  | nil => simp at h
  | cons y l ih =>
    cases i with
    | zero => simp [vl, rd]; omega
    | succ i =>
      have := ih i (by simpa using h)
      simp only [List.set_cons_succ, vl, rd_nat, List.getD_cons_succ, Nat.pow_succ] at this ⊢
      have e : ∀ z, B ^ i * B * z = B * (B ^ i * z) := fun z => by rw [Nat.mul_comm (B ^ i) B, Nat.mul_assoc]
      rw [e, e]
      have h2 : B * (vl B (l.set i x) + B ^ i * (l.getD i 0).toNat) = B * (vl B l + B ^ i * x.toNat) := by rw [this]
      rw [Nat.mul_add, Nat.mul_add] at h2
      omega
theorem vl_lt {B : Nat} (hB : 0 < B) {l : List Int} (h : dg B l) : vl B l < B ^ l.length := by
  induction l with
  | nil => simp [vl]
  | cons x l ih =>
    have h1 := ih fun y hy => h y (List.mem_cons_of_mem _ hy)
    have h2 := h x (List.mem_cons_self ..)
    simp only [vl, List.length_cons, Nat.pow_succ]
    have h3 : B * (vl B l + 1) ≤ B * B ^ l.length := Nat.mul_le_mul_left _ h1
    rw [Nat.mul_add] at h3
    rw [Nat.mul_comm (B ^ l.length) B]
    omega
theorem vl_drop (B : Nat) (l : List Int) (i : Nat) : vl B l = vl B (l.take i) + B ^ (min i l.length) * vl B (l.drop i) := by
  have h := vl_append B (l.take i) (l.drop i)
  rwa [List.take_append_drop, List.length_take] at h
theorem vl_take_lt {B : Nat} (hB : 0 < B) {l : List Int} (h : dg B l) (i : Nat) : vl B (l.take i) < B ^ i := by
  refine Nat.lt_of_lt_of_le (vl_lt hB (dg_take h i)) (Nat.pow_le_pow_right hB ?_)
  rw [List.length_take]
  omega
structure IsN (B : Nat) (l : List Int) (n : Nat) : Prop where
  d : dg B l
  z : tz l
  v : vl B l = n
theorem IsN.nil (B : Nat) : IsN B [] 0 := ⟨dg_nil B, by simp [tz], rfl⟩
theorem tz_ge {B : Nat} (hB : 0 < B) {l : List Int} (hd : dg B l) (h : tz l) (hl : 0 < l.length) : B ^ (l.length - 1) ≤ vl B l := by
  obtain ⟨a, x, rfl⟩ : ∃ a x, l = a ++ [x] := ⟨l.dropLast, l.getLast (by intro e; simp [e] at hl), (List.dropLast_concat_getLast _).symm⟩
  have hx : x ≠ 0 := by
    intro e
    subst e
    simp [tz] at h
  have h0 := hd x (by simp)
  rw [vl_snoc]
  simp only [List.length_append, List.length_singleton, Nat.add_sub_cancel]
  have : 1 ≤ x.toNat := by omega
  have h2 : B ^ a.length * 1 ≤ B ^ a.length * x.toNat := Nat.mul_le_mul_left _ this
  omega
theorem IsN.length_le {B : Nat} (hB : 1 < B) {l : List Int} {n m : Nat} (h : IsN B l n) (hn : n < B ^ m) : l.length ≤ m := by
  rcases Nat.lt_or_ge m l.length with hlt | hge
  · exfalso
    have h1 := tz_ge (by omega) h.d h.z (by omega)
    rw [h.v] at h1
    have h2 : B ^ m ≤ B ^ (l.length - 1) := Nat.pow_le_pow_right (by omega) (by omega)
    omega
  · exact hge
theorem IsN.lt {B : Nat} (hB : 0 < B) {l : List Int} {n : Nat} (h : IsN B l n) : n < B ^ l.length := by
  rw [← h.v]
  exact vl_lt hB h.d
theorem IsN.pos {B : Nat} (hB : 0 < B) {l : List Int} {n : Nat} (h : IsN B l n) : 0 < l.length ↔ 0 < n := by
  constructor
  · intro hl
    have h1 := tz_ge hB h.d h.z hl
    rw [h.v] at h1
    exact Nat.lt_of_lt_of_le (Nat.pow_pos hB) h1
  · intro hn
    rcases Nat.eq_zero_or_pos l.length with h0 | h0
    · obtain rfl := List.eq_nil_of_length_eq_zero h0
      have := h.v
      simp [vl] at this
      omega
    · exact h0
theorem wrap64_id {x : Int} (h0 : -9223372036854775808 ≤ x) (h1 : x ≤ 9223372036854775807) : wrap64 x = x := by
  unfold wrap64
  omega
theorem u64_id {x : Int} (h0 : 0 ≤ x) (h1 : x < 18446744073709551616) : IntKind.u64.wrap x = x := by
  rw [IntKind.wrap_u64]
  omega
end Go.Proofs.YtfhlmmmhcpkjnaaGreatDoor.Pl
namespace Go.Proofs.YtfhlmmmhcpkjnaaGreatDoor.Pl
open Go.RowKit Go.Proofs.YtfhlmmmhcpkjnaaGreatDoorW.PrintWords Go.Proofs.YtfhlmmmhcpkjnaaGreatDoor.PCheckerNumbers
abbrev BW : Nat := 4294967296
theorem bw0 : 0 < BW := by decide
theorem bw1 : 1 < BW := by decide
theorem bwc : ((BW : Nat) : Int) = 4294967296 := rfl
theorem snoc_of (l : List Int) (h : 0 < l.length) : ∃ a x, l = a ++ [x] := ⟨l.dropLast, l.getLast (by intro e; simp [e] at h), (List.dropLast_concat_getLast _).symm⟩
theorem rd_last (a : List Int) (x : Int) : rd (a ++ [x]) (((a ++ [x]).length : Int) - 1) = x := by
  rw [show (((a ++ [x]).length : Int) - 1) = (a.length : Int) by simp, rd_nat]
  simp
theorem take_last (a : List Int) (x : Int) : (a ++ [x]).take ((((a ++ [x]).length : Int) - 1)).toNat = a := by
  rw [show ((((a ++ [x]).length : Int) - 1)).toNat = a.length by simp]
  simp
theorem trim_ev (m : Nat) : ∀ l : List Int, l.length = m → m < 4611686018427387904 → dg BW l → ∃ r, Ev (fun k => checker_natural_trim.f k l) r ∧ IsN BW r (vl BW l) := by
  induction m with
  | zero =>
    intro l hl _ hd
    obtain rfl := List.eq_nil_of_length_eq_zero hl
    exact ⟨[], Ev.step (f := fun _ => some []) (fun k => by simp [checker_natural_trim.f, checker_natural_trim.l0]) (Ev.now _), IsN.nil _⟩
  | succ m ih =>
    intro l hl hm hd
    obtain ⟨a, x, rfl⟩ := snoc_of l (by omega)
    have ha : a.length = m := by simpa using hl
    have hw : wrap64 (((a ++ [x]).length : Int) - 1) = ((a ++ [x]).length : Int) - 1 := wrap64_id (by omega) (by omega)
    by_cases hx : x = 0
    · subst hx
      obtain ⟨r, hr, hN⟩ := ih a ha (by omega) (fun y hy => hd y (by simp [hy]))
      refine ⟨r, Ev.step (f := fun k => checker_natural_trim.f k a) (fun k => ?_) hr, ?_⟩
      · simp only [checker_natural_trim.f, checker_natural_trim.l0]
        rw [if_pos (by omega), hw, if_pos (by omega), if_pos (by omega), rd_last, if_pos rfl, if_pos (by omega), take_last]
      · rw [vl_snoc]
        simpa using hN
    · refine ⟨a ++ [x], Ev.step (f := fun _ => some (a ++ [x])) (fun k => ?_) (Ev.now _), hd, by simpa [tz] using hx, rfl⟩
      simp only [checker_natural_trim.f, checker_natural_trim.l0]
      rw [if_pos (by omega), hw, if_pos (by omega), if_pos (by omega), rd_last, if_neg hx]
theorem trim_is (l : List Int) (hl : l.length < 4611686018427387904) (hd : dg BW l) : ∃ r, Ev (fun k => checker_natural_trim.f k l) r ∧ IsN BW r (vl BW l) := trim_ev l.length l rfl hl hd
/-! ### odd -/
theorem vl_head (B : Nat) (l : List Int) (h : 0 < l.length) : vl B l = (rd l 0).toNat + B * vl B l.tail := by
  cases l with
  | nil => simp at h
  | cons x l => simp [vl, rd]
theorem and_one_u32 (x : Int) (h0 : 0 ≤ x) (h1 : x < 4294967296) : Go.bits .and .u32 x 1 = x % 2 := by
  have := u32_and x 1 h0 h1 (by omega) (by omega)
  rw [this, show (1 : Int).toNat = 1 from rfl, Nat.and_one_is_mod]
  omega
theorem odd_is {l : List Int} {n : Nat} (h : IsN BW l n) : checker_natural_odd.f l = some (decide (n % 2 = 1)) := by
  unfold checker_natural_odd.f
  by_cases hl : (l.length : Int) > 0
  · rw [if_pos hl, if_pos (by omega)]
    have hr := rd_dg h.d bw0 0
    rw [bwc] at hr
    rw [and_one_u32 _ hr.1 hr.2]
    have hv := vl_head BW l (by omega)
    rw [h.v] at hv
    congr 1
    rw [Bool.eq_iff_iff]
    simp only [beq_iff_eq, decide_eq_true_eq]
    have : n = (rd l 0).toNat + 4294967296 * vl BW l.tail := hv
    omega
  · rw [if_neg hl]
    have : n = 0 := by
      have := h.pos bw0
      omega
    subst this
    rfl
/-! ### add -/
theorem add32_is (x y c : Int) (hx : 0 ≤ x ∧ x < 4294967296) (hy : 0 ≤ y ∧ y < 4294967296) (hc : 0 ≤ c ∧ c ≤ 1) :
    bits_Add32.f x y c = some ((x + y + c) % 4294967296, (x + y + c) / 4294967296) := by
  unfold bits_Add32.f
  rw [u64_id (x := x) (by omega) (by omega), u64_id (x := y) (by omega) (by omega), u64_id (x := c) (by omega) (by omega), u64_id (x := x + y) (by omega) (by omega), u64_id (x := x + y + c) (by omega) (by omega)]
  congr 2
  omega
def pc (l : List Int) (i : Nat) : Int := if i < l.length then rd l i else 0
theorem pc_dg {B : Nat} {l : List Int} (h : dg B l) (hB : 0 < B) (i : Nat) : 0 ≤ pc l i ∧ pc l i < (B : Int) := by
  unfold pc
  split
  · exact rd_dg h hB _
  · omega
theorem vl_take_pc (B : Nat) (l : List Int) (i : Nat) : vl B (l.take (i + 1)) = vl B (l.take i) + B ^ i * (pc l i).toNat := by
  unfold pc
  split
  · rename_i h
    exact vl_take_succ B l i h
  · rw [List.take_of_length_le (by omega), List.take_of_length_le (by omega)]
    simp
theorem add_loop (a b : List Int) (ha : dg BW a) (hb : dg BW b) (hl : a.length < 1099511627776) (d : Nat) :
    ∀ (i : Nat) (out : List Int) (c : Int), d = a.length - i → i ≤ a.length → dg BW out → out.length = i → 0 ≤ c ∧ c ≤ 1 → vl BW out + BW ^ i * c.toNat = vl BW (a.take i) + vl BW (b.take i) →
    ∃ r, Ev (fun k => checker_natural_add.l0 k b out c a (a.length : Int) (i : Int)) r ∧ IsN BW r (vl BW a + vl BW (b.take a.length)) := by
  induction d with
  | zero =>
    intro i out c hd hi hdo hlo hc hv
    obtain rfl : i = a.length := by omega
    have hdo' : dg BW (out ++ [c]) := dg_snoc hdo hc.1 (by rw [bwc]; omega)
    obtain ⟨r, hr, hN⟩ := trim_is (out ++ [c]) (by simp; omega) hdo'
    refine ⟨r, Ev.step (f := fun k => (checker_natural_trim.f k (out ++ [c])).bind fun t => some t) (fun k => ?_) (Ev.bind hr (Ev.now _)), ?_⟩
    · simp only [checker_natural_add.l0]
      rw [if_neg (by omega), if_pos (by omega)]
    · rw [vl_snoc, hlo, hv, List.take_of_length_le (Nat.le_refl _)] at hN
      exact hN
  | succ d ih =>
    intro i out c hd hi hdo hlo hc hv
    have hi' : i < a.length := by omega
    have hx := rd_dg ha bw0 (i : Int)
    have hy := pc_dg hb bw0 i
    rw [bwc] at hx hy
    obtain ⟨r, hr, hN⟩ := ih (i + 1) (out ++ [(rd a i + pc b i + c) % 4294967296]) ((rd a i + pc b i + c) / 4294967296) (by omega) (by omega) (dg_snoc hdo (by omega) (by rw [bwc]; omega)) (by simp [hlo]) (by omega) (by
      rw [vl_snoc, hlo, vl_take_succ BW a i hi', vl_take_pc BW b i, Nat.pow_succ, Nat.mul_assoc, Nat.add_assoc, ← Nat.mul_add]
      have e : (((rd a i + pc b i + c) % 4294967296).toNat + BW * ((rd a i + pc b i + c) / 4294967296).toNat) = (rd a i).toNat + (pc b i).toNat + c.toNat := by
        show _ + 4294967296 * _ = _
        omega
      rw [e, Nat.mul_add, Nat.mul_add]
      omega)
    refine ⟨r, Ev.step (f := fun k => checker_natural_add.l0 k b (out ++ [(rd a i + pc b i + c) % 4294967296]) ((rd a i + pc b i + c) / 4294967296) a (a.length : Int) ((i + 1 : Nat) : Int)) (fun k => ?_) hr, hN⟩
    simp only [checker_natural_add.l0]
    rw [if_pos (by omega), if_pos (by omega), if_pos (by omega), wrap64_id (x := (i : Int) + 1) (by omega) (by omega)]
    by_cases hib : (i : Int) < (b.length : Int)
    · have hp : pc b i = rd b i := by unfold pc; rw [if_pos (by omega)]
      rw [hp] at hy ⊢
      rw [if_pos hib, add32_is _ _ _ hx hy hc]
      simp only [Option.bind_some]
      rw [if_pos (by omega)]
      rfl
    · have hp : pc b i = 0 := by unfold pc; rw [if_neg (by omega)]
      rw [hp] at hy ⊢
      rw [if_neg hib, add32_is _ _ _ hx hy hc]
      simp only [Option.bind_some]
      rw [if_pos (by omega)]
      rfl
theorem add_long {a b : List Int} {x y : Nat} (ha : IsN BW a x) (hb : IsN BW b y) (hl : b.length ≤ a.length) (hl' : a.length < 1099511627776) :
    ∃ r, Ev (fun k => checker_natural_add.j0 k a b) r ∧ IsN BW r (x + y) := by
  obtain ⟨r, hr, hN⟩ := add_loop a b ha.d hb.d hl' a.length 0 [] 0 (by omega) (by omega) (dg_nil _) rfl (by omega) (by simp [vl])
  refine ⟨r, Ev.step (f := fun k => checker_natural_add.l0 k b [] 0 a (a.length : Int) ((0 : Nat) : Int)) (fun k => ?_) hr, ?_⟩
  · simp only [checker_natural_add.j0]
    rw [wrap64_id (x := (a.length : Int) + 1) (by omega) (by omega), if_pos (by omega), if_pos (by omega)]
    rfl
  · rw [List.take_of_length_le hl, ha.v, hb.v] at hN
    exact hN
theorem add_is {a b : List Int} {x y : Nat} (ha : IsN BW a x) (hb : IsN BW b y) (hl : a.length < 1099511627776) (hl' : b.length < 1099511627776) :
    ∃ r, Ev (fun k => checker_natural_add.f k a b) r ∧ IsN BW r (x + y) := by
  by_cases h : (a.length : Int) < (b.length : Int)
  · obtain ⟨r, hr, hN⟩ := add_long hb ha (by omega) hl'
    exact ⟨r, Ev.congr (fun k => by simp only [checker_natural_add.f]; rw [if_pos h]) hr, by rwa [Nat.add_comm]⟩
  · obtain ⟨r, hr, hN⟩ := add_long ha hb (by omega) hl
    exact ⟨r, Ev.congr (fun k => by simp only [checker_natural_add.f]; rw [if_neg h]) hr, hN⟩
end Go.Proofs.YtfhlmmmhcpkjnaaGreatDoor.Pl
namespace Go.Proofs.YtfhlmmmhcpkjnaaGreatDoor.Pl
open Go.RowKit Go.Proofs.YtfhlmmmhcpkjnaaGreatDoorW.PrintWords Go.Proofs.YtfhlmmmhcpkjnaaGreatDoor.PCheckerNumbers
/-! ### bits.Sub32 -/
theorem top_and (a b : Nat) : (a &&& b) / 2147483648 = (a / 2147483648) &&& (b / 2147483648) := by
  have := Nat.shiftRight_and_distrib (a := a) (b := b) (i := 31)
  simpa [Nat.shiftRight_eq_div_pow] using this
theorem top_or (a b : Nat) : (a ||| b) / 2147483648 = (a / 2147483648) ||| (b / 2147483648) := by
  have := Nat.shiftRight_or_distrib (a := a) (b := b) (i := 31)
  simpa [Nat.shiftRight_eq_div_pow] using this
theorem top_xor (a b : Nat) : (a ^^^ b) / 2147483648 = (a / 2147483648) ^^^ (b / 2147483648) := by
  have := Nat.shiftRight_xor_distrib (a := a) (b := b) (i := 31)
  simpa [Nat.shiftRight_eq_div_pow] using this
theorem borrow_bits (X Y D : Nat) (hX : X < 2) (hY : Y < 2) (hD : D < 2) :
    (((1 ^^^ X) &&& Y) ||| ((1 ^^^ (X ^^^ Y)) &&& D)) = if X < Y ∨ (X = Y ∧ D = 1) then 1 else 0 := by
  rcases (by omega : X = 0 ∨ X = 1) with rfl | rfl <;> rcases (by omega : Y = 0 ∨ Y = 1) with rfl | rfl <;> rcases (by omega : D = 0 ∨ D = 1) with rfl | rfl <;> rfl
theorem sub32_is (x y b : Int) (hx : 0 ≤ x ∧ x < 4294967296) (hy : 0 ≤ y ∧ y < 4294967296) (hb : 0 ≤ b ∧ b ≤ 1) :
    bits_Sub32.f x y b = some ((x - y - b) % 4294967296, if x < y + b then 1 else 0) := by
  unfold bits_Sub32.f
  have e : (((x - y) % 4294967296) - b) % 4294967296 = (x - y - b) % 4294967296 := by omega
  rw [e]
  obtain ⟨X, rfl⟩ := Int.eq_ofNat_of_zero_le hx.1
  obtain ⟨Y, rfl⟩ := Int.eq_ofNat_of_zero_le hy.1
  obtain ⟨D, hD⟩ := Int.eq_ofNat_of_zero_le (show 0 ≤ ((X : Int) - Y - b) % 4294967296 by omega)
  have hD' : D < 4294967296 := by omega
  rw [hD]
  have lt32 : ∀ {n : Nat}, n < 4294967296 → n < 2 ^ 32 := fun h => h
  have hxor : X ^^^ Y < 4294967296 := Nat.xor_lt_two_pow (n := 32) (lt32 (by omega)) (lt32 (by omega))
  have hn1 : 4294967295 ^^^ X < 4294967296 := Nat.xor_lt_two_pow (n := 32) (by decide) (lt32 (by omega))
  have hn2 : 4294967295 ^^^ (X ^^^ Y) < 4294967296 := Nat.xor_lt_two_pow (n := 32) (by decide) (lt32 hxor)
  have ha1 : (4294967295 ^^^ X) &&& Y < 4294967296 := Nat.and_lt_two_pow (n := 32) _ (lt32 (by omega))
  have ha2 : (4294967295 ^^^ (X ^^^ Y)) &&& D < 4294967296 := Nat.and_lt_two_pow (n := 32) _ (lt32 hD')
  have b1 : Go.bits .xor .u32 4294967295 (X : Int) = ((4294967295 ^^^ X : Nat) : Int) := by simpa using u32_xor 4294967295 (X : Int) (by omega) (by omega) (by omega) (by omega)
  have b2 : Go.bits .xor .u32 (X : Int) (Y : Int) = ((X ^^^ Y : Nat) : Int) := by simpa using u32_xor (X : Int) (Y : Int) (by omega) (by omega) (by omega) (by omega)
  have b3 : Go.bits .xor .u32 4294967295 ((X ^^^ Y : Nat) : Int) = ((4294967295 ^^^ (X ^^^ Y) : Nat) : Int) := by simpa using u32_xor 4294967295 ((X ^^^ Y : Nat) : Int) (by omega) (by omega) (by omega) (by omega)
  have b4 : Go.bits .and .u32 ((4294967295 ^^^ X : Nat) : Int) (Y : Int) = (((4294967295 ^^^ X) &&& Y : Nat) : Int) := by simpa using u32_and ((4294967295 ^^^ X : Nat) : Int) (Y : Int) (by omega) (by omega) (by omega) (by omega)
  have b5 : Go.bits .and .u32 ((4294967295 ^^^ (X ^^^ Y) : Nat) : Int) (D : Int) = (((4294967295 ^^^ (X ^^^ Y)) &&& D : Nat) : Int) := by simpa using u32_and ((4294967295 ^^^ (X ^^^ Y) : Nat) : Int) (D : Int) (by omega) (by omega) (by omega) (by omega)
  have b6 : Go.bits .or .u32 (((4294967295 ^^^ X) &&& Y : Nat) : Int) (((4294967295 ^^^ (X ^^^ Y)) &&& D : Nat) : Int) = (((((4294967295 ^^^ X) &&& Y) ||| ((4294967295 ^^^ (X ^^^ Y)) &&& D)) : Nat) : Int) := by
    simpa using u32_or (((4294967295 ^^^ X) &&& Y : Nat) : Int) (((4294967295 ^^^ (X ^^^ Y)) &&& D : Nat) : Int) (by omega) (by omega) (by omega) (by omega)
  rw [b1, b2, b3, b4, b5, b6]
  congr 2
  have ht : ((((4294967295 ^^^ X) &&& Y) ||| ((4294967295 ^^^ (X ^^^ Y)) &&& D)) / 2147483648 : Nat) = if X / 2147483648 < Y / 2147483648 ∨ (X / 2147483648 = Y / 2147483648 ∧ D / 2147483648 = 1) then 1 else 0 := by
    rw [top_or, top_and, top_and, top_xor, top_xor, top_xor, show 4294967295 / 2147483648 = 1 from rfl]
    exact borrow_bits _ _ _ (by omega) (by omega) (by omega)
  have hc : ((((((4294967295 ^^^ X) &&& Y) ||| ((4294967295 ^^^ (X ^^^ Y)) &&& D)) : Nat) : Int) / 2147483648) = ((((((4294967295 ^^^ X) &&& Y) ||| ((4294967295 ^^^ (X ^^^ Y)) &&& D)) / 2147483648 : Nat)) : Int) := by
    simp
  rw [hc, ht]
  by_cases h : (X : Int) < (Y : Int) + b
  · rw [if_pos h, if_pos (by omega)]
    rfl
  · rw [if_neg h, if_neg (by omega)]
    rfl
theorem sub_loop (a b : List Int) (ha : dg BW a) (hb : dg BW b) (hl : a.length < 1099511627776) (hbl : b.length ≤ a.length) (hle : vl BW b ≤ vl BW a) (d : Nat) :
    ∀ (i : Nat) (out : List Int) (c : Int), d = a.length - i → i ≤ a.length → dg BW out → out.length = i → 0 ≤ c ∧ c ≤ 1 → vl BW out + vl BW (b.take i) = vl BW (a.take i) + BW ^ i * c.toNat →
    ∃ r, Ev (fun k => checker_natural_sub.l0 k b out c a (a.length : Int) (i : Int)) r ∧ IsN BW r (vl BW a - vl BW b) := by
  induction d with
  | zero =>
    intro i out c hd hi hdo hlo hc hv
    obtain rfl : i = a.length := by omega
    obtain ⟨r, hr, hN⟩ := trim_is out (by omega) hdo
    refine ⟨r, Ev.step (f := fun k => (checker_natural_trim.f k out).bind fun t => some t) (fun k => ?_) (Ev.bind hr (Ev.now _)), ?_⟩
    · simp only [checker_natural_sub.l0]
      rw [if_neg (by omega)]
    · rw [List.take_of_length_le (Nat.le_refl _), List.take_of_length_le hbl] at hv
      have hlt := vl_lt bw0 hdo
      rw [hlo] at hlt
      rcases (by omega : c = 0 ∨ c = 1) with rfl | rfl
      · have : vl BW out = vl BW a - vl BW b := by
          simp at hv
          omega
        rwa [this] at hN
      · exfalso
        simp at hv
        omega
  | succ d ih =>
    intro i out c hd hi hdo hlo hc hv
    have hi' : i < a.length := by omega
    have hx := rd_dg ha bw0 (i : Int)
    have hy := pc_dg hb bw0 i
    rw [bwc] at hx hy
    have hcc : (0 : Int) ≤ (if rd a i < pc b i + c then 1 else 0) ∧ (if rd a i < pc b i + c then (1 : Int) else 0) ≤ 1 := by split <;> omega
    obtain ⟨r, hr, hN⟩ := ih (i + 1) (out ++ [(rd a i - pc b i - c) % 4294967296]) (if rd a i < pc b i + c then 1 else 0) (by omega) (by omega) (dg_snoc hdo (by omega) (by rw [bwc]; omega)) (by simp [hlo]) hcc (by
      rw [vl_snoc, hlo, vl_take_succ BW a i hi', vl_take_pc BW b i, Nat.pow_succ, Nat.mul_assoc]
      have e : ((rd a i - pc b i - c) % 4294967296).toNat + (pc b i).toNat + c.toNat = (rd a i).toNat + BW * (if rd a i < pc b i + c then (1 : Int) else 0).toNat := by
        show _ = _ + 4294967296 * _
        split <;> omega
      have e2 : BW ^ i * (((rd a i - pc b i - c) % 4294967296).toNat + (pc b i).toNat + c.toNat) = BW ^ i * ((rd a i).toNat + BW * (if rd a i < pc b i + c then (1 : Int) else 0).toNat) := by rw [e]
      rw [Nat.mul_add, Nat.mul_add, Nat.mul_add] at e2
      omega)
    refine ⟨r, Ev.step (f := fun k => checker_natural_sub.l0 k b (out ++ [(rd a i - pc b i - c) % 4294967296]) (if rd a i < pc b i + c then 1 else 0) a (a.length : Int) ((i + 1 : Nat) : Int)) (fun k => ?_) hr, hN⟩
    simp only [checker_natural_sub.l0]
    rw [if_pos (by omega), if_pos (by omega), if_pos (by omega), wrap64_id (x := (i : Int) + 1) (by omega) (by omega)]
    by_cases hib : (i : Int) < (b.length : Int)
    · have hp : pc b i = rd b i := by unfold pc; rw [if_pos (by omega)]
      rw [hp] at hy ⊢
      rw [if_pos hib, sub32_is _ _ _ hx hy hc]
      simp only [Option.bind_some]
      rw [if_pos (by omega)]
      rfl
    · have hp : pc b i = 0 := by unfold pc; rw [if_neg (by omega)]
      rw [hp] at hy ⊢
      rw [if_neg hib, sub32_is _ _ _ hx hy hc]
      simp only [Option.bind_some]
      rw [if_pos (by omega)]
      rfl
theorem IsN.len_le {a b : List Int} {x y : Nat} (ha : IsN BW a x) (hb : IsN BW b y) (h : y ≤ x) : b.length ≤ a.length :=
  hb.length_le bw1 (Nat.lt_of_le_of_lt h (ha.lt bw0))
theorem sub_is {a b : List Int} {x y : Nat} (ha : IsN BW a x) (hb : IsN BW b y) (h : y ≤ x) (hl : a.length < 1099511627776) :
    ∃ r, Ev (fun k => checker_natural_sub.f k a b) r ∧ IsN BW r (x - y) := by
  obtain ⟨r, hr, hN⟩ := sub_loop a b ha.d hb.d hl (ha.len_le hb h) (by rw [ha.v, hb.v]; exact h) a.length 0 [] 0 (by omega) (by omega) (dg_nil _) rfl (by omega) (by simp [vl])
  refine ⟨r, Ev.congr (fun k => ?_) hr, by rwa [ha.v, hb.v] at hN⟩
  simp only [checker_natural_sub.f]
  rw [if_pos (by omega), if_pos (by omega)]
  rfl
/-! ### compare -/
theorem cmp_loop (a b : List Int) (ha : dg BW a) (hb : dg BW b) (hl : a.length = b.length) (hll : a.length < 1099511627776) (n : Nat) :
    n ≤ a.length → a.drop n = b.drop n → ∃ c, Ev (fun k => checker_natural_compare.l0 k a b ((n : Int) - 1)) c ∧ ((c < 0 ↔ vl BW a < vl BW b) ∧ (c = 0 ↔ vl BW a = vl BW b)) := by
  induction n with
  | zero =>
    intro _ h
    refine ⟨0, Ev.step (f := fun _ => some 0) (fun k => ?_) (Ev.now _), ?_⟩
    · simp only [checker_natural_compare.l0]
      rw [if_neg (by omega)]
    · have : a = b := by simpa using h
      subst this
      simp
  | succ n ih =>
    intro hn h
    have hx := rd_dg ha bw0 (n : Int)
    have hy := rd_dg hb bw0 (n : Int)
    rw [bwc] at hx hy
    have key : ∀ (u v : List Int), dg BW u → u.length = v.length → n < u.length → u.drop (n + 1) = v.drop (n + 1) → rd u n < rd v n → 0 ≤ rd u n → vl BW u < vl BW v := by
      intro u v hu hlv hnu hd hr h0
      rw [vl_drop BW u (n + 1), vl_drop BW v (n + 1), hd, vl_take_succ BW u n hnu, vl_take_succ BW v n (by omega), ← hlv]
      have h1 := vl_take_lt bw0 hu n
      have h2 : BW ^ n * ((rd u n).toNat + 1) ≤ BW ^ n * (rd v n).toNat := Nat.mul_le_mul_left _ (by omega)
      rw [Nat.mul_add] at h2
      omega
    have e1 : ((n + 1 : Nat) : Int) - 1 = (n : Int) := by omega
    rw [e1]
    by_cases h1 : rd a n < rd b n
    · refine ⟨-1, Ev.step (f := fun _ => some (-1)) (fun k => ?_) (Ev.now _), ?_⟩
      · simp only [checker_natural_compare.l0]
        rw [if_pos (by omega), if_pos (by omega), if_pos (by omega), if_pos (by omega), if_pos h1]
      · have := key a b ha hl (by omega) h h1 hx.1
        omega
    · by_cases h2 : rd a n > rd b n
      · refine ⟨1, Ev.step (f := fun _ => some 1) (fun k => ?_) (Ev.now _), ?_⟩
        · simp only [checker_natural_compare.l0]
          rw [if_pos (by omega), if_pos (by omega), if_pos (by omega), if_pos (by omega), if_neg h1, if_pos h2]
        · have := key b a hb hl.symm (by omega) h.symm h2 hy.1
          omega
      · have hd : a.drop n = b.drop n := by
          rw [List.drop_eq_getElem_cons (show n < a.length by omega), List.drop_eq_getElem_cons (show n < b.length by omega), h]
          congr 1
          have e : rd a n = rd b n := by omega
          rw [rd_nat, rd_nat, List.getD_eq_getElem?_getD, List.getD_eq_getElem?_getD, List.getElem?_eq_getElem (show n < a.length by omega), List.getElem?_eq_getElem (show n < b.length by omega)] at e
          exact e
        obtain ⟨c, hc, hp⟩ := ih (by omega) hd
        refine ⟨c, Ev.step (f := fun k => checker_natural_compare.l0 k a b ((n : Int) - 1)) (fun k => ?_) hc, hp⟩
        simp only [checker_natural_compare.l0]
        rw [if_pos (by omega), if_pos (by omega), if_pos (by omega), if_pos (by omega), if_neg h1, if_neg h2, wrap64_id (x := (n : Int) - 1) (by omega) (by omega)]
theorem compare_is {a b : List Int} {x y : Nat} (ha : IsN BW a x) (hb : IsN BW b y) (hl : a.length < 1099511627776) (hl' : b.length < 1099511627776) :
    ∃ c, Ev (fun k => checker_natural_compare.f k a b) c ∧ ((c < 0 ↔ x < y) ∧ (c = 0 ↔ x = y)) := by
  by_cases h : a.length = b.length
  · obtain ⟨c, hc, hp⟩ := cmp_loop a b ha.d hb.d h hl a.length (Nat.le_refl _) (by simp [h])
    refine ⟨c, Ev.congr (fun k => ?_) hc, by rwa [ha.v, hb.v] at hp⟩
    simp only [checker_natural_compare.f]
    rw [if_pos (by omega), wrap64_id (x := (a.length : Int) - 1) (by omega) (by omega)]
  · refine ⟨(a.length : Int) - (b.length : Int), Ev.congr (fun k => ?_) (Ev.now _), ?_⟩
    · simp only [checker_natural_compare.f]
      rw [if_neg (by omega), wrap64_id (x := (a.length : Int) - (b.length : Int)) (by omega) (by omega)]
    · rcases Nat.lt_or_ge x y with hxy | hxy
      · have := hb.len_le ha (Nat.le_of_lt hxy)
        omega
      · have := ha.len_le hb hxy
        have hne : x ≠ y := by
          intro e
          have h1 := hb.len_le ha (by omega)
          omega
        omega
end Go.Proofs.YtfhlmmmhcpkjnaaGreatDoor.Pl
namespace Go.Proofs.YtfhlmmmhcpkjnaaGreatDoor.Pl
open Go.RowKit Go.Proofs.YtfhlmmmhcpkjnaaGreatDoorW.PrintWords Go.Proofs.YtfhlmmmhcpkjnaaGreatDoor.PCheckerNumbers
theorem rd_set_ne (l : List Int) (i j : Nat) (x : Int) (h : i ≠ j) : rd (l.set i x) (j : Int) = rd l (j : Int) := by
  rw [rd_nat, rd_nat, List.getD_eq_getElem?_getD, List.getD_eq_getElem?_getD, List.getElem?_set_ne h]
theorem rd_set_eq (l : List Int) (i : Nat) (x : Int) (h : i < l.length) : rd (l.set i x) (i : Int) = x := by
  rw [rd_nat, List.getD_eq_getElem?_getD, List.getElem?_set_self h]
  rfl
theorem mul_room {x y c o : Int} (hx : 0 ≤ x ∧ x < 4294967296) (hy : 0 ≤ y ∧ y < 4294967296) (hc : 0 ≤ c ∧ c < 4294967296) (ho : 0 ≤ o ∧ o < 4294967296) :
    0 ≤ x * y ∧ x * y + c + o < 18446744073709551616 := by
  have h1 : 0 ≤ x * y := Int.mul_nonneg hx.1 hy.1
  have h2 : x * y ≤ 4294967295 * 4294967295 := Int.mul_le_mul (by omega) (by omega) hy.1 (by omega)
  omega
theorem mul_inner (a b : List Int) (ha : dg BW a) (hb : dg BW b) (i : Nat) (hi : i < a.length) (hl : a.length + b.length < 1099511627776) (O : Nat) (R : List Int → Prop)
    (hfin : ∀ out : List Int, dg BW out → out.length = a.length + b.length → (∀ j, i + 1 + b.length ≤ j → rd out (j : Int) = 0) → vl BW out = O + (rd a i).toNat * vl BW b * BW ^ i →
      ∃ r, Ev (fun k => checker_natural_mul.l0 k b out a (a.length : Int) ((i + 1 : Nat) : Int)) r ∧ R r) (d : Nat) :
    ∀ (j : Nat) (out : List Int) (c : Int), d = b.length - j → j ≤ b.length → dg BW out → out.length = a.length + b.length → (∀ q, i + b.length ≤ q → rd out (q : Int) = 0) → 0 ≤ c ∧ c < 4294967296 →
      vl BW out + BW ^ (i + j) * c.toNat = O + (rd a i).toNat * vl BW (b.take j) * BW ^ i →
      ∃ r, Ev (fun k => checker_natural_mul.l1 k b out (i : Int) (rd a i) c a (a.length : Int) (i : Int) b (b.length : Int) (j : Int)) r ∧ R r := by
  have hx := rd_dg ha bw0 (i : Int)
  rw [bwc] at hx
  induction d with
  | zero =>
    intro j out c hd hj hdo hlo hz hc hv
    obtain rfl : j = b.length := by omega
    have hz0 : rd out ((i + b.length : Nat) : Int) = 0 := hz _ (Nat.le_refl _)
    have hs := vl_set BW out (i + b.length) c (by omega)
    rw [hz0] at hs
    obtain ⟨r, hr, hR⟩ := hfin (out.set (i + b.length) c) (dg_set hdo _ hc.1 (by rw [bwc]; omega)) (by simpa using hlo) (fun q hq => by rw [rd_set_ne _ _ _ _ (by omega)]; exact hz q (by omega)) (by
      rw [List.take_of_length_le (Nat.le_refl _)] at hv
      simp only [Int.toNat_zero, Nat.mul_zero, Nat.add_zero] at hs
      omega)
    refine ⟨r, Ev.step (f := fun k => checker_natural_mul.l0 k b (out.set (i + b.length) c) a (a.length : Int) ((i + 1 : Nat) : Int)) (fun k => ?_) hr, hR⟩
    simp only [checker_natural_mul.l1]
    rw [if_neg (by omega), wrap64_id (x := (i : Int) + (b.length : Int)) (by omega) (by omega), if_pos (by omega), if_pos (by omega), wrap64_id (x := (i : Int) + 1) (by omega) (by omega),
      show ((i : Int) + (b.length : Int)).toNat = i + b.length by omega, show c % 4294967296 = c by omega]
    rfl
  | succ d ih =>
    intro j out c hd hj hdo hlo hz hc hv
    have hj' : j < b.length := by omega
    have hy := rd_dg hb bw0 (j : Int)
    have ho := rd_dg hdo bw0 ((i + j : Nat) : Int)
    rw [bwc] at hy ho
    have hm := mul_room hx hy hc ho
    obtain ⟨s, hs⟩ : ∃ s, s = c + (rd a i * rd b j + rd out ((i + j : Nat) : Int)) := ⟨_, rfl⟩
    have hs0 : 0 ≤ s ∧ s < 18446744073709551616 := by omega
    have hset := vl_set BW out (i + j) (s % 4294967296) (by omega)
    obtain ⟨r, hr, hR⟩ := ih (j + 1) (out.set (i + j) (s % 4294967296)) (s / 4294967296) (by omega) (by omega) (dg_set hdo _ (by omega) (by rw [bwc]; omega)) (by simpa using hlo)
      (fun q hq => by rw [rd_set_ne _ _ _ _ (by omega)]; exact hz q hq) (by omega) (by
        rw [vl_take_succ BW b j hj', show i + (j + 1) = (i + j) + 1 by omega, Nat.pow_succ, Nat.mul_add, Nat.add_mul, Nat.mul_assoc (BW ^ (i + j))]
        have e : (s % 4294967296).toNat + BW * (s / 4294967296).toNat = c.toNat + (rd a i).toNat * (rd b j).toNat + (rd out ((i + j : Nat) : Int)).toNat := by
          have h1 : (rd a i).toNat * (rd b j).toNat = (rd a i * rd b j).toNat := by rw [Int.toNat_mul hx.1 hy.1]
          show _ + 4294967296 * _ = _
          rw [h1]
          omega
        have e2 : BW ^ (i + j) * ((s % 4294967296).toNat + BW * (s / 4294967296).toNat) = BW ^ (i + j) * (c.toNat + (rd a i).toNat * (rd b j).toNat + (rd out ((i + j : Nat) : Int)).toNat) := by rw [e]
        have e3 : (rd a i).toNat * (BW ^ j * (rd b j).toNat) * BW ^ i = BW ^ (i + j) * ((rd a i).toNat * (rd b j).toNat) := by
          rw [Nat.pow_add]
          simp only [Nat.mul_comm, Nat.mul_left_comm, Nat.mul_assoc]
        rw [e3]
        rw [Nat.mul_add, Nat.mul_add, Nat.mul_add] at e2
        omega)
    refine ⟨r, Ev.step (f := fun k => checker_natural_mul.l1 k b (out.set (i + j) (s % 4294967296)) (i : Int) (rd a i) (s / 4294967296) a (a.length : Int) (i : Int) b (b.length : Int) ((j + 1 : Nat) : Int)) (fun k => ?_) hr, hR⟩
    simp only [checker_natural_mul.l1]
    have ho' : rd out ((i : Int) + (j : Int)) = rd out ((i + j : Nat) : Int) := by rw [Int.natCast_add]
    rw [if_pos (by omega), if_pos (by omega), if_pos (by omega), wrap64_id (x := (i : Int) + (j : Int)) (by omega) (by omega), if_pos (by omega), if_pos (by omega), wrap64_id (x := (j : Int) + 1) (by omega) (by omega), ho',
      u64_id (x := rd a i) (by omega) (by omega), u64_id (x := rd b j) (by omega) (by omega), u64_id (x := rd out ((i + j : Nat) : Int)) (by omega) (by omega), u64_id (x := rd a i * rd b j) (by omega) (by omega),
      u64_id (x := rd a i * rd b j + rd out ((i + j : Nat) : Int)) (by omega) (by omega), ← hs, u64_id (x := s) (by omega) (by omega), show ((i : Int) + (j : Int)).toNat = i + j by omega]
    rfl
theorem mul_outer (a b : List Int) (ha : dg BW a) (hb : dg BW b) (hl : a.length + b.length < 1099511627776) (d : Nat) :
    ∀ (i : Nat) (out : List Int), d = a.length - i → i ≤ a.length → dg BW out → out.length = a.length + b.length → (∀ q, i + b.length ≤ q → rd out (q : Int) = 0) → vl BW out = vl BW (a.take i) * vl BW b →
      ∃ r, Ev (fun k => checker_natural_mul.l0 k b out a (a.length : Int) (i : Int)) r ∧ IsN BW r (vl BW a * vl BW b) := by
  induction d with
  | zero =>
    intro i out hd hi hdo hlo hz hv
    obtain rfl : i = a.length := by omega
    obtain ⟨r, hr, hN⟩ := trim_is out (by omega) hdo
    refine ⟨r, Ev.step (f := fun k => (checker_natural_trim.f k out).bind fun t => some t) (fun k => ?_) (Ev.bind hr (Ev.now _)), ?_⟩
    · simp only [checker_natural_mul.l0]
      rw [if_neg (by omega)]
    · rw [List.take_of_length_le (Nat.le_refl _)] at hv
      rwa [hv] at hN
  | succ d ih =>
    intro i out hd hi hdo hlo hz hv
    have hi' : i < a.length := by omega
    obtain ⟨r, hr, hR⟩ := mul_inner a b ha hb i hi' hl (vl BW out) (fun r => IsN BW r (vl BW a * vl BW b)) (fun out' hd' hl' hz' hv' => by
      refine ih (i + 1) out' (by omega) (by omega) hd' hl' hz' ?_
      rw [hv', hv, vl_take_succ BW a i hi', Nat.add_mul]
      simp only [Nat.mul_comm, Nat.mul_left_comm]) b.length 0 out 0 (by omega) (by omega) hdo hlo hz (by omega) (by simp [vl])
    refine ⟨r, Ev.step (f := fun k => checker_natural_mul.l1 k b out (i : Int) (rd a i) 0 a (a.length : Int) (i : Int) b (b.length : Int) ((0 : Nat) : Int)) (fun k => ?_) hr, hR⟩
    simp only [checker_natural_mul.l0]
    rw [if_pos (by omega), if_pos (by omega), if_pos (by omega)]
    rfl
theorem mul_is {a b : List Int} {x y : Nat} (ha : IsN BW a x) (hb : IsN BW b y) (hl : a.length + b.length < 1099511627776) :
    ∃ r, Ev (fun k => checker_natural_mul.f k a b) r ∧ IsN BW r (x * y) := by
  obtain ⟨r, hr, hN⟩ := mul_outer a b ha.d hb.d hl a.length 0 (List.replicate (a.length + b.length) 0) (by omega) (by omega) (dg_zeros bw0 _) (by simp) (fun q _ => by
    rw [rd_nat, List.getD_eq_getElem?_getD, List.getElem?_replicate]
    split <;> rfl) (by rw [vl_zeros]; simp [vl])
  refine ⟨r, Ev.congr (fun k => ?_) hr, by rwa [ha.v, hb.v] at hN⟩
  simp only [checker_natural_mul.f]
  rw [wrap64_id (x := (a.length : Int) + (b.length : Int)) (by omega) (by omega), if_pos (by omega), if_pos (by omega), show ((a.length : Int) + (b.length : Int)).toNat = a.length + b.length by omega]
  rfl
/-! ### half -/
theorem or_high (u w : Nat) (hu : u < 2147483648) : u ||| (w * 2147483648) = u + w * 2147483648 := by
  have h : 2147483648 * w + u = 2147483648 * w ||| u := Nat.two_pow_add_eq_or_of_lt (i := 31) hu w
  rw [Nat.or_comm, Nat.mul_comm w, ← h]
  omega
theorem half_or (u x : Int) (hu : 0 ≤ u ∧ u < 2147483648) (hx : 0 ≤ x ∧ x < 4294967296) : Go.bits .or .u32 u ((x * 2147483648) % 4294967296) = u + x % 2 * 2147483648 := by
  rw [u32_or u _ (by omega) (by omega) (by omega) (by omega)]
  have e : ((x * 2147483648) % 4294967296).toNat = (x % 2).toNat * 2147483648 := by omega
  rw [e, or_high u.toNat _ (by omega)]
  omega
theorem half_step (k : Nat) (a out : List Int) (i : Nat) (hi' : i < a.length) (hlo : out.length = a.length) :
    checker_natural_half.l0 (k + 1) a out a (a.length : Int) (i : Int) = (some (out.set i ((rd a i) / 2) : List Int)).bind fun y184 => (if (wrap64 ((i : Int) + 1)) < (a.length : Int) then (if 0 ≤ (wrap64 ((i : Int) + 1)) then (checker_natural_half.l0 k a (y184.set i (Go.bits .or .u32 (rd y184 i) (((rd a (wrap64 ((i : Int) + 1))) * 2147483648) % 4294967296))) a (a.length : Int) (wrap64 ((i : Int) + 1))) else (none)) else (checker_natural_half.l0 k a y184 a (a.length : Int) (wrap64 ((i : Int) + 1)))) := by
  rw [checker_natural_half.l0]
  rw [if_pos (by omega), if_pos (by omega), if_pos (by omega), if_pos (by omega)]
  rfl
theorem half_loop (a : List Int) (ha : dg BW a) (hl : a.length < 1099511627776) (d : Nat) :
    ∀ (i : Nat) (out : List Int), d = a.length - i → i ≤ a.length → dg BW out → out.length = a.length → (∀ q, i ≤ q → rd out (q : Int) = 0) → 2 * vl BW out + vl BW a % 2 = vl BW (a.take i) + (if i < a.length then BW ^ i * ((rd a i).toNat % 2) else 0) →
      ∃ r, Ev (fun k => checker_natural_half.l0 k a out a (a.length : Int) (i : Int)) r ∧ IsN BW r (vl BW a / 2) := by
  induction d with
  | zero =>
    intro i out hd hi hdo hlo hz hv
    obtain rfl : i = a.length := by omega
    obtain ⟨r, hr, hN⟩ := trim_is out (by omega) hdo
    refine ⟨r, Ev.step (f := fun k => (checker_natural_trim.f k out).bind fun t => some t) (fun k => ?_) (Ev.bind hr (Ev.now _)), ?_⟩
    · simp only [checker_natural_half.l0]
      rw [if_neg (by omega)]
    · rw [List.take_of_length_le (Nat.le_refl _), if_neg (by omega)] at hv
      have : vl BW out = vl BW a / 2 := by omega
      rwa [this] at hN
  | succ d ih =>
    intro i out hd hi hdo hlo hz hv
    have hi' : i < a.length := by omega
    have hx := rd_dg ha bw0 (i : Int)
    have hy := rd_dg ha bw0 ((i + 1 : Nat) : Int)
    rw [bwc] at hx hy
    rw [if_pos hi'] at hv
    obtain ⟨nx, hnx⟩ : ∃ nx : Int, nx = if i + 1 < a.length then rd a ((i + 1 : Nat) : Int) % 2 else 0 := ⟨_, rfl⟩
    have hn01 : 0 ≤ nx ∧ nx < 2 := by rw [hnx]; split <;> omega
    obtain ⟨s, hs⟩ : ∃ s, s = rd a i / 2 + nx * 2147483648 := ⟨_, rfl⟩
    have hset := vl_set BW out i s (by omega)
    rw [hz i (Nat.le_refl _)] at hset
    obtain ⟨r, hr, hN⟩ := ih (i + 1) (out.set i s) (by omega) (by omega) (dg_set hdo _ (by omega) (by rw [bwc]; omega)) (by simpa using hlo) (fun q hq => by rw [rd_set_ne _ _ _ _ (by omega)]; exact hz q (by omega)) (by
      rw [vl_take_succ BW a i hi']
      have e : (if i + 1 < a.length then BW ^ (i + 1) * ((rd a ((i + 1 : Nat) : Int)).toNat % 2) else 0) = BW ^ i * (BW * nx.toNat) := by
        rw [hnx]
        by_cases h : i + 1 < a.length
        · rw [if_pos h, if_pos h, Nat.pow_succ, Nat.mul_assoc, show (rd a ((i + 1 : Nat) : Int) % 2).toNat = (rd a ((i + 1 : Nat) : Int)).toNat % 2 by omega]
        · rw [if_neg h, if_neg h, Int.toNat_zero, Nat.mul_zero, Nat.mul_zero]
      rw [e]
      have e2 : 2 * s.toNat + (rd a i).toNat % 2 = (rd a i).toNat + BW * nx.toNat := by
        show _ = _ + 4294967296 * _
        omega
      have e3 : BW ^ i * (2 * s.toNat + (rd a i).toNat % 2) = BW ^ i * ((rd a i).toNat + BW * nx.toNat) := by rw [e2]
      rw [Nat.mul_add, Nat.mul_add, Nat.mul_left_comm] at e3
      simp only [Int.toNat_zero, Nat.mul_zero, Nat.add_zero] at hset
      omega)
    refine ⟨r, Ev.step (f := fun k => checker_natural_half.l0 k a (out.set i s) a (a.length : Int) ((i + 1 : Nat) : Int)) (fun k => ?_) hr, hN⟩
    show checker_natural_half.l0 (k + 1) a out a (a.length : Int) (i : Int) = _
    rw [half_step k a out i hi' hlo, Option.bind_some, wrap64_id (x := (i : Int) + 1) (by omega) (by omega)]
    by_cases h1 : (i : Int) + 1 < (a.length : Int)
    · rw [if_pos h1, if_pos (by omega), rd_set_eq _ _ _ (by omega), List.set_set, show (i : Int) + 1 = ((i + 1 : Nat) : Int) by omega, half_or _ _ (by omega) hy]
      rw [if_pos (show i + 1 < a.length by omega)] at hnx
      rw [hs, hnx]
    · rw [if_neg h1]
      rw [if_neg (show ¬ i + 1 < a.length by omega)] at hnx
      rw [hs, hnx]
      simp
theorem half_is {a : List Int} {x : Nat} (ha : IsN BW a x) (hl : a.length < 1099511627776) :
    ∃ r, Ev (fun k => checker_natural_half.f k a) r ∧ IsN BW r (x / 2) := by
  obtain ⟨r, hr, hN⟩ := half_loop a ha.d hl a.length 0 (List.replicate a.length 0) (by omega) (by omega) (dg_zeros bw0 _) (by simp) (fun q _ => by
    rw [rd_nat, List.getD_eq_getElem?_getD, List.getElem?_replicate]
    split <;> rfl) (by
    rw [vl_zeros]
    simp only [List.take_zero, vl, Nat.pow_zero, Nat.one_mul, Nat.mul_zero, Nat.zero_add]
    split
    · rename_i h
      have h1 := vl_head BW a h
      have h2 : vl BW a = (rd a 0).toNat + 4294967296 * vl BW a.tail := h1
      have h3 : rd a ((0 : Nat) : Int) = rd a 0 := rfl
      rw [h3]
      omega
    · rename_i h
      have : a = [] := List.eq_nil_of_length_eq_zero (by omega)
      subst this
      rfl)
  refine ⟨r, Ev.congr (fun k => ?_) hr, by rwa [ha.v] at hN⟩
  simp only [checker_natural_half.f]
  rw [if_pos (by omega), if_pos (by omega), show ((a.length : Int)).toNat = a.length by omega]
  rfl
end Go.Proofs.YtfhlmmmhcpkjnaaGreatDoor.Pl
namespace Go.Proofs.YtfhlmmmhcpkjnaaGreatDoor.Pl
open Go.RowKit Go.Proofs.YtfhlmmmhcpkjnaaGreatDoorW.PrintWords Go.Proofs.YtfhlmmmhcpkjnaaGreatDoor.PCheckerNumbers
def BIG : Nat := BW ^ 250
theorem two_two (a b : Nat) : (2 ^ a) ^ b * 2 = 2 ^ (a * b + 1) := by rw [Nat.pow_succ, Nat.pow_mul]
theorem big_two : ∃ m, BIG * 2 = 2 ^ m ∧ m < 100000 := ⟨_, two_two 32 250, by decide⟩
theorem IsN.len {a : List Int} {x : Nat} (h : IsN BW a x) (hx : x < BIG) : a.length ≤ 1000 := Nat.le_trans (h.length_le bw1 hx) (by decide)
theorem IsN.short {a : List Int} {x : Nat} (h : IsN BW a x) (hx : x < BIG) : a.length < 1099511627776 := Nat.lt_of_le_of_lt (h.len hx) (by omega)
theorem gcd_half_l (x y : Nat) (hx : x % 2 = 0) (hy : y % 2 = 1) : Nat.gcd (x / 2) y = Nat.gcd x y := by
  have h : Nat.Coprime 2 y := by
    unfold Nat.Coprime
    rw [Nat.gcd_rec, hy]
    rfl
  have := Nat.Coprime.gcd_mul_left_cancel (x / 2) h
  rw [← this, show 2 * (x / 2) = x by omega]
theorem gcd_half_r (x y : Nat) (hx : x % 2 = 1) (hy : y % 2 = 0) : Nat.gcd x (y / 2) = Nat.gcd x y := by
  rw [Nat.gcd_comm x, Nat.gcd_comm x, gcd_half_l y x hy hx]
theorem gcd_half_b (x y : Nat) (hx : x % 2 = 0) (hy : y % 2 = 0) : Nat.gcd x y = Nat.gcd (x / 2) (y / 2) * 2 := by
  have := Nat.gcd_mul_left 2 (x / 2) (y / 2)
  rw [show 2 * (x / 2) = x by omega, show 2 * (y / 2) = y by omega] at this
  omega
theorem gcd_l4 (s : Nat) (hs : s < 1099511627776) (d : Nat) : ∀ (i : Nat) (b : List Int) (y : Nat), d = s - i → i ≤ s → IsN BW b y → y * 2 ^ d < BIG →
    ∃ r, Ev (fun k => checker_natural_gcd.l4 k b (s : Int) (i : Int)) r ∧ IsN BW r (y * 2 ^ d) := by
  induction d with
  | zero =>
    intro i b y hd hi hb hy
    refine ⟨b, Ev.step (f := fun _ => some b) (fun k => ?_) (Ev.now _), by simpa using hb⟩
    simp only [checker_natural_gcd.l4]
    rw [if_neg (by omega)]
  | succ d ih =>
    intro i b y hd hi hb hy
    have h2 : 0 < 2 ^ d := Nat.pow_pos (by omega)
    have e : (y + y) * 2 ^ d = y * 2 ^ (d + 1) := by
      rw [Nat.pow_succ, ← Nat.mul_two, Nat.mul_assoc, Nat.mul_comm 2]
    have h1 : y ≤ y * 2 ^ (d + 1) := Nat.le_mul_of_pos_right _ (Nat.pow_pos (by omega))
    have hl := hb.short (Nat.lt_of_le_of_lt h1 hy)
    obtain ⟨t, ht, hN⟩ := add_is hb hb hl hl
    obtain ⟨r, hr, hR⟩ := ih (i + 1) t (y + y) (by omega) (by omega) hN (by rw [e]; exact hy)
    rw [e] at hR
    refine ⟨r, Ev.step (f := fun k => (checker_natural_add.f k b b).bind fun t218 => checker_natural_gcd.l4 k t218 (s : Int) ((i + 1 : Nat) : Int)) (fun k => ?_) (Ev.bind ht hr), hR⟩
    simp only [checker_natural_gcd.l4]
    rw [if_pos (by omega), wrap64_id (x := (i : Int) + 1) (by omega) (by omega)]
    rfl
theorem gcd_in (s : Nat) (hs : s < 1099511627776) (n : Nat) : ∀ (a b : List Int) (x y : Nat), x + y = n → IsN BW a x → IsN BW b y → 0 < y → x < BIG → y < BIG → x * 2 ^ s < BIG → y * 2 ^ s < BIG →
    ((x % 2 = 1 → 0 < x → ∃ r, Ev (fun k => checker_natural_gcd.l3 k a b (s : Int)) r ∧ IsN BW r (Nat.gcd x y * 2 ^ s)) ∧
     ((x % 2 = 1 ∨ y % 2 = 1) → 0 < x → ∃ r, Ev (fun k => checker_natural_gcd.l2 k a b (s : Int)) r ∧ IsN BW r (Nat.gcd x y * 2 ^ s)) ∧
     ((x % 2 = 1 ∨ y % 2 = 1) → ∃ r, Ev (fun k => checker_natural_gcd.l1 k a b (s : Int)) r ∧ IsN BW r (Nat.gcd x y * 2 ^ s))) := by
  induction n using Nat.strongRecOn with
  | _ n ih =>
    intro a b x y hn ha hb hy hxB hyB hxs hys
    have hal := ha.short hxB
    have hbl := hb.short hyB
    have h3 : (x % 2 = 1 → 0 < x → ∃ r, Ev (fun k => checker_natural_gcd.l3 k a b (s : Int)) r ∧ IsN BW r (Nat.gcd x y * 2 ^ s)) := by
      intro ho hx
      by_cases hoy : y % 2 = 1
      · obtain ⟨c, hc, hc1, hc2⟩ := compare_is ha hb hal hbl
        by_cases hlt : x < y
        · obtain ⟨t, ht, hN⟩ := sub_is hb ha (Nat.le_of_lt hlt) hbl
          have hm : (y - x) * 2 ^ s ≤ y * 2 ^ s := Nat.mul_le_mul_right _ (Nat.sub_le _ _)
          obtain ⟨r, hr, hR⟩ := (ih ((y - x) + x) (by omega) t a (y - x) x rfl hN ha hx (by omega) hxB (by omega) hxs).2.2 (Or.inr ho)
          rw [Nat.gcd_sub_self_left (Nat.le_of_lt hlt), Nat.gcd_comm y x] at hR
          have hq : Ev (fun k => (checker_natural_sub.f k b a).bind fun t212 => (checker_natural_gcd.l1 k t212 a (s : Int))) r := Ev.bind ht hr
          refine ⟨r, Ev.step (f := fun k => (checker_natural_compare.f k a b).bind fun t211 => (if t211 < 0 then ((checker_natural_sub.f k b a).bind fun t212 => (checker_natural_gcd.l1 k t212 a (s : Int))) else ((checker_natural_sub.f k a b).bind fun t215 => (checker_natural_gcd.l1 k t215 b (s : Int))))) (fun k => ?_) (Ev.bind hc (Ev.congr (fun k => ?_) hq)), hR⟩
          · simp only [checker_natural_gcd.l3]
            rw [odd_is hb, Option.bind_some, hoy, if_pos (by decide)]
          · rw [if_pos (hc1.2 hlt)]
        · obtain ⟨t, ht, hN⟩ := sub_is ha hb (by omega) hal
          have hm : (x - y) * 2 ^ s ≤ x * 2 ^ s := Nat.mul_le_mul_right _ (Nat.sub_le _ _)
          obtain ⟨r, hr, hR⟩ := (ih ((x - y) + y) (by omega) t b (x - y) y rfl hN hb hy (by omega) hyB (by omega) hys).2.2 (Or.inr hoy)
          rw [Nat.gcd_sub_self_left (show y ≤ x by omega)] at hR
          have hq : Ev (fun k => (checker_natural_sub.f k a b).bind fun t215 => (checker_natural_gcd.l1 k t215 b (s : Int))) r := Ev.bind ht hr
          refine ⟨r, Ev.step (f := fun k => (checker_natural_compare.f k a b).bind fun t211 => (if t211 < 0 then ((checker_natural_sub.f k b a).bind fun t212 => (checker_natural_gcd.l1 k t212 a (s : Int))) else ((checker_natural_sub.f k a b).bind fun t215 => (checker_natural_gcd.l1 k t215 b (s : Int))))) (fun k => ?_) (Ev.bind hc (Ev.congr (fun k => ?_) hq)), hR⟩
          · simp only [checker_natural_gcd.l3]
            rw [odd_is hb, Option.bind_some, hoy, if_pos (by decide)]
          · rw [if_neg (fun h => hlt (hc1.1 h))]
      · obtain ⟨t, ht, hN⟩ := half_is hb hbl
        have hm : (y / 2) * 2 ^ s ≤ y * 2 ^ s := Nat.mul_le_mul_right _ (Nat.div_le_self _ _)
        obtain ⟨r, hr, hR⟩ := (ih (x + y / 2) (by omega) a t x (y / 2) rfl ha hN (by omega) hxB (by omega) hxs (by omega)).1 ho hx
        rw [gcd_half_r x y ho (by omega)] at hR
        refine ⟨r, Ev.step (f := fun k => (checker_natural_half.f k b).bind fun t208 => (checker_natural_gcd.l3 k a t208 (s : Int))) (fun k => ?_) (Ev.bind ht hr), hR⟩
        simp only [checker_natural_gcd.l3]
        rw [odd_is hb, Option.bind_some, if_neg (by simpa using hoy)]
    have h2 : ((x % 2 = 1 ∨ y % 2 = 1) → 0 < x → ∃ r, Ev (fun k => checker_natural_gcd.l2 k a b (s : Int)) r ∧ IsN BW r (Nat.gcd x y * 2 ^ s)) := by
      intro ho hx
      by_cases hox : x % 2 = 1
      · obtain ⟨r, hr, hR⟩ := h3 hox hx
        refine ⟨r, Ev.step (f := fun k => checker_natural_gcd.l3 k a b (s : Int)) (fun k => ?_) hr, hR⟩
        simp only [checker_natural_gcd.l2]
        rw [odd_is ha, Option.bind_some, hox, if_pos (by decide)]
      · have hoy : y % 2 = 1 := by omega
        obtain ⟨t, ht, hN⟩ := half_is ha hal
        have hm : (x / 2) * 2 ^ s ≤ x * 2 ^ s := Nat.mul_le_mul_right _ (Nat.div_le_self _ _)
        obtain ⟨r, hr, hR⟩ := (ih (x / 2 + y) (by omega) t b (x / 2) y rfl hN hb hy (by omega) hyB (by omega) hys).2.1 (Or.inr hoy) (by omega)
        rw [gcd_half_l x y (by omega) hoy] at hR
        refine ⟨r, Ev.step (f := fun k => (checker_natural_half.f k a).bind fun t204 => (checker_natural_gcd.l2 k t204 b (s : Int))) (fun k => ?_) (Ev.bind ht hr), hR⟩
        simp only [checker_natural_gcd.l2]
        rw [odd_is ha, Option.bind_some, if_neg (by simpa using hox)]
    refine ⟨h3, h2, fun ho => ?_⟩
    by_cases hx : 0 < x
    · obtain ⟨r, hr, hR⟩ := h2 ho hx
      refine ⟨r, Ev.step (f := fun k => checker_natural_gcd.l2 k a b (s : Int)) (fun k => ?_) hr, hR⟩
      have := (ha.pos bw0).2 hx
      simp only [checker_natural_gcd.l1]
      rw [if_pos (by omega)]
    · obtain rfl : x = 0 := by omega
      obtain ⟨r, hr, hR⟩ := gcd_l4 s hs s 0 b y (by omega) (by omega) hb hys
      rw [Nat.gcd_zero_left]
      refine ⟨r, Ev.step (f := fun k => checker_natural_gcd.l4 k b (s : Int) ((0 : Nat) : Int)) (fun k => ?_) hr, hR⟩
      have : ¬ 0 < a.length := fun h => hx ((ha.pos bw0).1 h)
      simp only [checker_natural_gcd.l1]
      rw [if_neg (by omega)]
      rfl
theorem gcd_out (n : Nat) : ∀ (s : Nat) (a b : List Int) (x y : Nat), x + y = n → s + n < 1099511627776 ∨ (∃ m, x + y < 2 ^ m ∧ s + m < 1099511627776) → IsN BW a x → IsN BW b y → 0 < x → 0 < y → x * 2 ^ s < BIG → y * 2 ^ s < BIG →
    ∃ r, Ev (fun k => checker_natural_gcd.l0 k a b (s : Int)) r ∧ IsN BW r (Nat.gcd x y * 2 ^ s) := by
  induction n using Nat.strongRecOn with
  | _ n ih =>
    intro s a b x y hn hs ha hb hx hy hxs hys
    have h2 : 0 < 2 ^ s := Nat.pow_pos (by omega)
    have hxB : x < BIG := Nat.lt_of_le_of_lt (Nat.le_mul_of_pos_right _ h2) hxs
    have hyB : y < BIG := Nat.lt_of_le_of_lt (Nat.le_mul_of_pos_right _ h2) hys
    have hs' : s < 1099511627776 := by
      rcases hs with h | ⟨m, _, h⟩ <;> omega
    by_cases ho : x % 2 = 1 ∨ y % 2 = 1
    · obtain ⟨r, hr, hR⟩ := (gcd_in s hs' n a b x y hn ha hb hy hxB hyB hxs hys).2.2 ho
      refine ⟨r, Ev.step (f := fun k => checker_natural_gcd.j1 k a b (s : Int) false) (fun k => ?_) (Ev.step (f := fun k => checker_natural_gcd.l1 k a b (s : Int)) (fun k => ?_) hr), hR⟩
      · simp only [checker_natural_gcd.l0]
        rw [odd_is ha, Option.bind_some]
        by_cases hox : x % 2 = 1
        · rw [hox, if_pos (by decide)]
        · rw [if_neg (by simpa using hox), odd_is hb, Option.bind_some]
          have : y % 2 = 1 := by omega
          rw [this]
          rfl
      · simp only [checker_natural_gcd.j1]
        rw [if_neg (by decide)]
    · obtain ⟨t, ht, hT⟩ := half_is ha (ha.short hxB)
      obtain ⟨u, hu, hU⟩ := half_is hb (hb.short hyB)
      have e : ∀ z, z % 2 = 0 → z / 2 * 2 ^ (s + 1) = z * 2 ^ s := fun z hz => by
        rw [Nat.pow_succ, Nat.mul_comm (2 ^ s) 2, ← Nat.mul_assoc, show z / 2 * 2 = z by omega]
      obtain ⟨r, hr, hR⟩ := ih (x / 2 + y / 2) (by omega) (s + 1) t u (x / 2) (y / 2) rfl (by
        rcases hs with h | ⟨m, h1, h⟩
        · left
          omega
        · right
          cases m with
          | zero => simp at h1; omega
          | succ m => exact ⟨m, by rw [Nat.pow_succ] at h1; omega, by omega⟩) hT hU (by omega) (by omega) (by rw [e x (by omega)]; exact hxs) (by rw [e y (by omega)]; exact hys)
      have e3 : Nat.gcd (x / 2) (y / 2) * 2 ^ (s + 1) = Nat.gcd x y * 2 ^ s := by
        rw [gcd_half_b x y (by omega) (by omega), Nat.pow_succ, Nat.mul_comm (2 ^ s) 2, ← Nat.mul_assoc]
      rw [e3] at hR
      refine ⟨r, Ev.step (f := fun k => checker_natural_gcd.j1 k a b (s : Int) true) (fun k => ?_) (Ev.step (f := fun k => (checker_natural_half.f k a).bind fun t197 => ((checker_natural_half.f k b).bind fun t200 => (checker_natural_gcd.l0 k t197 t200 ((s + 1 : Nat) : Int)))) (fun k => ?_) (Ev.bind ht (Ev.bind hu hr))), hR⟩
      · simp only [checker_natural_gcd.l0]
        rw [odd_is ha, Option.bind_some, if_neg (by simpa using fun h => ho (Or.inl h)), odd_is hb, Option.bind_some]
        have : decide (y % 2 = 1) = false := by simpa using fun h => ho (Or.inr h)
        rw [this]
        rfl
      · simp only [checker_natural_gcd.j1]
        rw [if_pos trivial, wrap64_id (x := (s : Int) + 1) (by omega) (by omega)]
        rfl
theorem gcd_is {a b : List Int} {x y : Nat} (ha : IsN BW a x) (hb : IsN BW b y) (hx : 0 < x) (hy : 0 < y) (hxB : x < BIG) (hyB : y < BIG) :
    ∃ r, Ev (fun k => checker_natural_gcd.f k a b) r ∧ IsN BW r (Nat.gcd x y) := by
  obtain ⟨m, e, hm⟩ := big_two
  obtain ⟨r, hr, hR⟩ := gcd_out (x + y) 0 a b x y rfl (Or.inr ⟨m, by
    rw [← e]
    omega, by omega⟩) ha hb hx hy (by simpa using hxB) (by simpa using hyB)
  exact ⟨r, Ev.congr (fun k => rfl) hr, by simpa using hR⟩
end Go.Proofs.YtfhlmmmhcpkjnaaGreatDoor.Pl
namespace Go.Proofs.YtfhlmmmhcpkjnaaGreatDoor.Pl
open Go.RowKit Go.Proofs.YtfhlmmmhcpkjnaaGreatDoorW.PrintWords Go.Proofs.YtfhlmmmhcpkjnaaGreatDoor.PCheckerNumbers
def dvt (s : ByteArray) : Nat → Nat
  | 0 => 0
  | i + 1 => dvt s i * 10 + (bt s (i : Int) - 48).toNat
def isDig (s : ByteArray) : Prop := ∀ i : Nat, i < s.size → 48 ≤ bt s (i : Int) ∧ bt s (i : Int) ≤ 57
structure DOk (s : ByteArray) : Prop where
  pos : 0 < s.size
  len : s.size ≤ 200
  zero : bt s 0 = 48 → s.size ≤ 1
  dig : isDig s
theorem dvt_lt {s : ByteArray} (h : isDig s) (i : Nat) (hi : i ≤ s.size) : dvt s i < 10 ^ i := by
  induction i with
  | zero => simp [dvt]
  | succ i ih =>
    have h1 := ih (by omega)
    have h2 := h i (by omega)
    rw [dvt, Nat.pow_succ]
    omega
theorem ten_big {n m : Nat} (h : n < 10 ^ m) (hm : m ≤ 200) : n < BIG := by
  refine Nat.lt_of_lt_of_le h (Nat.le_trans (Nat.pow_le_pow_right (by omega) hm) (Nat.le_trans (Nat.pow_le_pow_left (m := BW) (by decide) 200) (Nat.pow_le_pow_right bw0 (by omega))))
theorem IsN.one {c : Int} (h0 : 0 < c) (h1 : c < (BW : Int)) : IsN BW [c] c.toNat :=
  ⟨fun x hx => by simp only [List.mem_singleton] at hx; subst hx; exact ⟨Int.le_of_lt h0, h1⟩, by simp [tz]; omega, vl_one _ _⟩
theorem dg_one {c : Int} (h0 : 0 ≤ c) (h1 : c < (BW : Int)) : dg BW [c] := fun x hx => by
  simp only [List.mem_singleton] at hx
  subst hx
  exact ⟨h0, h1⟩
theorem size_zero {s : ByteArray} : s.toList = [] ↔ s.size = 0 := by
  have e : s.toList = s.data.toList := ByteArray.toList_eq s
  have e2 : s.size = s.data.toList.length := by simp
  rw [e, e2]
  exact List.length_eq_zero_iff.symm
theorem digits_loop (s : ByteArray) (hs : s.size ≤ 200) (d : Nat) : ∀ (i : Nat) (l : List Int) (n : Nat), d = s.size - i → i ≤ s.size → IsN BW l n → n = dvt s i → n < 10 ^ i →
    ((∀ j, i ≤ j → j < s.size → 48 ≤ bt s (j : Int) ∧ bt s (j : Int) ≤ 57) → ∃ r, Ev (fun k => checker_digits.l0 k s l (s.size : Int) (i : Int)) (r, true) ∧ IsN BW r (dvt s s.size)) ∧
    (¬ (∀ j, i ≤ j → j < s.size → 48 ≤ bt s (j : Int) ∧ bt s (j : Int) ≤ 57) → Ev (fun k => checker_digits.l0 k s l (s.size : Int) (i : Int)) ([], false)) := by
  induction d with
  | zero =>
    intro i l n hd hi hl hn hn2
    obtain rfl : i = s.size := by omega
    refine ⟨fun _ => ⟨l, Ev.step (f := fun _ => some (l, true)) (fun k => ?_) (Ev.now _), by rwa [hn] at hl⟩, fun h => absurd (fun j h1 h2 => by omega) h⟩
    simp only [checker_digits.l0]
    rw [if_neg (by omega)]
  | succ d ih =>
    intro i l n hd hi hl hn hn2
    have hi' : i < s.size := by omega
    have hr := bt_range s (i : Int)
    have hbad : ¬ (48 ≤ bt s (i : Int) ∧ bt s (i : Int) ≤ 57) → Ev (fun k => checker_digits.l0 k s l (s.size : Int) (i : Int)) ([], false) := by
      intro hb
      refine Ev.step (f := fun k => checker_digits.j2 k s l (i : Int) (s.size : Int) (i : Int) true) (fun k => ?_) (Ev.step (f := fun _ => some ([], false)) (fun k => ?_) (Ev.now _))
      · simp only [checker_digits.l0]
        rw [if_pos (by omega), if_pos (by omega), if_pos (by omega)]
        by_cases h : bt s (i : Int) < 48
        · rw [if_pos h]
        · rw [if_neg h, decide_eq_true (by omega)]
      · simp only [checker_digits.j2]
        rw [if_pos trivial]
    by_cases hb : 48 ≤ bt s (i : Int) ∧ bt s (i : Int) ≤ 57
    · have hnB : n < BIG := ten_big hn2 (by omega)
      obtain ⟨t, ht, hT⟩ := mul_is hl (IsN.one (c := 10) (by omega) (by rw [bwc]; omega)) (by have := hl.len hnB; simp; omega)
      obtain ⟨u, hu, hU⟩ := trim_is [(bt s (i : Int) - 48) % 256] (by simp) (dg_one (by omega) (by rw [bwc]; omega))
      rw [vl_one] at hU
      have e2 : (bt s (i : Int) - 48) % 256 = bt s (i : Int) - 48 := by omega
      rw [e2] at hU hu
      have hpow : 10 ^ (i + 1) = 10 ^ i * 10 := Nat.pow_succ 10 i
      have hlt : n * 10 + (bt s (i : Int) - 48).toNat < 10 ^ (i + 1) := by omega
      have hB2 := ten_big hlt (by omega)
      have e10 : (10 : Int).toNat = 10 := rfl
      rw [e10] at hT
      obtain ⟨v, hv, hV⟩ := add_is hT hU (hT.short (by omega)) (hU.short (by omega))
      have hrest := ih (i + 1) v _ (by omega) (by omega) hV (by rw [dvt, hn]) hlt
      have hgo : ∀ r, Ev (fun k => checker_digits.l0 k s v (s.size : Int) ((i + 1 : Nat) : Int)) r → Ev (fun k => checker_digits.l0 k s l (s.size : Int) (i : Int)) r := by
        intro r hr'
        have hq : Ev (fun k => (checker_natural_mul.f k l ([10] : List Int)).bind fun t149 => ((checker_natural_trim.f k ([bt s (i : Int) - 48] : List Int)).bind fun t155 => ((checker_natural_add.f k t149 t155).bind fun t158 => (checker_digits.l0 k s t158 (s.size : Int) ((i + 1 : Nat) : Int))))) r := Ev.bind ht (Ev.bind hu (Ev.bind hv hr'))
        refine Ev.step (f := fun k => checker_digits.j2 k s l (i : Int) (s.size : Int) (i : Int) false) (fun k => ?_) (Ev.step (f := _) (fun k => ?_) hq)
        · simp only [checker_digits.l0]
          rw [if_pos (by omega), if_pos (by omega), if_pos (by omega), if_neg (by omega), decide_eq_false (by omega)]
        · simp only [checker_digits.j2]
          rw [if_neg (by decide), wrap64_id (x := (i : Int) + 1) (by omega) (by omega), e2]
          refine congrArg _ (funext fun t => ?_)
          rw [if_pos (by omega), if_pos (by omega)]
          rfl
      refine ⟨fun h => ?_, fun h => hgo _ (hrest.2 fun h' => h fun j h1 h2 => ?_)⟩
      · obtain ⟨r, hr1, hr2⟩ := hrest.1 fun j h1 h2 => h j (by omega) h2
        exact ⟨r, hgo _ hr1, hr2⟩
      · by_cases hj : j = i
        · subst hj
          exact hb
        · exact h' j (by omega) h2
    · exact ⟨fun h => absurd (h i (Nat.le_refl _) hi') hb, fun _ => hbad hb⟩
theorem digits_is (s : ByteArray) (hl : s.size < 1099511627776) : (DOk s → ∃ l, Ev (fun k => checker_digits.f k s) (l, true) ∧ IsN BW l (dvt s s.size)) ∧ (¬ DOk s → Ev (fun k => checker_digits.f k s) ([], false)) := by
  have hbad : Ev (fun k => checker_digits.j0 k s true) ([], false) := by
    refine Ev.step (f := fun _ => some ([], false)) (fun k => ?_) (Ev.now _)
    simp only [checker_digits.j0]
    rw [if_pos trivial]
  have hgood : ∀ r, Ev (fun k => checker_digits.l0 k s ([] : List Int) (s.size : Int) ((0 : Nat) : Int)) r → Ev (fun k => checker_digits.j0 k s false) r := fun r h => by
    refine Ev.step (f := _) (fun k => ?_) h
    simp only [checker_digits.j0]
    rw [if_neg (by decide)]
    rfl
  by_cases h1 : 0 < s.size
  · have h1' : ¬ s.toList = [] := fun h => by have := size_zero.1 h; omega
    by_cases h2 : s.size ≤ 200
    · by_cases h3 : bt s 0 = 48 → s.size ≤ 1
      · have hL := digits_loop s h2 s.size 0 [] 0 (by omega) (by omega) (IsN.nil _) rfl (by simp)
        have hf : ∀ k, checker_digits.f k s = checker_digits.j0 k s false := fun k => by
          simp only [checker_digits.f]
          rw [if_neg h1', if_neg (by omega), if_pos (by omega)]
          by_cases h4 : bt s 0 = 48
          · have := h3 h4
            rw [if_pos h4, decide_eq_false (by omega)]
          · rw [if_neg h4]
        constructor
        · intro h
          obtain ⟨r, hr, hR⟩ := hL.1 fun j _ hj => h.dig j hj
          exact ⟨r, Ev.congr hf (hgood _ hr), hR⟩
        · intro h
          exact Ev.congr hf (hgood _ (hL.2 fun hh => h ⟨h1, h2, h3, fun i hi => hh i (Nat.zero_le _) hi⟩))
      · refine ⟨fun h => absurd h.zero h3, fun _ => Ev.congr (fun k => ?_) hbad⟩
        simp only [checker_digits.f]
        have h4 : bt s 0 = 48 ∧ 1 < s.size := by
          by_cases h4 : bt s 0 = 48
          · exact ⟨h4, by rcases Nat.lt_or_ge 1 s.size with h | h; exact h; exact absurd (fun _ => h) h3⟩
          · exact absurd (fun h => absurd h h4) h3
        rw [if_neg h1', if_neg (by omega), if_pos (by omega), if_pos h4.1, decide_eq_true (by omega)]
    · refine ⟨fun h => absurd h.len h2, fun _ => Ev.congr (fun k => ?_) hbad⟩
      simp only [checker_digits.f]
      rw [if_neg h1', if_pos (by omega)]
  · refine ⟨fun h => absurd h.pos h1, fun _ => Ev.congr (fun k => ?_) hbad⟩
    simp only [checker_digits.f]
    rw [if_pos (size_zero.2 (by omega))]
end Go.Proofs.YtfhlmmmhcpkjnaaGreatDoor.Pl
namespace Go.Proofs.YtfhlmmmhcpkjnaaGreatDoor.Pl
open Go.RowKit Go.Proofs.YtfhlmmmhcpkjnaaGreatDoorW.PrintWords Go.Proofs.YtfhlmmmhcpkjnaaGreatDoor.PCheckerNumbers
theorem bt_list (s : ByteArray) (i : Nat) : bt s (i : Int) = ((s.data.toList.getD i 0).toNat : Int) := by
  unfold bt
  rw [List.getD_eq_getElem?_getD]
  by_cases h : i < s.size
  · rw [dif_pos (by simpa using h), List.getElem?_eq_getElem (by simpa using h)]
    rfl
  · rw [dif_neg (by simpa using h), List.getElem?_eq_none (by simpa using h)]
    rfl
theorem size_list (s : ByteArray) : s.data.toList.length = s.size := by simp
theorem ext_list (s : ByteArray) (a b : Nat) : (s.extract a b).data.toList = (s.data.toList.drop a).take (b - a) := by
  rw [ByteArray.data_extract, Array.toList_extract]
theorem ext_size (s : ByteArray) (a b : Nat) (hb : b ≤ s.size) : (s.extract a b).size = b - a := by
  rw [← size_list, ext_list, List.length_take, List.length_drop, size_list]
  omega
theorem ba_eq {s t : ByteArray} (h : s.data.toList = t.data.toList) : s = t := by
  cases s; cases t
  simp only at h
  rw [Array.toList_inj.1 h]
def ngB (s : ByteArray) : Bool := decide (0 < s.size ∧ bt s 0 = 45)
def bdy (s : ByteArray) : ByteArray := if ngB s = true then s.extract 1 s.size else s
def ix (t : ByteArray) : Int := Lib.indexByte t.data.toList 47
def numP (t : ByteArray) : ByteArray := if 0 ≤ ix t then t.extract 0 (ix t).toNat else t
def denP (t : ByteArray) : ByteArray := if 0 ≤ ix t then t.extract ((ix t).toNat + 1) t.size else ⟨#[]⟩
theorem ix_ge (t : ByteArray) : -1 ≤ ix t := Lib.indexByte_ge _ _
theorem ix_lt (t : ByteArray) : ix t < t.size := by
  have h0 := ix_ge t
  by_cases h : ix t = -1
  · omega
  · obtain ⟨o, ho⟩ : ∃ o : Nat, ix t = o := ⟨(ix t).toNat, by omega⟩
    have h1 := (Lib.indexByte_some ho).1
    have h2 := (List.getElem?_eq_some_iff.1 h1).1
    rw [size_list] at h2
    omega
theorem head_is (s : ByteArray) (h : 0 < s.size) (c : UInt8) : ((s.extract 0 1).toList == [c]) = decide (bt s 0 = (c.toNat : Int)) := by
  have e : bt s 0 = _ := bt_list s 0
  rw [ByteArray.toList_eq, ext_list, e]
  have h' := size_list s
  cases hl : s.data.toList with
  | nil =>
    rw [hl] at h'
    simp at h'
    omega
  | cons x r =>
    simp only [List.drop_zero, List.take_succ_cons, Nat.sub_zero, List.take_zero, List.getD_cons_zero]
    have : (x = c) ↔ ((x.toNat : Int) = (c.toNat : Int)) := by
      rw [Int.ofNat_inj, UInt8.toNat_inj]
    by_cases hx : x = c
    · subst hx; simp
    · rw [decide_eq_false (fun h => hx (this.2 h))]
      simpa using hx
theorem prefix_is (s : ByteArray) : strings_CutPrefix.f s (⟨#[45]⟩ : ByteArray) = some (bdy s, ngB s) := by
  have e1 : (⟨#[45]⟩ : ByteArray).size = 1 := rfl
  have e2 : (⟨#[45]⟩ : ByteArray).toList = [45] := ByteArray.toList_eq _
  simp only [strings_CutPrefix.f, stringslite_CutPrefix.f, stringslite_HasPrefix.f, e1, e2]
  by_cases h : 0 < s.size
  · rw [if_pos (by omega), if_pos (by omega), if_pos (by omega), Option.bind_some, show ((1 : Nat) : Int).toNat = 1 from rfl, head_is s h]
    by_cases hb : bt s 0 = 45
    · rw [if_pos (by simpa using hb), if_pos (by omega), if_pos (by omega), Option.bind_some]
      have : ngB s = true := by simp [ngB, h, hb]
      simp only [bdy, this]
      rfl
    · rw [if_neg (by simpa using hb), Option.bind_some]
      have : ngB s = false := by simp [ngB, hb]
      simp only [bdy, this]
      rfl
  · rw [if_neg (by omega), Option.bind_some]
    have : ngB s = false := by simp [ngB, h]
    simp only [bdy, this]
    rfl
theorem cut_is (t : ByteArray) (ht : t.size < 1099511627776) : strings_Cut.f t (⟨#[47]⟩ : ByteArray) = some (numP t, denP t, decide (0 ≤ ix t)) := by
  have e1 : (⟨#[47]⟩ : ByteArray).size = 1 := rfl
  have e2 : stringslite_Index.f t (⟨#[47]⟩ : ByteArray) = some (ix t) := rfl
  have h0 := ix_ge t
  have h1 := ix_lt t
  simp only [strings_Cut.f, stringslite_Cut.f, e1, e2, Option.bind_some]
  by_cases h : 0 ≤ ix t
  · rw [if_pos (by omega), if_pos h, if_pos (by omega), wrap64_id (x := ix t + ((1 : Nat) : Int)) (by omega) (by omega), if_pos (by omega), if_pos (by omega), Option.bind_some, decide_eq_true h]
    simp only [numP, denP, if_pos h]
    rw [show (ix t + ((1 : Nat) : Int)).toNat = (ix t).toNat + 1 by omega]
  · rw [if_neg (by omega), Option.bind_some, decide_eq_false h]
    simp only [numP, denP, if_neg h]
structure NOk (g : Bool) (N D : ByteArray) (two : Bool) : Prop where
  num : DOk N
  sign : g = true → dvt N N.size ≠ 0
  den : two = true → DOk D ∧ 1 < dvt D D.size ∧ dvt N N.size ≠ 0 ∧ Nat.gcd (dvt N N.size) (dvt D D.size) = 1
theorem compare_one {a : List Int} {x : Nat} (ha : IsN BW a x) (hx : x < BIG) : ∃ c, Ev (fun k => checker_natural_compare.f k a ([1] : List Int)) c ∧ ((c < 0 ↔ x < 1) ∧ (c = 0 ↔ x = 1)) := by
  have h := IsN.one (c := 1) (by omega) (by rw [bwc]; omega)
  exact compare_is ha h (ha.short hx) (by simp)
def nil4 : Bool × List Int × List Int × Bool := (false, ([] : List Int), ([] : List Int), false)
theorem read_j0 (g : Bool) (N D : ByteArray) (two : Bool) (l : List Int) (hD : D.size < 1099511627776) (hN : DOk N) (hl : IsN BW l (dvt N N.size)) (hs : g = true → dvt N N.size ≠ 0) :
    ∃ r, Ev (fun k => checker_read.j0 k g D two l false) r ∧ (r.2.2.2 = true ↔ NOk g N D two) := by
  have hxB : dvt N N.size < BIG := ten_big (dvt_lt hN.dig _ (Nat.le_refl _)) hN.len
  cases two with
  | false =>
    refine ⟨(g, l, [1], true), Ev.step (f := fun _ => some (g, l, [1], true)) (fun k => ?_) (Ev.now _), fun _ => ⟨hN, hs, fun h => by cases h⟩, fun _ => rfl⟩
    simp only [checker_read.j0]
    rw [if_neg (by decide), if_neg (by decide)]
  | true =>
    have hstep : ∀ k, checker_read.j0 (k + 1) g D true l false = (checker_digits.f k D).bind fun bt234 => (if bt234.2 = true then ((checker_natural_compare.f k bt234.1 (([1] : List Int))).bind fun t241 => (if t241 ≤ 0 then (some nil4) else (if (l.length : Int) = 0 then (some nil4) else ((checker_natural_gcd.f k l bt234.1).bind fun t242 => ((checker_natural_compare.f k t242 (([1] : List Int))).bind fun t248 => (if t248 = 0 then (some (g, l, bt234.1, true)) else (some nil4))))))) else (some nil4)) := fun k => by
      simp only [checker_read.j0]
      rw [if_neg (by decide), if_pos trivial]
      rfl
    by_cases hDO : DOk D
    · obtain ⟨m, hm, hM⟩ := (digits_is D hD).1 hDO
      have hyB : dvt D D.size < BIG := ten_big (dvt_lt hDO.dig _ (Nat.le_refl _)) hDO.len
      obtain ⟨c, hc, hc1, hc2⟩ := compare_one hM hyB
      by_cases h1 : 1 < dvt D D.size
      · by_cases h0 : dvt N N.size = 0
        · have hl0 : ¬ 0 < l.length := fun h => by have := (hl.pos bw0).1 h; omega
          refine ⟨nil4, Ev.step (f := _) hstep (Ev.bind hm (Ev.congr (fun k => if_pos rfl) (Ev.bind hc (Ev.congr (fun k => ?_) (Ev.now nil4))))), fun h => (by cases h), fun h => absurd h0 (h.den rfl).2.2.1⟩
          rw [if_neg (by omega), if_pos (by omega)]
        · have hl0 : 0 < l.length := (hl.pos bw0).2 (by omega)
          obtain ⟨q, hq, hQ⟩ := gcd_is hl hM (by omega) (by omega) hxB hyB
          have hqB : Nat.gcd (dvt N N.size) (dvt D D.size) < BIG := Nat.lt_of_le_of_lt (Nat.gcd_le_left _ (by omega)) hxB
          obtain ⟨z, hz, hz1, hz2⟩ := compare_one hQ hqB
          have hz' : Ev (fun k => (checker_natural_compare.f k q (([1] : List Int))).bind fun t248 => (if t248 = 0 then (some (g, l, m, true)) else (some nil4))) (if z = 0 then (g, l, m, true) else nil4) := Ev.bind hz (Ev.congr (fun k => by split <;> rfl) (Ev.now _))
          have hq' : Ev (fun k => (checker_natural_gcd.f k l m).bind fun t242 => ((checker_natural_compare.f k t242 (([1] : List Int))).bind fun t248 => (if t248 = 0 then (some (g, l, m, true)) else (some nil4)))) (if z = 0 then (g, l, m, true) else nil4) := Ev.bind hq hz'
          refine ⟨if z = 0 then (g, l, m, true) else nil4, Ev.step (f := _) hstep (Ev.bind hm (Ev.congr (fun k => if_pos rfl) (Ev.bind hc (Ev.congr (fun k => ?_) hq')))), ?_⟩
          · rw [if_neg (by omega), if_neg (by omega)]
          · constructor
            · intro h
              refine ⟨hN, hs, fun _ => ⟨hDO, h1, h0, ?_⟩⟩
              by_cases hz0 : z = 0
              · exact hz2.1 hz0
              · rw [if_neg hz0] at h
                cases h
            · intro h
              rw [if_pos (hz2.2 (h.den rfl).2.2.2)]
      · refine ⟨nil4, Ev.step (f := _) hstep (Ev.bind hm (Ev.congr (fun k => if_pos rfl) (Ev.bind hc (Ev.congr (fun k => ?_) (Ev.now nil4))))), fun h => (by cases h), fun h => absurd (h.den rfl).2.1 h1⟩
        rw [if_pos (by omega)]
    · have hm := (digits_is D hD).2 hDO
      refine ⟨nil4, Ev.step (f := _) hstep (Ev.bind hm (Ev.congr (fun k => if_neg (by decide)) (Ev.now nil4))), fun h => (by cases h), fun h => absurd (h.den rfl).1 hDO⟩
theorem bdy_size (s : ByteArray) : (bdy s).size ≤ s.size := by
  unfold bdy
  split
  · rw [ext_size _ _ _ (Nat.le_refl _)]
    omega
  · exact Nat.le_refl _
theorem numP_size (s : ByteArray) : (numP s).size ≤ s.size := by
  have := ix_lt s
  unfold numP
  split
  · rw [ext_size _ _ _ (by omega)]
    omega
  · exact Nat.le_refl _
theorem denP_size (s : ByteArray) : (denP s).size ≤ s.size := by
  have := ix_lt s
  unfold denP
  split
  · rw [ext_size _ _ _ (by omega)]
    omega
  · exact Nat.zero_le _
theorem number_is (s : ByteArray) (hl : s.size < 1099511627776) : ∃ r, Ev (fun k => checker_Number.f k s) r ∧ (r = true ↔ NOk (ngB s) (numP (bdy s)) (denP (bdy s)) (decide (0 ≤ ix (bdy s)))) := by
  have hb := bdy_size s
  have hn := numP_size (bdy s)
  have hd := denP_size (bdy s)
  have hrd : ∀ (b : Bool) (l : List Int) (r : Bool × List Int × List Int × Bool), Ev (fun k => checker_digits.f k (numP (bdy s))) (l, b) →
      Ev (fun k => checker_read.j0 k (ngB s) (denP (bdy s)) (decide (0 ≤ ix (bdy s))) l (if b = true then (if ngB s = true then ((l.length : Int) == 0) else false) else true)) r → Ev (fun k => checker_Number.f k s) r.2.2.2 := by
    intro b l r h1 h2
    have hf : ∀ k, checker_Number.f k s = ((checker_digits.f k (numP (bdy s))).bind fun bt227 => checker_read.j0 k (ngB s) (denP (bdy s)) (decide (0 ≤ ix (bdy s))) bt227.1 (if bt227.2 = true then (if ngB s = true then ((bt227.1.length : Int) == 0) else false) else true)).bind fun bt249 => some bt249.2.2.2 := fun k => by
      simp only [checker_Number.f, checker_read.f]
      rw [prefix_is, Option.bind_some, cut_is (bdy s) (by omega), Option.bind_some]
      refine congrArg (fun g => Option.bind g _) (congrArg _ (funext fun q => ?_))
      split
      · split <;> rfl
      · rfl
    exact Ev.congr hf (Ev.bind (Ev.bind h1 h2) (Ev.now _))
  have hbad : ∀ l, Ev (fun k => checker_read.j0 k (ngB s) (denP (bdy s)) (decide (0 ≤ ix (bdy s))) l true) nil4 := fun l => by
    refine Ev.step (f := fun _ => some nil4) (fun k => ?_) (Ev.now _)
    simp only [checker_read.j0]
    rw [if_pos trivial]
    rfl
  by_cases hN : DOk (numP (bdy s))
  · obtain ⟨l, h1, hL⟩ := (digits_is _ (by omega)).1 hN
    by_cases hg : ngB s = true ∧ dvt (numP (bdy s)) (numP (bdy s)).size = 0
    · have hl0 : ¬ 0 < l.length := fun h => by have := (hL.pos bw0).1 h; omega
      have := hrd true l _ h1 (Ev.congr (fun k => by rw [if_pos rfl, if_pos hg.1, show ((l.length : Int) == 0) = true from beq_iff_eq.2 (by omega)]) (hbad l))
      exact ⟨_, this, fun h => (by cases h), fun h => absurd hg.2 (h.sign hg.1)⟩
    · obtain ⟨r, hr, hR⟩ := read_j0 (ngB s) (numP (bdy s)) (denP (bdy s)) (decide (0 ≤ ix (bdy s))) l (by omega) hN hL (fun h h0 => hg ⟨h, h0⟩)
      refine ⟨_, hrd true l r h1 (Ev.congr (fun k => ?_) hr), hR⟩
      rw [if_pos rfl]
      by_cases hn : ngB s = true
      · have hl0 : 0 < l.length := (hL.pos bw0).2 (Nat.pos_of_ne_zero fun h => hg ⟨hn, h⟩)
        rw [if_pos hn, show ((l.length : Int) == 0) = false by simp; intro e; simp [e] at hl0]
      · rw [if_neg hn]
  · have := hrd false [] _ ((digits_is _ (by omega)).2 hN) (Ev.congr (fun k => by rw [if_neg (by decide)]) (hbad []))
    exact ⟨_, this, fun h => (by cases h), fun h => absurd h.num hN⟩
end Go.Proofs.YtfhlmmmhcpkjnaaGreatDoor.Pl
namespace Go.Proofs.YtfhlmmmhcpkjnaaGreatDoor.Pl
open Go.RowKit Go.Proofs.YtfhlmmmhcpkjnaaGreatDoorW.PrintWords Go.Proofs.YtfhlmmmhcpkjnaaGreatDoor.PCheckerNumbers
def D4 : Nat := 10000
theorem d40 : 0 < D4 := by decide
theorem d41 : 1 < D4 := by decide
theorem d4c : ((D4 : Nat) : Int) = 10000 := rfl
theorem cut_ev (m : Nat) : ∀ l : List Int, l.length = m → m < 4611686018427387904 → dg D4 l → ∃ r, Ev (fun k => klipperef01_cut.f k l) r ∧ IsN D4 r (vl D4 l) := by
  induction m with
  | zero =>
    intro l hl _ hd
    obtain rfl := List.eq_nil_of_length_eq_zero hl
    exact ⟨[], Ev.step (f := fun _ => some []) (fun k => by simp [klipperef01_cut.f, klipperef01_cut.l0]) (Ev.now _), IsN.nil _⟩
  | succ m ih =>
    intro l hl hm hd
    obtain ⟨a, x, rfl⟩ := snoc_of l (by omega)
    have ha : a.length = m := by simpa using hl
    have hw : wrap64 (((a ++ [x]).length : Int) - 1) = ((a ++ [x]).length : Int) - 1 := wrap64_id (by omega) (by omega)
    by_cases hx : x = 0
    · subst hx
      obtain ⟨r, hr, hN⟩ := ih a ha (by omega) (fun y hy => hd y (by simp [hy]))
      refine ⟨r, Ev.step (f := fun k => klipperef01_cut.f k a) (fun k => ?_) hr, ?_⟩
      · simp only [klipperef01_cut.f, klipperef01_cut.l0]
        rw [if_pos (by omega), hw, if_pos (by omega), if_pos (by omega), rd_last, if_pos rfl, if_pos (by omega), take_last]
      · rw [vl_snoc]
        simpa using hN
    · refine ⟨a ++ [x], Ev.step (f := fun _ => some (a ++ [x])) (fun k => ?_) (Ev.now _), hd, by simpa [tz] using hx, rfl⟩
      simp only [klipperef01_cut.f, klipperef01_cut.l0]
      rw [if_pos (by omega), hw, if_pos (by omega), if_pos (by omega), rd_last, if_neg hx]
theorem cutD_is (l : List Int) (hl : l.length < 4611686018427387904) (hd : dg D4 l) : ∃ r, Ev (fun k => klipperef01_cut.f k l) r ∧ IsN D4 r (vl D4 l) := cut_ev l.length l rfl hl hd
/-! ### less -/
theorem less_loop (a b : List Int) (ha : dg D4 a) (hb : dg D4 b) (hl : a.length = b.length) (hll : a.length < 1099511627776) (n : Nat) :
    n ≤ a.length → a.drop n = b.drop n → Ev (fun k => klipperef01_less.l0 k a b ((n : Int) - 1)) (decide (vl D4 a < vl D4 b)) := by
  induction n with
  | zero =>
    intro _ hd
    simp only [List.drop_zero] at hd
    subst hd
    refine Ev.step (f := fun _ => some false) (fun k => ?_) (by rw [decide_eq_false (by omega)]; exact Ev.now _)
    simp only [klipperef01_less.l0]
    rw [if_neg (by omega)]
  | succ n ih =>
    intro hn hd
    have hcast : (((n + 1 : Nat) : Int) - 1) = (n : Int) := by omega
    rw [hcast]
    by_cases h : rd a (n : Int) = rd b (n : Int)
    · have hd' : a.drop n = b.drop n := by
        rw [List.drop_eq_getElem_cons (show n < a.length by omega), List.drop_eq_getElem_cons (show n < b.length by omega), hd]
        congr 1
        rw [rd_nat, rd_nat, List.getD_eq_getElem?_getD, List.getD_eq_getElem?_getD, List.getElem?_eq_getElem (show n < a.length by omega), List.getElem?_eq_getElem (show n < b.length by omega)] at h
        exact h
      refine Ev.step (f := fun k => klipperef01_less.l0 k a b ((n : Int) - 1)) (fun k => ?_) (ih (by omega) hd')
      simp only [klipperef01_less.l0]
      rw [if_pos (by omega), if_pos (by omega), if_pos (by omega), if_pos (by omega), if_pos h, wrap64_id (x := (n : Int) - 1) (by omega) (by omega)]
    · have e1 := vl_drop D4 a (n + 1)
      have e2 := vl_drop D4 b (n + 1)
      rw [hd, Nat.min_eq_left (by omega), vl_take_succ D4 a n (by omega)] at e1
      rw [Nat.min_eq_left (by omega), vl_take_succ D4 b n (by omega)] at e2
      have h1 := vl_take_lt d40 ha n
      have h2 := vl_take_lt d40 hb n
      have h3 := rd_dg ha d40 (n : Int)
      have h4 := rd_dg hb d40 (n : Int)
      have key : (rd a (n : Int) < rd b (n : Int)) ↔ vl D4 a < vl D4 b := by
        constructor
        · intro hlt
          have : D4 ^ n * ((rd a (n : Int)).toNat + 1) ≤ D4 ^ n * (rd b (n : Int)).toNat := Nat.mul_le_mul_left _ (by omega)
          rw [Nat.mul_add] at this
          omega
        · intro hlt
          by_cases hh : rd a (n : Int) < rd b (n : Int)
          · exact hh
          · exfalso
            have : D4 ^ n * ((rd b (n : Int)).toNat + 1) ≤ D4 ^ n * (rd a (n : Int)).toNat := Nat.mul_le_mul_left _ (by omega)
            rw [Nat.mul_add] at this
            omega
      refine Ev.step (f := fun _ => some (decide (rd a (n : Int) < rd b (n : Int)))) (fun k => ?_) (by rw [decide_eq_decide.2 key]; exact Ev.now _)
      simp only [klipperef01_less.l0]
      rw [if_pos (by omega), if_pos (by omega), if_pos (by omega), if_pos (by omega), if_neg h]
theorem less_is {a b : List Int} {x y : Nat} (ha : IsN D4 a x) (hb : IsN D4 b y) (hl : a.length < 1099511627776) (hl' : b.length < 1099511627776) :
    Ev (fun k => klipperef01_less.f k a b) (decide (x < y)) := by
  by_cases h : a.length = b.length
  · have := less_loop a b ha.d hb.d h hl a.length (Nat.le_refl _) (by simp [h])
    rw [ha.v, hb.v] at this
    refine Ev.congr (fun k => ?_) this
    simp only [klipperef01_less.f]
    rw [if_pos (by omega), wrap64_id (x := (a.length : Int) - 1) (by omega) (by omega)]
  · have key : ((a.length : Int) < (b.length : Int)) ↔ x < y := by
      constructor
      · intro hlt
        have h1 := ha.lt d40
        have h2 := tz_ge d40 hb.d hb.z (by omega)
        rw [hb.v] at h2
        have h3 : D4 ^ a.length ≤ D4 ^ (b.length - 1) := Nat.pow_le_pow_right d40 (by omega)
        omega
      · intro hlt
        have := hb.lt d40
        by_cases hh : (a.length : Int) < (b.length : Int)
        · exact hh
        · exfalso
          have h2 := tz_ge d40 ha.d ha.z (by omega)
          rw [ha.v] at h2
          have h3 : D4 ^ b.length ≤ D4 ^ (a.length - 1) := Nat.pow_le_pow_right d40 (by omega)
          omega
    rw [← decide_eq_decide.2 key]
    refine Ev.congr (fun k => ?_) (Ev.now _)
    simp only [klipperef01_less.f]
    rw [if_neg (by omega)]
/-! ### carry -/
def zv : List Int → Int
  | [] => 0
  | x :: r => x + 10000 * zv r
theorem zv_dg {l : List Int} (h : dg D4 l) : zv l = (vl D4 l : Int) := by
  induction l with
  | nil => rfl
  | cons x l ih =>
    have h0 := h x (List.mem_cons_self ..)
    rw [zv, vl, ih fun y hy => h y (List.mem_cons_of_mem _ hy), Int.natCast_add, Int.natCast_mul, d4c]
    omega
theorem zv_append (a b : List Int) : zv (a ++ b) = zv a + ((10000 ^ a.length : Nat) : Int) * zv b := by
  induction a with
  | nil => simp [zv]
  | cons x a ih =>
    have e : ((10000 ^ (x :: a).length : Nat) : Int) = ((10000 ^ a.length : Nat) : Int) * 10000 := by
      rw [List.length_cons, Nat.pow_succ, Int.natCast_mul]
      rfl
    rw [e]
    simp only [List.cons_append, zv, ih]
    generalize ((10000 ^ a.length : Nat) : Int) = P
    rw [Int.mul_add, Int.mul_assoc P, Int.mul_left_comm P]
    omega
theorem zv_drop (l : List Int) (i : Nat) (h : i < l.length) : zv (l.drop i) = rd l (i : Int) + 10000 * zv (l.drop (i + 1)) := by
  rw [List.drop_eq_getElem_cons h, zv, rd_nat, List.getD_eq_getElem?_getD, List.getElem?_eq_getElem h]
  rfl
theorem carry_n (o : Int) : (if Int.tmod o 10000 < 0 then Int.tmod o 10000 + 10000 else Int.tmod o 10000) = o % 10000 := by
  by_cases h : 0 ≤ o
  · rw [Int.tmod_eq_emod_of_nonneg h, if_neg (by omega)]
  · obtain ⟨m, rfl⟩ : ∃ m, o = -m := ⟨-o, by omega⟩
    rw [Int.neg_tmod, Int.tmod_eq_emod_of_nonneg (by omega)]
    split <;> omega
theorem carry_m (o : Int) : -10000 < Int.tmod o 10000 ∧ Int.tmod o 10000 < 10000 := by
  by_cases h : 0 ≤ o
  · rw [Int.tmod_eq_emod_of_nonneg h]
    omega
  · obtain ⟨m, rfl⟩ : ∃ m, o = -m := ⟨-o, by omega⟩
    rw [Int.neg_tmod, Int.tmod_eq_emod_of_nonneg (by omega)]
    omega
theorem carry_d (o : Int) : Int.tdiv (o - o % 10000) 10000 = o / 10000 := by
  have e : o - o % 10000 = 10000 * (o / 10000) := by omega
  rw [e, Int.mul_tdiv_cancel_left _ (by omega)]
def pz (p : List Int) (i : Nat) : Int := if i < p.length then rd p (i : Int) else 0
theorem carry_turn (p out : List Int) (ov : Int) (i : Nat) (ho : -1000000000000 ≤ ov ∧ ov ≤ 1000000000000) (hp : -1000000000000 ≤ pz p i ∧ pz p i ≤ 1000000000000) (hi : i < 1000000000000) (hl : out.length < 17592186044416) (hgo : i < p.length ∨ ov ≠ 0) (k : Nat) :
    klipperef01_carry.l0 (k + 2) p out ov (i : Int) = klipperef01_carry.l0 k p (out ++ [(ov + pz p i) % 10000]) ((ov + pz p i) / 10000) ((i + 1 : Nat) : Int) := by
  have hj : klipperef01_carry.l0 (k + 2) p out ov (i : Int) = klipperef01_carry.j1 (k + 1) p out ov (i : Int) true := by
    rw [klipperef01_carry.l0]
    by_cases h : i < p.length
    · rw [if_pos (by omega)]
    · rw [if_neg (by omega)]
      rcases hgo with hh | hh
      · exact absurd hh h
      · rw [show (ov != 0) = true by simpa using hh]
  rw [hj, klipperef01_carry.j1, if_pos rfl]
  have hn := carry_n (ov + pz p i)
  have hd := carry_d (ov + pz p i)
  have hm : -10000 < Int.tmod (ov + pz p i) 10000 ∧ Int.tmod (ov + pz p i) 10000 < 10000 := carry_m _
  have hw : wrap64 (ov + pz p i) = ov + pz p i := wrap64_id (by omega) (by omega)
  have hi1 : wrap64 ((i : Int) + 1) = ((i + 1 : Nat) : Int) := wrap64_id (by omega) (by omega)
  have main : (if (Int.tmod (ov + pz p i) 10000) < 0 then (if out.length < 17592186044416 then (klipperef01_carry.l0 k p (out ++ [wrap64 ((Int.tmod (ov + pz p i) 10000) + 10000)]) (wrap64 (Int.tdiv (wrap64 ((ov + pz p i) - (wrap64 ((Int.tmod (ov + pz p i) 10000) + 10000)))) 10000)) (wrap64 ((i : Int) + 1))) else (none)) else (if out.length < 17592186044416 then (klipperef01_carry.l0 k p (out ++ [Int.tmod (ov + pz p i) 10000]) (wrap64 (Int.tdiv (wrap64 ((ov + pz p i) - (Int.tmod (ov + pz p i) 10000))) 10000)) (wrap64 ((i : Int) + 1))) else (none))) = klipperef01_carry.l0 k p (out ++ [(ov + pz p i) % 10000]) ((ov + pz p i) / 10000) ((i + 1 : Nat) : Int) := by
    by_cases h : (Int.tmod (ov + pz p i) 10000) < 0
    · rw [if_pos h] at hn
      rw [if_pos h, if_pos hl, wrap64_id (x := Int.tmod (ov + pz p i) 10000 + 10000) (by omega) (by omega), hn, wrap64_id (x := ov + pz p i - (ov + pz p i) % 10000) (by omega) (by omega), hd, wrap64_id (x := (ov + pz p i) / 10000) (by omega) (by omega), hi1]
    · rw [if_neg h] at hn
      rw [if_neg h, if_pos hl, hn, wrap64_id (x := ov + pz p i - (ov + pz p i) % 10000) (by omega) (by omega), hd, wrap64_id (x := (ov + pz p i) / 10000) (by omega) (by omega), hi1]
  by_cases h : i < p.length
  · have e : rd p (i : Int) = pz p i := by rw [pz, if_pos h]
    rw [if_pos (by omega), if_pos (by omega), e, hw]
    exact main
  · have e : pz p i = 0 := by rw [pz, if_neg h]
    rw [if_neg (by omega)]
    rw [e, Int.add_zero] at main ⊢
    exact main
theorem carry_done (p out : List Int) (i : Nat) (hi : p.length ≤ i) (hl : out.length < 4611686018427387904) (hd : dg D4 out) : ∃ r, Ev (fun k => klipperef01_carry.l0 k p out 0 (i : Int)) r ∧ IsN D4 r (vl D4 out) := by
  obtain ⟨r, hr, hN⟩ := cutD_is out hl hd
  refine ⟨r, Ev.step (f := fun k => klipperef01_carry.j1 k p out 0 (i : Int) false) (fun k => ?_) (Ev.step (f := fun k => (klipperef01_cut.f k out).bind fun t640 => (some t640)) (fun k => ?_) (Ev.bind hr (Ev.now _))), hN⟩
  · rw [klipperef01_carry.l0, if_neg (by omega)]
    rfl
  · rw [klipperef01_carry.j1, if_neg (by decide)]
theorem Ev.step2 {α : Type} {g f : Nat → Option α} {r : α} (h : ∀ k, g (k + 2) = f k) (k : Ev f r) : Ev g r := by
  obtain ⟨K, hK⟩ := k
  refine ⟨K + 2, fun k hk => ?_⟩
  obtain ⟨j, rfl⟩ : ∃ j, k = j + 2 := ⟨k - 2, by omega⟩
  rw [h]
  exact hK j (by omega)
theorem carry_tail (p : List Int) (m : Nat) : ∀ (out : List Int) (ov : Int) (i : Nat), ov.toNat < 10 ^ m → 0 ≤ ov → ov ≤ 1000000000000 → p.length ≤ i → i + m < 1000000000000 → out.length = i → dg D4 out →
    ∃ r, Ev (fun k => klipperef01_carry.l0 k p out ov (i : Int)) r ∧ IsN D4 r (vl D4 out + D4 ^ i * ov.toNat) := by
  induction m with
  | zero =>
    intro out ov i h h0 h1 hp hi hl hd
    obtain rfl : ov = 0 := by simp at h; omega
    simpa using carry_done p out i hp (by omega) hd
  | succ m ih =>
    intro out ov i h h0 h1 hp hi hl hd
    by_cases hz : ov = 0
    · subst hz
      simpa using carry_done p out i hp (by omega) hd
    · have e : pz p i = 0 := by rw [pz, if_neg (by omega)]
      have hh : (ov / 10000).toNat < 10 ^ m := by rw [Nat.pow_succ] at h; omega
      obtain ⟨r, hr, hN⟩ := ih (out ++ [ov % 10000]) (ov / 10000) (i + 1) hh (by omega) (by omega) (by omega) (by omega) (by simp [hl]) (dg_snoc hd (by omega) (by rw [d4c]; omega))
      refine ⟨r, Ev.step2 (fun k => carry_turn p out ov i (by omega) (by omega) (by omega) (by omega) (Or.inr hz) k) (by rw [e, Int.add_zero]; exact hr), ?_⟩
      rw [vl_snoc, hl, Nat.pow_succ, Nat.add_assoc, Nat.mul_assoc, ← Nat.mul_add] at hN
      rwa [show (ov % 10000).toNat + D4 * (ov / 10000).toNat = ov.toNat by show _ + 10000 * _ = _; omega] at hN
theorem carry_loop (p : List Int) (hp : ∀ i : Nat, -1000000000 ≤ pz p i ∧ pz p i ≤ 1000000000) (hlp : p.length < 1000000000) (V : Nat) (d : Nat) : ∀ (i : Nat) (out : List Int) (ov : Int), d = p.length - i → i ≤ p.length → out.length = i → dg D4 out → -1000000000000 ≤ ov * 1000 → ov * 1000 ≤ 1000000000000 →
    (vl D4 out : Int) + ((10000 ^ i : Nat) : Int) * (ov + zv (p.drop i)) = V → ∃ r, Ev (fun k => klipperef01_carry.l0 k p out ov (i : Int)) r ∧ IsN D4 r V := by
  induction d with
  | zero =>
    intro i out ov hd hi hl hdo h0 h1 hV
    obtain rfl : i = p.length := by omega
    rw [List.drop_length] at hV
    simp only [zv, Int.add_zero] at hV
    have hlt := vl_lt d40 hdo
    rw [hl] at hlt
    have hov : 0 ≤ ov := by
      by_cases h : 0 ≤ ov
      · exact h
      · exfalso
        have : ((10000 ^ p.length : Nat) : Int) * ov ≤ ((10000 ^ p.length : Nat) : Int) * (-1) := Int.mul_le_mul_of_nonneg_left (by omega) (Int.natCast_nonneg _)
        have e : D4 ^ p.length = 10000 ^ p.length := rfl
        omega
    obtain ⟨r, hr, hN⟩ := carry_tail p 13 out ov p.length (by have e : 10 ^ 13 = 10000000000000 := rfl; omega) hov (by omega) (Nat.le_refl _) (by omega) hl hdo
    refine ⟨r, hr, ?_⟩
    have e : vl D4 out + D4 ^ p.length * ov.toNat = V := by
      have : ((D4 ^ p.length * ov.toNat : Nat) : Int) = ((10000 ^ p.length : Nat) : Int) * ov := by
        rw [Int.natCast_mul, Int.toNat_of_nonneg hov]
        rfl
      omega
    rwa [e] at hN
  | succ d ih =>
    intro i out ov hd hi hl hdo h0 h1 hV
    have hi' : i < p.length := by omega
    have hpi := hp i
    have hlen : (out ++ [(ov + pz p i) % 10000]).length = i + 1 := by simp [hl]
    obtain ⟨r, hr, hN⟩ := ih (i + 1) (out ++ [(ov + pz p i) % 10000]) ((ov + pz p i) / 10000) (by omega) (by omega) hlen (dg_snoc hdo (by omega) (by rw [d4c]; omega)) (by omega) (by omega) (by
      rw [zv_drop p i hi'] at hV
      have e : rd p (i : Int) = pz p i := by rw [pz, if_pos hi']
      rw [e] at hV
      have e2 : ((vl D4 (out ++ [(ov + pz p i) % 10000]) : Nat) : Int) = vl D4 out + ((10000 ^ i : Nat) : Int) * ((ov + pz p i) % 10000) := by
        rw [vl_snoc, hl, Int.natCast_add, Int.natCast_mul, Int.toNat_of_nonneg (by omega)]
        rfl
      have e3 : ((10000 ^ (i + 1) : Nat) : Int) = ((10000 ^ i : Nat) : Int) * 10000 := by
        rw [Nat.pow_succ, Int.natCast_mul]
        rfl
      rw [e2, e3, Int.mul_assoc, Int.add_assoc, ← Int.mul_add]
      rw [← hV]
      congr 2
      omega)
    exact ⟨r, Ev.step2 (fun k => carry_turn p out ov i (by omega) (by omega) (by omega) (by omega) (Or.inl hi') k) hr, hN⟩
theorem carry_is (p : List Int) (hp : ∀ i : Nat, -1000000000 ≤ pz p i ∧ pz p i ≤ 1000000000) (hlp : p.length < 1000000000) (V : Nat) (hV : zv p = V) : ∃ r, Ev (fun k => klipperef01_carry.f k p) r ∧ IsN D4 r V := by
  obtain ⟨r, hr, hN⟩ := carry_loop p hp hlp V p.length 0 [] 0 (by omega) (by omega) rfl (dg_nil _) (by omega) (by omega) (by simp [vl, hV])
  exact ⟨r, Ev.congr (fun k => rfl) hr, hN⟩
end Go.Proofs.YtfhlmmmhcpkjnaaGreatDoor.Pl
namespace Go.Proofs.YtfhlmmmhcpkjnaaGreatDoor.Pl
open Go.RowKit Go.Proofs.YtfhlmmmhcpkjnaaGreatDoorW.PrintWords Go.Proofs.YtfhlmmmhcpkjnaaGreatDoor.PCheckerNumbers
theorem zv_set (l : List Int) (i : Nat) (x : Int) (h : i < l.length) : zv (l.set i x) = zv l + ((10000 ^ i : Nat) : Int) * (x - rd l (i : Int)) := by
  induction l generalizing i with
  | nil => simp at h
  | cons y l ih =>
    cases i with
    | zero => simp [zv, rd]; omega
    | succ i =>
      have hh := ih i (by simpa using h)
      have e3 : ((10000 ^ (i + 1) : Nat) : Int) = ((10000 ^ i : Nat) : Int) * 10000 := by
        rw [Nat.pow_succ, Int.natCast_mul]
        rfl
      rw [e3]
      simp only [List.set_cons_succ, zv, rd_nat, List.getD_cons_succ] at hh ⊢
      rw [hh, Int.mul_add, Int.mul_assoc, Int.mul_left_comm ((10000 ^ i : Nat) : Int)]
      omega
theorem pz_set (l : List Int) (i j : Nat) (x : Int) (h : i < l.length) : pz (l.set i x) j = if j = i then x else pz l j := by
  unfold pz
  rw [List.length_set]
  by_cases hj : j = i
  · subst hj
    rw [if_pos h, if_pos rfl, rd_set_eq _ _ _ h]
  · rw [if_neg hj, rd_set_ne _ _ _ _ (fun h => hj h.symm)]
theorem pz_snoc0 (l : List Int) (j : Nat) : pz (l ++ [0]) j = pz l j := by
  unfold pz
  simp only [rd_nat, List.length_append, List.length_singleton, List.getD_eq_getElem?_getD, List.getElem?_append]
  by_cases h : j < l.length
  · rw [if_pos (by omega), if_pos h, if_pos h]
  · rw [if_neg h, if_neg h]
    by_cases h2 : j = l.length
    · subst h2
      rw [if_pos (by omega)]
      simp
    · rw [if_neg (by omega)]
theorem zv_snoc0 (l : List Int) : zv (l ++ [0]) = zv l := by
  rw [zv_append]
  simp [zv]
theorem mul_small {m y : Int} (hm : -9999 ≤ m ∧ m ≤ 9999) (hy : 0 ≤ y ∧ y < 10000) : -99980001 ≤ m * y ∧ m * y ≤ 99980001 := by
  have h1 : m * y ≤ 9999 * y := Int.mul_le_mul_of_nonneg_right hm.2 hy.1
  have h2 : -9999 * y ≤ m * y := Int.mul_le_mul_of_nonneg_right hm.1 hy.1
  omega
theorem joined_turn (q : List Int) (m : Int) (out : List Int) (i : Nat) (hi : i < q.length) (hlo : i ≤ out.length) (hl : out.length < 1000000000) (hm : -9999 ≤ m ∧ m ≤ 9999) (hq : 0 ≤ rd q (i : Int) ∧ rd q (i : Int) < 10000)
    (hp : 0 ≤ pz out i ∧ pz out i ≤ 9999) {r : List Int} (h : Ev (fun k => klipperef01_joined.l0 k q m 0 ((if out.length ≤ i then out ++ [0] else out).set i (pz out i + m * rd q (i : Int))) ((i + 1 : Nat) : Int)) r) :
    Ev (fun k => klipperef01_joined.l0 k q m 0 out (i : Int)) r := by
  have hb := mul_small hm hq
  have hset : ∀ o : List Int, i < o.length → o.length < 1000000001 → rd o (i : Int) = pz out i → (if out.length ≤ i then out ++ [0] else out) = o → Ev (fun k => klipperef01_joined.l1 k q m 0 o (i : Int)) r := by
    intro o ho ho2 hrd he
    rw [he] at h
    refine Ev.step (f := _) (fun k => ?_) h
    simp only [klipperef01_joined.l1]
    rw [wrap64_id (x := (i : Int) + 0) (by omega) (by omega), Int.add_zero, if_neg (by omega), if_pos (by omega), if_pos (by omega), if_pos (by omega), if_pos (by omega), hrd, wrap64_id (x := m * rd q (i : Int)) (by omega) (by omega),
      wrap64_id (x := pz out i + m * rd q (i : Int)) (by omega) (by omega), wrap64_id (x := (i : Int) + 1) (by omega) (by omega), Int.toNat_natCast]
    rfl
  refine Ev.step (f := fun k => klipperef01_joined.l1 k q m 0 out (i : Int)) (fun k => ?_) ?_
  · simp only [klipperef01_joined.l0]
    rw [if_pos (by omega)]
  · by_cases hx : out.length ≤ i
    · have hlen : i = out.length := by omega
      have := hset (out ++ [0]) (by simp; omega) (by simp; omega) (by
        have := pz_snoc0 out i
        rw [← this, pz, if_pos (by simp; omega)]) (by rw [if_pos hx])
      refine Ev.step (f := fun k => klipperef01_joined.l1 k q m 0 (out ++ [0]) (i : Int)) (fun k => ?_) this
      rw [klipperef01_joined.l1, wrap64_id (x := (i : Int) + 0) (by omega) (by omega), Int.add_zero, if_pos (by omega), if_pos (by omega)]
    · exact hset out (by omega) (by omega) (by rw [pz, if_pos (by omega)]) (by rw [if_neg hx])
theorem joined_loop (p q : List Int) (m : Int) (hq : dg D4 q) (hm : -9999 ≤ m ∧ m ≤ 9999) (V : Nat) (hV : zv p + m * (vl D4 q : Int) = V) (hpl : p.length < 100000000) (hql : q.length < 100000000) (d : Nat) : ∀ (i : Nat) (out : List Int), d = q.length - i → i ≤ q.length → i ≤ out.length → out.length ≤ p.length + i →
    (∀ j, j < i → -1000000000 ≤ pz out j ∧ pz out j ≤ 1000000000) → (∀ j, i ≤ j → 0 ≤ pz out j ∧ pz out j ≤ 9999) → zv out = zv p + m * (vl D4 (q.take i) : Int) →
    ∃ r, Ev (fun k => klipperef01_joined.l0 k q m 0 out (i : Int)) r ∧ IsN D4 r V := by
  induction d with
  | zero =>
    intro i out hd hi hlo hlo2 hb1 hb2 hz
    obtain rfl : i = q.length := by omega
    rw [List.take_of_length_le (Nat.le_refl _), hV] at hz
    obtain ⟨r, hr, hN⟩ := carry_is out (fun j => by
      by_cases h : j < q.length
      · exact hb1 j h
      · have := hb2 j (by omega)
        omega) (by omega) V hz
    refine ⟨r, Ev.step (f := fun k => (klipperef01_carry.f k out).bind fun t662 => (some t662)) (fun k => ?_) (Ev.bind hr (Ev.now _)), hN⟩
    simp only [klipperef01_joined.l0]
    rw [if_neg (by omega)]
  | succ d ih =>
    intro i out hd hi hlo hlo2 hb1 hb2 hz
    have hi' : i < q.length := by omega
    have hy := rd_dg hq d40 (i : Int)
    rw [d4c] at hy
    have hb := mul_small hm hy
    have hpi := hb2 i (Nat.le_refl _)
    obtain ⟨o, ho⟩ : ∃ o, o = (if out.length ≤ i then out ++ [0] else out) := ⟨_, rfl⟩
    have ho1 : i < o.length ∧ o.length ≤ p.length + (i + 1) ∧ (∀ j, pz o j = pz out j) ∧ zv o = zv out := by
      rw [ho]
      split
      · exact ⟨by simp; omega, by simp; omega, fun j => pz_snoc0 out j, zv_snoc0 out⟩
      · exact ⟨by omega, by omega, fun j => rfl, rfl⟩
    obtain ⟨r, hr, hN⟩ := ih (i + 1) (o.set i (pz out i + m * rd q (i : Int))) (by omega) (by omega) (by rw [List.length_set]; omega) (by rw [List.length_set]; omega) (fun j hj => by
      rw [pz_set _ _ _ _ ho1.1]
      split
      · omega
      · rw [ho1.2.2.1]
        exact hb1 j (by omega)) (fun j hj => by
      rw [pz_set _ _ _ _ ho1.1, if_neg (by omega), ho1.2.2.1]
      exact hb2 j (by omega)) (by
      have e1 : rd o (i : Int) = pz out i := by rw [← ho1.2.2.1 i, pz, if_pos ho1.1]
      have e2 : ((D4 ^ i * (rd q (i : Int)).toNat : Nat) : Int) = ((10000 ^ i : Nat) : Int) * rd q (i : Int) := by
        rw [Int.natCast_mul, Int.toNat_of_nonneg hy.1]
        rfl
      rw [zv_set _ _ _ ho1.1, ho1.2.2.2, hz, e1, vl_take_succ D4 q i hi', Int.natCast_add, e2, Int.mul_add, Int.mul_left_comm m]
      rw [show pz out i + m * rd q (i : Int) - pz out i = m * rd q (i : Int) by omega]
      omega)
    rw [ho] at hr
    exact ⟨r, joined_turn q m out i hi' hlo (by omega) hm hy hpi hr, hN⟩
theorem joined_is (p q : List Int) (m : Int) (hp : dg D4 p) (hq : dg D4 q) (hm : -9999 ≤ m ∧ m ≤ 9999) (V : Nat) (hV : (vl D4 p : Int) + m * (vl D4 q : Int) = V) (hpl : p.length < 100000000) (hql : q.length < 100000000) :
    ∃ r, Ev (fun k => klipperef01_joined.f k p q m 0) r ∧ IsN D4 r V := by
  obtain ⟨r, hr, hN⟩ := joined_loop p q m hq hm V (by rw [zv_dg hp]; exact hV) hpl hql q.length 0 p (by omega) (by omega) (by omega) (by omega) (fun j h => by omega) (fun j _ => by
    unfold pz
    split
    · have := rd_dg hp d40 (j : Int)
      rw [d4c] at this
      omega
    · omega) (by simp [vl])
  refine ⟨r, Ev.congr (fun k => ?_) hr, hN⟩
  simp only [klipperef01_joined.f]
  rw [Option.bind_some, if_pos (by simp; omega)]
  rfl
/-! ### take -/
theorem take_in (s : ByteArray) (hs : isDig s) (st en : Nat) (hen : en ≤ s.size) (hsz : s.size < 1000000) (h4 : en ≤ st + 4) (out : List Int) (hlo : out.length < 1000000) (n' : Nat) (hn' : dvt s en = dvt s st * 10 ^ (en - st) + n') {r : List Int}
    (h : Ev (fun k => klipperef01_take.l0 k s (out ++ [(n' : Int)]) ((en : Int) - 4)) r) (d : Nat) : ∀ (i n : Nat), d = en - i → st ≤ i → i ≤ en → n < 10 ^ (i - st) → dvt s i = dvt s st * 10 ^ (i - st) + n →
    Ev (fun k => klipperef01_take.l1 k s out (en : Int) (n : Int) (i : Int)) r := by
  induction d with
  | zero =>
    intro i n hd h1 h2 h3 h5
    obtain rfl : i = en := by omega
    obtain rfl : n = n' := by omega
    refine Ev.step (f := _) (fun k => ?_) h
    simp only [klipperef01_take.l1]
    rw [if_neg (by omega), if_pos (by omega), wrap64_id (x := (i : Int) - 4) (by omega) (by omega)]
  | succ d ih =>
    intro i n hd h1 h2 h3 h5
    have hb := hs i (by omega)
    have hpow : 10 ^ (i - st) ≤ 10 ^ 4 := Nat.pow_le_pow_right (by omega) (by omega)
    have e1 : 10 ^ (i + 1 - st) = 10 ^ (i - st) * 10 := by rw [show i + 1 - st = (i - st) + 1 by omega, Nat.pow_succ]
    have hr := ih (i + 1) (n * 10 + (bt s (i : Int) - 48).toNat) (by omega) (by omega) (by omega) (by rw [e1]; omega) (by
      rw [dvt, h5, e1, ← Nat.mul_assoc]
      omega)
    refine Ev.step (f := _) (fun k => ?_) hr
    simp only [klipperef01_take.l1]
    rw [if_pos (by omega), if_pos (by omega), if_pos (by omega), wrap64_id (x := 10 * (n : Int)) (by omega) (by omega), wrap64_id (x := bt s (i : Int)) (by omega) (by omega), wrap64_id (x := 10 * (n : Int) + bt s (i : Int)) (by omega) (by omega),
      wrap64_id (x := 10 * (n : Int) + bt s (i : Int) - 48) (by omega) (by omega), wrap64_id (x := (i : Int) + 1) (by omega) (by omega)]
    rw [show 10 * (n : Int) + bt s (i : Int) - 48 = ((n * 10 + (bt s (i : Int) - 48).toNat : Nat) : Int) by omega]
    rfl
theorem dvt_split (s : ByteArray) (hs : isDig s) (st d : Nat) (h : st + d ≤ s.size) : ∃ n, n < 10 ^ d ∧ dvt s (st + d) = dvt s st * 10 ^ d + n := by
  induction d with
  | zero => exact ⟨0, by simp, by simp⟩
  | succ d ih =>
    obtain ⟨n, h1, h2⟩ := ih (by omega)
    have hb := hs (st + d) (by omega)
    refine ⟨n * 10 + (bt s ((st + d : Nat) : Int) - 48).toNat, by rw [Nat.pow_succ]; omega, ?_⟩
    rw [show st + (d + 1) = (st + d) + 1 by omega, dvt, h2, Nat.pow_succ, ← Nat.mul_assoc]
    omega
theorem take_done (s : ByteArray) (out : List Int) (x : Int) (hx : x ≤ 0) (hl : out.length < 1000000000) (hd : dg D4 out) : ∃ r, Ev (fun k => klipperef01_take.l0 k s out x) r ∧ IsN D4 r (vl D4 out) := by
  obtain ⟨r, hr, hN⟩ := cutD_is out (by omega) hd
  refine ⟨r, Ev.step (f := fun k => (klipperef01_cut.f k out).bind fun t634 => (some t634)) (fun k => ?_) (Ev.bind hr (Ev.now _)), hN⟩
  simp only [klipperef01_take.l0]
  rw [if_neg (by omega)]
theorem take_loop (s : ByteArray) (hs : isDig s) (hsz : s.size < 1000000) (en : Nat) : ∀ (out : List Int), en ≤ s.size → dg D4 out → out.length * 4 + en = s.size → dvt s s.size = dvt s en * D4 ^ out.length + vl D4 out →
    ∃ r, Ev (fun k => klipperef01_take.l0 k s out (en : Int)) r ∧ IsN D4 r (dvt s s.size) := by
  induction en using Nat.strongRecOn with
  | _ en ih =>
    intro out hen hd hl hv
    by_cases h0 : en = 0
    · subst h0
      have := take_done s out ((0 : Nat) : Int) (by omega) (by omega) hd
      simp only [dvt, Nat.zero_mul, Nat.zero_add] at hv
      rwa [hv]
    · obtain ⟨st, hst⟩ : ∃ st, st = en - 4 := ⟨_, rfl⟩
      obtain ⟨n, hn1, hn2⟩ := dvt_split s hs st (en - st) (by omega)
      rw [show st + (en - st) = en by omega] at hn2
      have hn4 : n < 10000 := Nat.lt_of_lt_of_le hn1 (Nat.le_trans (Nat.pow_le_pow_right (by omega) (show en - st ≤ 4 by omega)) (Nat.le_refl _))
      have hd' : dg D4 (out ++ [(n : Int)]) := dg_snoc hd (by omega) (by rw [d4c]; omega)
      have hvs : vl D4 (out ++ [(n : Int)]) = vl D4 out + D4 ^ out.length * n := by rw [vl_snoc, Int.toNat_natCast]
      have hnext : ∃ r, Ev (fun k => klipperef01_take.l0 k s (out ++ [(n : Int)]) ((en : Int) - 4)) r ∧ IsN D4 r (dvt s s.size) := by
        by_cases h4 : 4 ≤ en
        · have hp : 10 ^ (en - st) = D4 := by rw [show en - st = 4 by omega]; rfl
          rw [hp] at hn2
          have := ih st (by omega) (out ++ [(n : Int)]) (by omega) hd' (by simp; omega) (by
            rw [hvs, hv, hn2, List.length_append, List.length_singleton, Nat.pow_succ, Nat.add_mul, Nat.mul_assoc, Nat.mul_comm D4, Nat.mul_comm n]
            omega)
          rwa [show (st : Int) = (en : Int) - 4 by omega] at this
        · have hst0 : st = 0 := by omega
          subst hst0
          simp only [dvt, Nat.zero_mul, Nat.zero_add] at hn2
          have := take_done s (out ++ [(n : Int)]) ((en : Int) - 4) (by omega) (by simp; omega) hd'
          rw [hvs, Nat.mul_comm] at this
          rw [hv, Nat.add_comm, hn2]
          exact this
      obtain ⟨r, hr, hN⟩ := hnext
      have hin := take_in s hs st en hen hsz (by omega) out (by omega) n hn2 hr (en - st) st 0 rfl (Nat.le_refl _) (by omega) (Nat.pow_pos (by omega)) (by simp)
      refine ⟨r, Ev.step (f := _) (fun k => ?_) hin, hN⟩
      simp only [klipperef01_take.l0]
      rw [if_pos (by omega), wrap64_id (x := (en : Int) - 4) (by omega) (by omega)]
      congr 1
      unfold mx
      split <;> omega
theorem take_is (s : ByteArray) (hs : isDig s) (hsz : s.size < 1000000) : ∃ r, Ev (fun k => klipperef01_take.f k s) r ∧ IsN D4 r (dvt s s.size) := by
  obtain ⟨r, hr, hN⟩ := take_loop s hs hsz s.size [] (Nat.le_refl _) (dg_nil _) (by simp) (by simp [vl])
  exact ⟨r, Ev.congr (fun k => rfl) hr, hN⟩
end Go.Proofs.YtfhlmmmhcpkjnaaGreatDoor.Pl
namespace Go.Proofs.YtfhlmmmhcpkjnaaGreatDoor.Pl
open Go.RowKit Go.Proofs.YtfhlmmmhcpkjnaaGreatDoorW.PrintWords Go.Proofs.YtfhlmmmhcpkjnaaGreatDoor.PCheckerNumbers
theorem mid_is (lo hi : Nat) (hle : lo ≤ hi) (h : hi ≤ 9999) : wrap64 (Int.tdiv (wrap64 ((wrap64 ((lo : Int) + (hi : Int))) + 1)) 2) = (((lo + hi + 1) / 2 : Nat) : Int) := by
  rw [wrap64_id (x := (lo : Int) + (hi : Int)) (by omega) (by omega), wrap64_id (x := (lo : Int) + (hi : Int) + 1) (by omega) (by omega), Int.tdiv_eq_ediv_of_nonneg (by omega), wrap64_id (x := ((lo : Int) + (hi : Int) + 1) / 2) (by omega) (by omega)]
  omega
theorem mid_pred (m : Nat) (h : 0 < m) (h2 : m ≤ 9999) : wrap64 ((m : Int) - 1) = ((m - 1 : Nat) : Int) := by
  rw [wrap64_id (x := (m : Int) - 1) (by omega) (by omega)]
  omega
theorem parts_in (p q out rest : List Int) (y R : Nat) (hq : IsN D4 q y) (hR : IsN D4 rest R) (hy : 0 < y) (hql : q.length < 1000000) (hrl : rest.length < 1000000) (n : Nat) (hn : n < out.length) (hol : out.length < 1000000) (Q : List Int × List Int → Prop)
    (hfin : ∀ rest' : List Int, IsN D4 rest' (R % y) → ∃ r, Ev (fun k => klipperef01_parts.l0 k p q (out.set n ((R / y : Nat) : Int)) rest' ((n : Int) - 1)) r ∧ Q r) (d : Nat) : ∀ (lo hi : Nat), d = hi - lo → lo ≤ hi → hi ≤ 9999 → lo * y ≤ R → R < (hi + 1) * y →
    ∃ r, Ev (fun k => klipperef01_parts.l1 k p q out rest (n : Int) (lo : Int) (hi : Int)) r ∧ Q r := by
  induction d using Nat.strongRecOn with
  | _ d ih =>
    intro lo hi hd hle hhi h1 h2
    by_cases he : lo = hi
    · subst he
      have hq' : R / y = lo := Nat.div_eq_of_lt_le h1 h2
      have hm : R = lo * y + R % y := by
        have := Nat.div_add_mod R y
        rw [hq', Nat.mul_comm] at this
        omega
      obtain ⟨t, ht, hT⟩ := joined_is rest q (-(lo : Int)) hR.d hq.d (by omega) (R % y) (by
        rw [hR.v, hq.v, Int.neg_mul, ← Int.natCast_mul]
        omega) (by omega) (by omega)
      obtain ⟨r, hr, hQ⟩ := hfin t hT
      rw [hq'] at hr
      refine ⟨r, Ev.step (f := fun k => (klipperef01_joined.f k rest q (-(lo : Int)) 0).bind fun t737 => (klipperef01_parts.l0 k p q (out.set n (lo : Int)) t737 ((n : Int) - 1))) (fun k => ?_) (Ev.bind ht hr), hQ⟩
      simp only [klipperef01_parts.l1]
      rw [if_neg (by omega), if_pos (by omega), if_pos (by omega), wrap64_id (x := -(lo : Int)) (by omega) (by omega), wrap64_id (x := (n : Int) - 1) (by omega) (by omega), Int.toNat_natCast]
    · obtain ⟨mid, hmid⟩ : ∃ mid, mid = (lo + hi + 1) / 2 := ⟨_, rfl⟩
      have hlohi : (lo : Int) < (hi : Int) := by omega
      have hmid0 : 0 < mid := by omega
      have hmid9 : mid ≤ 9999 := by omega
      obtain ⟨t, ht, hT⟩ := joined_is [] q (mid : Int) (dg_nil _) hq.d (by omega) (mid * y) (by
        rw [hq.v, Int.natCast_mul]
        simp [vl]) (by simp) (by omega)
      have hTl : t.length ≤ q.length + 1 := by
        refine hT.length_le d41 ?_
        have := hq.lt d40
        rw [Nat.pow_succ]
        have e1 : mid * y ≤ 9999 * y := Nat.mul_le_mul_right _ (by omega)
        show _ < _ * 10000
        omega
      have hless := less_is hR hT (by omega) (by omega)
      obtain ⟨b, hb⟩ : ∃ b, b = decide (R < mid * y) := ⟨_, rfl⟩
      rw [← hb] at hless
      have hgo : ∀ r, Ev (fun k => if b = true then klipperef01_parts.l1 k p q out rest (n : Int) (lo : Int) ((mid - 1 : Nat) : Int) else klipperef01_parts.l1 k p q out rest (n : Int) (mid : Int) (hi : Int)) r → Ev (fun k => klipperef01_parts.l1 k p q out rest (n : Int) (lo : Int) (hi : Int)) r := by
        intro r hr
        have h5 : Ev (fun k => (klipperef01_less.f k rest t).bind fun t743 => (if t743 = true then klipperef01_parts.l1 k p q out rest (n : Int) (lo : Int) ((mid - 1 : Nat) : Int) else klipperef01_parts.l1 k p q out rest (n : Int) (mid : Int) (hi : Int))) r := Ev.bind hless hr
        have h6 : Ev (fun k => (klipperef01_joined.f k ([] : List Int) q (mid : Int) 0).bind fun t740 => (klipperef01_less.f k rest t740).bind fun t743 => (if t743 = true then klipperef01_parts.l1 k p q out rest (n : Int) (lo : Int) ((mid - 1 : Nat) : Int) else klipperef01_parts.l1 k p q out rest (n : Int) (mid : Int) (hi : Int))) r := Ev.bind ht h5
        refine Ev.step (f := _) (fun k => ?_) h6
        simp only [klipperef01_parts.l1]
        rw [if_pos hlohi, mid_is lo hi hle hhi, ← hmid, mid_pred mid hmid0 hmid9]
      by_cases hlt : R < mid * y
      · obtain ⟨r, hr, hQ⟩ := ih (mid - 1 - lo) (by omega) lo (mid - 1) rfl (by omega) (by omega) h1 (by rw [show mid - 1 + 1 = mid by omega]; exact hlt)
        rw [decide_eq_true hlt] at hb
        subst hb
        exact ⟨r, hgo r (Ev.congr (fun k => if_pos rfl) hr), hQ⟩
      · obtain ⟨r, hr, hQ⟩ := ih (hi - mid) (by omega) mid hi rfl (by omega) (by omega) (by omega) h2
        rw [decide_eq_false hlt] at hb
        subst hb
        exact ⟨r, hgo r (Ev.congr (fun k => if_neg (by decide)) hr), hQ⟩
theorem parts_loop (p q : List Int) (y : Nat) (hp : dg D4 p) (hq : IsN D4 q y) (hy : 0 < y) (hpl : p.length < 1000000) (hql : q.length < 100000) (n : Nat) : ∀ (out rest : List Int), n ≤ p.length → out.length = p.length → dg D4 out → IsN D4 rest (vl D4 (p.drop n) % y) →
    ∃ r, Ev (fun k => klipperef01_parts.l0 k p q out rest ((n : Int) - 1)) r ∧ ((∃ x, x < D4 ^ p.length ∧ IsN D4 r.1 x) ∧ IsN D4 r.2 (vl D4 p % y)) := by
  induction n with
  | zero =>
    intro out rest hn hol hdo hr
    obtain ⟨t, ht, hT⟩ := cutD_is out (by omega) hdo
    refine ⟨(t, rest), Ev.step (f := fun k => (klipperef01_cut.f k out).bind fun t723 => (some (t723, rest))) (fun k => ?_) (Ev.bind ht (Ev.now _)), ⟨_, by rw [← hol]; exact vl_lt d40 hdo, hT⟩, by simpa using hr⟩
    simp only [klipperef01_parts.l0]
    rw [if_neg (by omega)]
  | succ n ih =>
    intro out rest hn hol hdo hr
    have hx := rd_dg hp d40 (n : Int)
    have hx' := hx
    rw [d4c] at hx'
    have hdc : dg D4 ([rd p (n : Int)] ++ rest) := dg_append (fun z hz => by
      simp only [List.mem_singleton] at hz
      subst hz
      exact hx) hr.d
    have hrl : rest.length ≤ q.length := hr.length_le d41 (Nat.lt_trans (Nat.mod_lt _ hy) (hq.lt d40))
    obtain ⟨t, ht, hT⟩ := cutD_is ([rd p (n : Int)] ++ rest) (by simp; omega) hdc
    have hv : vl D4 ([rd p (n : Int)] ++ rest) = (rd p (n : Int)).toNat + 10000 * (vl D4 (p.drop (n + 1)) % y) := by
      rw [vl_append, vl_one, hr.v, List.length_singleton, Nat.pow_one]
      rfl
    rw [hv] at hT
    obtain ⟨R, hRe⟩ : ∃ R, R = (rd p (n : Int)).toNat + 10000 * (vl D4 (p.drop (n + 1)) % y) := ⟨_, rfl⟩
    rw [← hRe] at hT
    have hRlt : R < (9999 + 1) * y := by
      have := Nat.mod_lt (vl D4 (p.drop (n + 1))) hy
      omega
    have hmod : R % y = vl D4 (p.drop n) % y := by
      rw [List.drop_eq_getElem_cons (show n < p.length by omega), vl]
      have e : (p[n]'(by omega)) = rd p (n : Int) := by
        rw [rd_nat, List.getD_eq_getElem?_getD, List.getElem?_eq_getElem (show n < p.length by omega)]
        rfl
      rw [e, hRe]
      show _ = ((rd p (n : Int)).toNat + 10000 * _) % y
      rw [Nat.add_mod, Nat.mul_mod, Nat.mod_mod, ← Nat.mul_mod, ← Nat.add_mod]
    have htl : t.length ≤ q.length + 1 := by
      refine hT.length_le d41 ?_
      have := hq.lt d40
      rw [Nat.pow_succ]
      show _ < _ * 10000
      omega
    have hdiv : R / y < 10000 := Nat.div_lt_of_lt_mul (by rw [Nat.mul_comm]; exact hRlt)
    obtain ⟨r, hr', hQ⟩ := parts_in p q out t y R hq hT hy (by omega) (by omega) n (by omega) (by omega) (fun r => (∃ x, x < D4 ^ p.length ∧ IsN D4 r.1 x) ∧ IsN D4 r.2 (vl D4 p % y)) (fun rest' hN => by
      rw [hmod] at hN
      exact ih _ rest' (by omega) (by rw [List.length_set]; exact hol) (dg_set hdo n (Int.natCast_nonneg _) (Int.ofNat_lt.2 hdiv)) hN) 9999 0 9999 rfl (by omega) (by omega) (by omega) hRlt
    refine ⟨r, Ev.step (f := fun k => (klipperef01_cut.f k ([rd p (n : Int)] ++ rest)).bind fun t733 => (klipperef01_parts.l1 k p q out t733 (n : Int) 0 9999)) (fun k => ?_) (Ev.bind ht hr'), hQ⟩
    simp only [klipperef01_parts.l0]
    rw [show ((n + 1 : Nat) : Int) - 1 = (n : Int) by omega, if_pos (by omega), if_pos (by omega), if_pos (by omega), Option.bind_some, if_pos (by simp; omega)]
theorem parts_is {p q : List Int} {x y : Nat} (hp : IsN D4 p x) (hq : IsN D4 q y) (hy : 0 < y) (hpl : p.length < 1000000) (hql : q.length < 100000) :
    ∃ r, Ev (fun k => klipperef01_parts.f k p q) r ∧ ((∃ z, z < D4 ^ p.length ∧ IsN D4 r.1 z) ∧ IsN D4 r.2 (x % y)) := by
  obtain ⟨r, hr, h1, h2⟩ := parts_loop p q y hp.d hq hy hpl hql p.length (List.replicate p.length 0) [] (Nat.le_refl _) (by simp) (dg_zeros d40 _) (by
    rw [List.drop_length]
    simpa [vl] using IsN.nil D4)
  refine ⟨r, Ev.congr (fun k => ?_) hr, h1, by rwa [hp.v] at h2⟩
  simp only [klipperef01_parts.f]
  rw [if_pos (by omega), if_pos (by omega), wrap64_id (x := (p.length : Int) - 1) (by omega) (by omega), Int.toNat_natCast]
end Go.Proofs.YtfhlmmmhcpkjnaaGreatDoor.Pl
namespace Go.Proofs.YtfhlmmmhcpkjnaaGreatDoor.Pl
open Go.RowKit Go.Proofs.YtfhlmmmhcpkjnaaGreatDoorW.PrintWords Go.Proofs.YtfhlmmmhcpkjnaaGreatDoor.PCheckerNumbers
def dl (l : List UInt8) : Nat := l.foldl (fun n c => n * 10 + (c.toNat - 48)) 0
def dgs (l : List UInt8) : Prop := ∀ c ∈ l, 48 ≤ c.toNat ∧ c.toNat ≤ 57
structure Dec (l : List UInt8) (n : Nat) : Prop where
  dig : dgs l
  pos : 0 < l.length
  zero : l.head? = some 48 → l.length = 1
  val : dl l = n
theorem dl_snoc (l : List UInt8) (c : UInt8) : dl (l ++ [c]) = dl l * 10 + (c.toNat - 48) := by
  unfold dl
  rw [List.foldl_append]
  rfl
theorem dl_one (c : UInt8) : dl [c] = c.toNat - 48 := by simp [dl]
theorem snoc_ind {α : Type} {P : List α → Prop} (h0 : P []) (h1 : ∀ b c, P b → P (b ++ [c])) (l : List α) : P l := by
  rw [← List.reverse_reverse l]
  induction l.reverse with
  | nil => exact h0
  | cons x r ih =>
    rw [List.reverse_cons]
    exact h1 _ _ ih
theorem dl_append (a b : List UInt8) : dl (a ++ b) = dl a * 10 ^ b.length + dl b := by
  refine snoc_ind (P := fun b => dl (a ++ b) = dl a * 10 ^ b.length + dl b) ?_ (fun b c ih => ?_) b
  · simp [dl]
  · rw [← List.append_assoc, dl_snoc, dl_snoc, ih, List.length_append, List.length_singleton, Nat.pow_succ, ← Nat.mul_assoc]
    omega
theorem dl_lt {l : List UInt8} : dgs l → dl l < 10 ^ l.length := by
  refine snoc_ind (P := fun l => dgs l → dl l < 10 ^ l.length) ?_ (fun b c ih h => ?_) l
  · simp [dl]
  · have h1 := ih fun x hx => h x (by simp [hx])
    have h2 := h c (by simp)
    rw [dl_snoc, List.length_append, List.length_singleton, Nat.pow_succ]
    omega
theorem dgs_append {a b : List UInt8} (h : dgs a) (h' : dgs b) : dgs (a ++ b) := fun c hc => by
  rcases List.mem_append.1 hc with hc | hc
  · exact h c hc
  · exact h' c hc
theorem dvt_dl (s : ByteArray) (i : Nat) (hi : i ≤ s.size) : dvt s i = dl (s.data.toList.take i) := by
  induction i with
  | zero => rfl
  | succ i ih =>
    have hl := size_list s
    rw [dvt, ih (by omega), List.take_succ_eq_append_getElem (by omega), dl_snoc, bt_list, List.getD_eq_getElem?_getD, List.getElem?_eq_getElem (by omega)]
    simp only [Option.getD_some]
    omega
theorem dvt_all (s : ByteArray) : dvt s s.size = dl s.data.toList := by
  rw [dvt_dl s _ (Nat.le_refl _), List.take_of_length_le (by rw [size_list]; omega)]
theorem dec_digit (u : Nat) (h : u < 10) : (UInt8.ofNat (48 + u)).toNat = 48 + u := by
  rw [UInt8.toNat_ofNat']
  omega
theorem decF_is (k : Nat) : ∀ u, u < 10 ^ (k + 1) → Dec (decF (k + 1) u) u := by
  induction k with
  | zero =>
    intro u h
    have h1 : u < 10 := by simpa using h
    have hd := dec_digit u h1
    rw [decF, if_pos h1]
    refine ⟨fun c hc => ?_, by simp, fun _ => by simp, by rw [dl_one, hd]; omega⟩
    simp only [List.mem_singleton] at hc
    subst hc
    omega
  | succ k ih =>
    intro u h
    rw [decF]
    by_cases h1 : u < 10
    · have hd := dec_digit u h1
      rw [if_pos h1]
      refine ⟨fun c hc => ?_, by simp, fun _ => by simp, by rw [dl_one, hd]; omega⟩
      simp only [List.mem_singleton] at hc
      subst hc
      omega
    · rw [if_neg h1]
      have hd := dec_digit (u % 10) (by omega)
      have hi := ih (u / 10) (by rw [Nat.pow_succ] at h; omega)
      refine ⟨dgs_append hi.dig fun c hc => ?_, by simp, fun hh => ?_, by rw [dl_snoc, hi.val, hd]; omega⟩
      · simp only [List.mem_singleton] at hc
        subst hc
        omega
      · exfalso
        have hp := hi.pos
        have h2 : (decF (k + 1) (u / 10)).head? = some 48 := by
          cases hl : decF (k + 1) (u / 10) with
          | nil => rw [hl] at hp; simp at hp
          | cons x r => rw [hl] at hh; simpa using hh
        have h3 := hi.zero h2
        have h4 := hi.val
        cases hl : decF (k + 1) (u / 10) with
        | nil => rw [hl] at hp; simp at hp
        | cons x r =>
          rw [hl] at h2 h3 h4
          simp only [List.length_cons] at h3
          obtain rfl := List.eq_nil_of_length_eq_zero (show r.length = 0 by omega)
          simp only [List.head?_cons, Option.some.injEq] at h2
          subst h2
          simp [dl] at h4
          omega
theorem Dec.ge {l : List UInt8} {n : Nat} (h : Dec l n) (hn : 0 < n) : 10 ^ (l.length - 1) ≤ n := by
  cases l with
  | nil => exact absurd h.pos (by simp)
  | cons x r =>
    have hx := h.dig x (by simp)
    have hv := h.val
    have e : dl (x :: r) = dl [x] * 10 ^ r.length + dl r := dl_append [x] r
    have e1 : dl [x] = x.toNat - 48 := by simp [dl]
    have h0 : x.toNat ≠ 48 := by
      intro hh
      have hx48 : x = 48 := UInt8.toNat_inj.1 hh
      have h3 := h.zero (by simp [hx48])
      simp only [List.length_cons] at h3
      obtain rfl := List.eq_nil_of_length_eq_zero (show r.length = 0 by omega)
      rw [e1] at e
      simp [dl] at e hv
      omega
    rw [e, e1] at hv
    have h2 : 1 * 10 ^ r.length ≤ (x.toNat - 48) * 10 ^ r.length := Nat.mul_le_mul_right _ (by omega)
    simp only [List.length_cons, Nat.add_sub_cancel]
    omega
end Go.Proofs.YtfhlmmmhcpkjnaaGreatDoor.Pl
namespace Go.Proofs.YtfhlmmmhcpkjnaaGreatDoor.Pl
open Go.RowKit Go.Proofs.YtfhlmmmhcpkjnaaGreatDoorW.PrintWords Go.Proofs.YtfhlmmmhcpkjnaaGreatDoor.PCheckerNumbers
def DecS (s : ByteArray) (n : Nat) : Prop := Dec s.data.toList n
theorem itoa_is (n : Nat) (h : n < 1000000000000000000) : strconv_Itoa.f (n : Int) = some ⟨(decF 25 n).toArray⟩ := by
  simp only [strconv_Itoa.f, itoaF]
  rw [if_pos (by omega), if_pos (by omega), if_neg (by omega), Int.toNat_natCast]
theorem dec25 (n : Nat) (h : n < 1000000000000000000) : Dec (decF 25 n) n := decF_is 24 n (by omega)
theorem decS25 (n : Nat) (h : n < 1000000000000000000) : DecS ⟨(decF 25 n).toArray⟩ n := by
  unfold DecS
  rw [List.toList_toArray]
  exact dec25 n h
theorem four_tail (x : Nat) (h : x < 10000) : dgs ((decF 25 (10000 + x)).drop 1) ∧ ((decF 25 (10000 + x)).drop 1).length = 4 ∧ dl ((decF 25 (10000 + x)).drop 1) = x ∧ (decF 25 (10000 + x)).length = 5 := by
  have hD := dec25 (10000 + x) (by omega)
  have h1 := hD.ge (by omega)
  have h2 := dl_lt hD.dig
  rw [hD.val] at h2
  have hlen : (decF 25 (10000 + x)).length = 5 := by
    rcases Nat.lt_trichotomy (decF 25 (10000 + x)).length 5 with hh | hh | hh
    · have : 10 ^ (decF 25 (10000 + x)).length ≤ 10 ^ 4 := Nat.pow_le_pow_right (by omega) (by omega)
      omega
    · exact hh
    · have : 10 ^ 5 ≤ 10 ^ ((decF 25 (10000 + x)).length - 1) := Nat.pow_le_pow_right (by omega) (by omega)
      omega
  cases hl : decF 25 (10000 + x) with
  | nil => rw [hl] at hlen; simp at hlen
  | cons c r =>
    rw [hl] at hlen hD
    simp only [List.length_cons] at hlen
    have hr : r.length = 4 := by omega
    have hdr : dgs r := fun z hz => hD.dig z (by simp [hz])
    have e : dl (c :: r) = dl [c] * 10 ^ r.length + dl r := dl_append [c] r
    have h3 := dl_lt hdr
    rw [hD.val, dl_one, hr] at e
    rw [hr] at h3
    refine ⟨by simpa using hdr, by simpa using hr, ?_, by simp [hr]⟩
    simp only [List.drop_succ_cons, List.drop_zero]
    omega
theorem Dec.append {a b : List UInt8} {n : Nat} (ha : Dec a n) (hn : 0 < n) (hb : dgs b) : Dec (a ++ b) (n * 10 ^ b.length + dl b) := by
  refine ⟨dgs_append ha.dig hb, by have := ha.pos; simp; omega, fun h => ?_, by rw [dl_append, ha.val]⟩
  exfalso
  cases a with
  | nil => exact absurd ha.pos (by simp)
  | cons x r =>
    have hx : x = 48 := by simpa using h
    have h3 := ha.zero (by simp [hx])
    simp only [List.length_cons] at h3
    obtain rfl := List.eq_nil_of_length_eq_zero (show r.length = 0 by omega)
    have := ha.val
    rw [hx, dl_one] at this
    simp at this
    omega
theorem give_loop (p : List Int) (hp : dg D4 p) (hl : p.length < 1000000) (m : Nat) : ∀ (t : ByteArray), m ≤ p.length → DecS t (vl D4 (p.drop m)) → 0 < vl D4 (p.drop m) → t.size + 4 * m < 100000000 →
    ∃ r, Ev (fun k => klipperef01_give.l0 k p t ((m : Int) - 1)) r ∧ DecS r (vl D4 p) := by
  induction m with
  | zero =>
    intro t hm ht hv hs
    refine ⟨t, Ev.step (f := fun _ => some t) (fun k => ?_) (Ev.now _), by simpa using ht⟩
    simp only [klipperef01_give.l0]
    rw [if_neg (by omega)]
  | succ m ih =>
    intro t hm ht hv hs
    have hx := rd_dg hp d40 (m : Int)
    rw [d4c] at hx
    obtain ⟨x, hxx⟩ : ∃ x : Nat, x = (rd p (m : Int)).toNat := ⟨_, rfl⟩
    have hx1 : rd p (m : Int) = (x : Int) := by omega
    obtain ⟨h1, h2, h3, h5⟩ := four_tail x (by omega)
    have hsz : (⟨(decF 25 (10000 + x)).toArray⟩ : ByteArray).size = 5 := by rw [← size_list, List.toList_toArray]; exact h5
    have hex : ((⟨(decF 25 (10000 + x)).toArray⟩ : ByteArray).extract 1 5).data.toList = (decF 25 (10000 + x)).drop 1 := by
      rw [ext_list, List.toList_toArray, List.take_of_length_le (by rw [h2]; omega)]
    have hvd : vl D4 (p.drop m) = vl D4 (p.drop (m + 1)) * 10 ^ 4 + x := by
      rw [List.drop_eq_getElem_cons (show m < p.length by omega), vl]
      have e : (p[m]'(by omega)) = rd p (m : Int) := by
        rw [rd_nat, List.getD_eq_getElem?_getD, List.getElem?_eq_getElem (show m < p.length by omega)]
        rfl
      rw [e, ← hxx, Nat.mul_comm]
      exact Nat.add_comm _ _
    have hsz2 : ((⟨(decF 25 (10000 + x)).toArray⟩ : ByteArray).extract 1 5).size = 4 := by rw [← size_list, hex, h2]
    have hcat : (t ++ (⟨(decF 25 (10000 + x)).toArray⟩ : ByteArray).extract 1 5).data.toList = t.data.toList ++ (decF 25 (10000 + x)).drop 1 := by
      rw [ByteArray.data_append, Array.toList_append, hex]
    obtain ⟨r, hr, hR⟩ := ih (t ++ (⟨(decF 25 (10000 + x)).toArray⟩ : ByteArray).extract 1 5) (by omega) (by
      unfold DecS
      rw [hcat, hvd]
      have := Dec.append ht hv h1
      rwa [h2, h3] at this) (by rw [hvd]; omega) (by rw [ByteArray.size_append, hsz2]; omega)
    refine ⟨r, Ev.step (f := _) (fun k => ?_) hr, hR⟩
    simp only [klipperef01_give.l0]
    rw [show ((m + 1 : Nat) : Int) - 1 = (m : Int) by omega, if_pos (by omega), if_pos (by omega), if_pos (by omega), hx1, wrap64_id (x := 10000 + (x : Int)) (by omega) (by omega), show 10000 + (x : Int) = ((10000 + x : Nat) : Int) by omega,
      itoa_is _ (by omega), Option.bind_some, hsz, if_pos (by omega), hsz2, if_pos (by omega), wrap64_id (x := (m : Int) - 1) (by omega) (by omega)]
theorem dec_zero : DecS (⟨#[48]⟩ : ByteArray) 0 := ⟨fun c hc => by simp at hc; subst hc; decide, by decide, fun _ => rfl, rfl⟩
theorem give_is {p : List Int} {n : Nat} (hp : IsN D4 p n) (hl : p.length < 1000000) : ∃ r, Ev (fun k => klipperef01_give.f k p) r ∧ DecS r n := by
  by_cases h0 : p.length = 0
  · obtain rfl := List.eq_nil_of_length_eq_zero h0
    refine ⟨⟨#[48]⟩, Ev.congr (fun k => ?_) (Ev.now _), ?_⟩
    · simp only [klipperef01_give.f]
      rw [if_pos (by simp)]
    · have := hp.v
      simp only [vl] at this
      rw [← this]
      exact dec_zero
  · obtain ⟨a, x, rfl⟩ := snoc_of p (by omega)
    have hx := hp.d x (by simp)
    rw [d4c] at hx
    have hx0 : x ≠ 0 := by
      intro e
      have := hp.z
      simp [tz, e] at this
    have hdrop : (a ++ [x]).drop a.length = [x] := by simp
    obtain ⟨y, rfl⟩ : ∃ y : Nat, x = (y : Int) := ⟨x.toNat, by omega⟩
    have hlen : (a ++ [(y : Int)]).length = a.length + 1 := by simp
    obtain ⟨r, hr, hR⟩ := give_loop (a ++ [(y : Int)]) hp.d hl a.length ⟨(decF 25 y).toArray⟩ (by omega) (by rw [hdrop, vl_one, Int.toNat_natCast]; exact decS25 y (by omega)) (by rw [hdrop, vl_one]; omega) (by
      have h2 : (⟨(decF 25 y).toArray⟩ : ByteArray).size ≤ 5 := by
        rw [← size_list, List.toList_toArray]
        have hD := dec25 y (by omega)
        have h1 := hD.ge (by omega)
        rcases Nat.lt_or_ge (decF 25 y).length 6 with hh | hh
        · omega
        · have : 10 ^ 5 ≤ 10 ^ ((decF 25 y).length - 1) := Nat.pow_le_pow_right (by omega) (by omega)
          omega
      omega)
    rw [hp.v] at hR
    refine ⟨r, Ev.congr (fun k => ?_) hr, hR⟩
    have hw : wrap64 (((a ++ [(y : Int)]).length : Int) - 1) = (a.length : Int) := by rw [wrap64_id (by omega) (by omega)]; omega
    have hw2 : wrap64 (((a ++ [(y : Int)]).length : Int) - 2) = (a.length : Int) - 1 := by rw [wrap64_id (by omega) (by omega)]; omega
    have hrd : rd (a ++ [(y : Int)]) (a.length : Int) = (y : Int) := by
      have := rd_last a (y : Int)
      rwa [show (((a ++ [(y : Int)]).length : Int) - 1) = (a.length : Int) by omega] at this
    simp only [klipperef01_give.f]
    rw [if_neg (by omega), hw, hw2, if_pos (by omega), if_pos (by omega), hrd, itoa_is _ (by omega), Option.bind_some]
end Go.Proofs.YtfhlmmmhcpkjnaaGreatDoor.Pl
namespace Go.Proofs.YtfhlmmmhcpkjnaaGreatDoor.Pl
open Go.RowKit Go.Proofs.YtfhlmmmhcpkjnaaGreatDoorW.PrintWords Go.Proofs.YtfhlmmmhcpkjnaaGreatDoor.PCheckerNumbers
theorem made_plus {p : List Int} {n : Nat} (hp : IsN D4 p n) (hl : p.length < 1000000) : ∃ r, Ev (fun k => klipperef01_made.f k false p) r ∧ DecS r n := by
  obtain ⟨t, ht, hT⟩ := cutD_is p (by omega) hp.d
  rw [hp.v] at hT
  have htl : t.length ≤ p.length := hT.length_le d41 (hp.lt d40)
  obtain ⟨r, hr, hR⟩ := give_is hT (by omega)
  refine ⟨r, Ev.congr (f := fun k => (klipperef01_cut.f k p).bind fun t675 => klipperef01_made.j0 k t675 false) (fun k => ?_) (Ev.bind ht (Ev.step (f := fun k => (klipperef01_give.f k t).bind fun t679 => (some t679)) (fun k => ?_) (Ev.bind hr (Ev.now _)))), hR⟩
  · rfl
  · simp only [klipperef01_made.j0]
    rw [if_neg (by decide)]
theorem dec_size {s : ByteArray} {n m : Nat} (h : DecS s n) (hn : n < 10 ^ m) (hm : 0 < m) : s.size ≤ m := by
  rw [← size_list]
  rcases Nat.eq_zero_or_pos n with h0 | h0
  · cases hl : s.data.toList with
    | nil => simp
    | cons x r =>
      have h1 := h.val
      have h2 := h.zero
      have h3 := h.dig x (by simp [hl])
      rw [hl] at h1 h2
      have e : dl (x :: r) = dl [x] * 10 ^ r.length + dl r := dl_append [x] r
      have hp : 0 < 10 ^ r.length := Nat.pow_pos (by omega)
      rw [dl_one] at e
      have hx : x.toNat - 48 = 0 := by
        rcases Nat.eq_zero_or_pos (x.toNat - 48) with hh | hh
        · exact hh
        · have : 1 * 10 ^ r.length ≤ (x.toNat - 48) * 10 ^ r.length := Nat.mul_le_mul_right _ hh
          omega
      have hx48 : x = 48 := UInt8.toNat_inj.1 (by show x.toNat = 48; omega)
      have := h2 (by simp [hx48])
      omega
  · have h1 := h.ge h0
    rcases Nat.lt_or_ge m s.data.toList.length with hh | hh
    · have : 10 ^ m ≤ 10 ^ (s.data.toList.length - 1) := Nat.pow_le_pow_right (by omega) (by omega)
      omega
    · exact hh
theorem made_minus {p : List Int} {n : Nat} (hp : IsN D4 p n) (hn : 0 < n) (hl : p.length < 1000000) : ∃ r t, Ev (fun k => klipperef01_made.f k true p) r ∧ DecS t n ∧ r = (⟨#[45]⟩ : ByteArray) ++ t := by
  obtain ⟨t, ht, hT⟩ := cutD_is p (by omega) hp.d
  rw [hp.v] at hT
  have htl : t.length ≤ p.length := hT.length_le d41 (hp.lt d40)
  have htp := (hT.pos d40).2 hn
  obtain ⟨r, hr, hR⟩ := give_is hT (by omega)
  have hrs : r.size ≤ 4 * t.length + 1 := dec_size hR (Nat.lt_trans (hT.lt d40) (by
    rw [Nat.pow_succ, Nat.pow_mul]
    have : 0 < D4 ^ t.length := Nat.pow_pos d40
    have e : (10 ^ 4) ^ t.length = D4 ^ t.length := rfl
    omega)) (by omega)
  refine ⟨(⟨#[45]⟩ : ByteArray) ++ r, r, Ev.congr (f := fun k => (klipperef01_cut.f k p).bind fun t675 => klipperef01_made.j0 k t675 (decide (0 < t675.length))) (fun k => ?_) (Ev.bind ht (Ev.step (f := fun k => (klipperef01_give.f k t).bind fun t678 => (if 1 + t678.size ≤ 9223372036854775807 then (some ((⟨#[45]⟩ : ByteArray) ++ t678)) else (none))) (fun k => ?_) (Ev.bind hr (Ev.congr (fun k => if_pos (by omega)) (Ev.now _))))), hR, rfl⟩
  · rfl
  · simp only [klipperef01_made.j0]
    rw [if_pos (by simpa using htp)]
theorem split_is (s : ByteArray) : klipperef01_Split.f s = some (ngB s, bdy s) := by
  simp only [klipperef01_Split.f]
  by_cases h : 0 < s.size
  · rw [if_pos (by omega), if_pos (by omega)]
    by_cases hb : bt s 0 = 45
    · have : ngB s = true := by simp [ngB, h, hb]
      rw [if_pos hb, if_pos (by omega)]
      simp only [bdy, this]
      rfl
    · have : ngB s = false := by simp [ngB, hb]
      rw [if_neg hb]
      simp only [bdy, this]
      rfl
  · have : ngB s = false := by simp [ngB, h]
    rw [if_neg (by omega)]
    simp only [bdy, this]
    rfl
theorem small_loop (g : Bool) (s : ByteArray) (hs : isDig s) (hl : s.size ≤ 17) (d : Nat) : ∀ (i : Nat), d = s.size - i → i ≤ s.size →
    Ev (fun k => klipperef01_Small.l0 k g s (-(dvt s i : Int)) (i : Int)) ((if g = true then -(dvt s s.size : Int) else (dvt s s.size : Int)), true) := by
  induction d with
  | zero =>
    intro i hd hi
    obtain rfl : i = s.size := by omega
    have h1 := dvt_lt hs s.size (Nat.le_refl _)
    have h2 : 10 ^ s.size ≤ 10 ^ 17 := Nat.pow_le_pow_right (by omega) hl
    refine Ev.step (f := fun _ => some _) (fun k => ?_) (Ev.now _)
    simp only [klipperef01_Small.l0]
    rw [if_neg (by omega)]
    cases g with
    | true => rfl
    | false => rw [if_neg (by decide), if_neg (by omega), Int.neg_neg, wrap64_id (x := (dvt s s.size : Int)) (by omega) (by omega)]; rfl
  | succ d ih =>
    intro i hd hi
    have hb := hs i (by omega)
    have h1 := dvt_lt hs i hi
    have h2 : 10 ^ i ≤ 10 ^ 16 := Nat.pow_le_pow_right (by omega) (by omega)
    have hr := ih (i + 1) (by omega) (by omega)
    refine Ev.step (f := _) (fun k => ?_) hr
    simp only [klipperef01_Small.l0]
    have e2 : wrap64 (Int.tdiv (-9223372036854775808 + (bt s (i : Int) - 48)) 10) ≤ -900000000000000000 := by
      rw [show -9223372036854775808 + (bt s (i : Int) - 48) = -(9223372036854775808 - (bt s (i : Int) - 48)) by omega, Int.neg_tdiv, Int.tdiv_eq_ediv_of_nonneg (by omega), wrap64_id (x := -((9223372036854775808 - (bt s (i : Int) - 48)) / 10)) (by omega) (by omega)]
      omega
    have e3 : 10 * -(dvt s i : Int) - (bt s (i : Int) - 48) = -((dvt s (i + 1) : Nat) : Int) := by
      rw [dvt]
      omega
    rw [if_pos (by omega), if_pos (by omega), wrap64_id (x := bt s (i : Int)) (by omega) (by omega), wrap64_id (x := bt s (i : Int) - 48) (by omega) (by omega), wrap64_id (x := -9223372036854775808 + (bt s (i : Int) - 48)) (by omega) (by omega), if_neg (by omega),
      wrap64_id (x := 10 * -(dvt s i : Int)) (by omega) (by omega), wrap64_id (x := 10 * -(dvt s i : Int) - (bt s (i : Int) - 48)) (by omega) (by omega), wrap64_id (x := (i : Int) + 1) (by omega) (by omega), e3]
    rfl
theorem brief_is (s : ByteArray) (hs : isDig (bdy s)) : ((bdy s).size ≤ 17 → Ev (fun k => klipperef01_brief.f k s) ((if ngB s = true then -(dvt (bdy s) (bdy s).size : Int) else (dvt (bdy s) (bdy s).size : Int)), true)) ∧
    (¬ (bdy s).size ≤ 17 → Ev (fun k => klipperef01_brief.f k s) (0, false)) := by
  constructor
  · intro h
    have h1 := small_loop (ngB s) (bdy s) hs h (bdy s).size 0 (by omega) (by omega)
    have h2 : Ev (fun k => klipperef01_Small.f k s) ((if ngB s = true then -(dvt (bdy s) (bdy s).size : Int) else (dvt (bdy s) (bdy s).size : Int)), true) := Ev.congr (fun k => by
      simp only [klipperef01_Small.f]
      rw [split_is, Option.bind_some, if_neg (by show ¬ ((bdy s).size : Int) > 19; omega)]
      rfl) h1
    refine Ev.congr (f := fun k => (klipperef01_Small.f k s).bind fun bt625 => (some (bt625.1, bt625.2))) (fun k => ?_) (Ev.bind h2 (Ev.now _))
    simp only [klipperef01_brief.f]
    rw [split_is, Option.bind_some, if_neg (by show ¬ ((bdy s).size : Int) > 17; omega)]
  · intro h
    refine Ev.congr (f := fun _ => some (0, false)) (fun k => ?_) (Ev.now _)
    simp only [klipperef01_brief.f]
    rw [split_is, Option.bind_some, if_pos (by show ((bdy s).size : Int) > 17; omega)]
end Go.Proofs.YtfhlmmmhcpkjnaaGreatDoor.Pl
namespace Go.Proofs.YtfhlmmmhcpkjnaaGreatDoor.Pl
open Go.RowKit Go.Proofs.YtfhlmmmhcpkjnaaGreatDoorW.PrintWords Go.Proofs.YtfhlmmmhcpkjnaaGreatDoor.PCheckerNumbers
theorem DecS.isDig {s : ByteArray} {n : Nat} (h : DecS s n) : isDig s := fun i hi => by
  have hl := size_list s
  rw [bt_list, List.getD_eq_getElem?_getD, List.getElem?_eq_getElem (by omega), Option.getD_some]
  have := h.dig _ (List.getElem_mem (show i < s.data.toList.length by omega))
  omega
theorem DecS.size_pos {s : ByteArray} {n : Nat} (h : DecS s n) : 0 < s.size := by
  have := h.pos
  rwa [size_list] at this
theorem DecS.ng {s : ByteArray} {n : Nat} (h : DecS s n) : ngB s = false := by
  have h1 := (h.isDig 0 h.size_pos).1
  have h2 : bt s ((0 : Nat) : Int) = bt s 0 := rfl
  rw [h2] at h1
  unfold ngB
  rw [decide_eq_false (by omega)]
theorem DecS.bd {s : ByteArray} {n : Nat} (h : DecS s n) : bdy s = s := by
  unfold bdy
  rw [h.ng]
  rfl
theorem DecS.dv {s : ByteArray} {n : Nat} (h : DecS s n) : dvt s s.size = n := by rw [dvt_all]; exact h.val
theorem dec_one {l : List UInt8} {n : Nat} (h : Dec l n) (hn : n < 10) : ∃ c : UInt8, l = [c] ∧ c.toNat = 48 + n := by
  have hlen : l.length = 1 := by
    have := dec_size (s := ⟨l.toArray⟩) (n := n) (m := 1) (by unfold DecS; rw [List.toList_toArray]; exact h) (by omega) (by omega)
    rw [← size_list, List.toList_toArray] at this
    have := h.pos
    omega
  match l, hlen with
  | [c], _ =>
    refine ⟨c, rfl, ?_⟩
    have h1 := h.val
    have h2 := h.dig c (by simp)
    rw [dl_one] at h1
    omega
theorem DecS.zero_iff {s : ByteArray} {n : Nat} (h : DecS s n) : s.toList = [48] ↔ n = 0 := by
  rw [ByteArray.toList_eq]
  constructor
  · intro e
    have := h.val
    rw [e] at this
    exact this.symm
  · intro e
    obtain ⟨c, hc, hc2⟩ := dec_one h (by omega)
    rw [hc, show c = 48 from UInt8.toNat_inj.1 (by show c.toNat = 48; omega)]
theorem DecS.one_iff {s : ByteArray} {n : Nat} (h : DecS s n) : s.toList = [49] ↔ n = 1 := by
  rw [ByteArray.toList_eq]
  constructor
  · intro e
    have := h.val
    rw [e] at this
    exact this.symm
  · intro e
    obtain ⟨c, hc, hc2⟩ := dec_one h (by omega)
    rw [hc, show c = 49 from UInt8.toNat_inj.1 (by show c.toNat = 49; omega)]
theorem of_is (n : Nat) (h : n < 1000000000000000000) : ∃ r, klipperef01_Of.f (n : Int) = some r ∧ DecS r n :=
  ⟨_, by simp only [klipperef01_Of.f]; rw [itoa_is n h, Option.bind_some], decS25 n h⟩
theorem DecS.small {s : ByteArray} {n : Nat} (h : DecS s n) (hs : s.size ≤ 17) : n < 100000000000000000 := by
  have h1 := dl_lt h.dig
  rw [h.val, size_list] at h1
  have h2 : 10 ^ s.size ≤ 10 ^ 17 := Nat.pow_le_pow_right (by omega) hs
  omega
theorem brief_plus {s : ByteArray} {n : Nat} (h : DecS s n) : (s.size ≤ 17 → Ev (fun k => klipperef01_brief.f k s) ((n : Int), true)) ∧ (¬ s.size ≤ 17 → Ev (fun k => klipperef01_brief.f k s) (0, false)) := by
  have := brief_is s (by rw [h.bd]; exact h.isDig)
  rw [h.bd, h.ng, h.dv] at this
  exact this
theorem divmod_j0 {a b : ByteArray} {x y : Nat} (ha : DecS a x) (hb : DecS b y) (hy : 0 < y) (hal : a.size < 10000) (hbl : b.size < 10000) (v w : Int) :
    ∃ q r, Ev (fun k => klipperef01_DivMod.j0 k a b v w false) (q, r) ∧ DecS r (x % y) := by
  obtain ⟨p, hp, hP⟩ := take_is a ha.isDig (by omega)
  obtain ⟨q, hq, hQ⟩ := take_is b hb.isDig (by omega)
  rw [ha.dv] at hP
  rw [hb.dv] at hQ
  have hxl : p.length ≤ a.size := hP.length_le d41 (by
    have h1 := dl_lt ha.dig
    rw [ha.val, size_list] at h1
    exact Nat.lt_of_lt_of_le h1 (Nat.pow_le_pow_left (by decide) _))
  have hyl : q.length ≤ b.size := hQ.length_le d41 (by
    have h1 := dl_lt hb.dig
    rw [hb.val, size_list] at h1
    exact Nat.lt_of_lt_of_le h1 (Nat.pow_le_pow_left (by decide) _))
  obtain ⟨⟨u, t⟩, hr, ⟨z, hz1, hz⟩, hT⟩ := parts_is hP hQ hy (by omega) (by omega)
  simp only at hz hT
  have htl : t.length ≤ q.length := hT.length_le d41 (Nat.lt_trans (Nat.mod_lt _ hy) (hQ.lt d40))
  have hul : u.length ≤ p.length := hz.length_le d41 hz1
  obtain ⟨m, hm, hM⟩ := made_plus hz (by omega)
  obtain ⟨o, ho, hO⟩ := made_plus hT (by omega)
  have h1 : Ev (fun k => klipperef01_DivMod.j1 k false false b u t false) (m, o) := by
    refine Ev.step (f := fun k => (klipperef01_made.f k (!(false == false)) u).bind fun t782 => ((klipperef01_made.f k false t).bind fun t783 => (some (t782, t783)))) (fun k => ?_) (Ev.bind hm (Ev.bind ho (Ev.now _)))
    simp only [klipperef01_DivMod.j1]
    rw [if_neg (by decide)]
  refine ⟨m, o, Ev.step (f := fun k => (klipperef01_take.f k a).bind fun t756 => ((klipperef01_take.f k b).bind fun t759 => ((klipperef01_parts.f k t756 t759).bind fun bt762 => klipperef01_DivMod.j1 k false false b bt762.1 bt762.2 false))) (fun k => ?_) (Ev.bind hp (Ev.bind hq (Ev.bind hr h1))), hO⟩
  rw [klipperef01_DivMod.j0, if_neg (by decide), split_is, Option.bind_some, split_is, Option.bind_some, ha.ng, ha.bd, hb.ng, hb.bd]
  rfl
theorem divmod_is {a b : ByteArray} {x y : Nat} (ha : DecS a x) (hb : DecS b y) (hy : 0 < y) (hal : a.size < 10000) (hbl : b.size < 10000) :
    ∃ q r, Ev (fun k => klipperef01_DivMod.f k a b) (q, r) ∧ DecS r (x % y) := by
  by_cases h1 : a.size ≤ 17
  · by_cases h2 : b.size ≤ 17
    · have hx := ha.small h1
      have hyy := hb.small h2
      obtain ⟨r, hr, hR⟩ := of_is (x % y) (by have := Nat.mod_lt x hy; omega)
      obtain ⟨q, hq, hQ⟩ := of_is (x / y) (by have := Nat.div_le_self x y; omega)
      refine ⟨q, r, Ev.congr (f := fun k => (klipperef01_brief.f k a).bind fun bt744 => ((klipperef01_brief.f k b).bind fun bt746 => (if bt744.2 = true then (klipperef01_DivMod.j0 k a b bt744.1 bt746.1 bt746.2) else (klipperef01_DivMod.j0 k a b bt744.1 bt746.1 false)))) (fun k => rfl) (Ev.bind ((brief_plus ha).1 h1) (Ev.bind ((brief_plus hb).1 h2) (Ev.congr (f := fun k => klipperef01_DivMod.j0 k a b (x : Int) (y : Int) true) (fun k => rfl) (Ev.step (f := fun _ => some (q, r)) (fun k => ?_) (Ev.now _))))), hR⟩
      have e1 : Int.tmod (x : Int) (y : Int) = ((x % y : Nat) : Int) := (Int.ofNat_tmod x y).symm
      have e2 : Int.tdiv (x : Int) (y : Int) = ((x / y : Nat) : Int) := (Int.ofNat_tdiv x y).symm
      have hlt := Nat.div_le_self x y
      rw [klipperef01_DivMod.j0, if_pos rfl, if_neg (by omega), e1, e2, if_neg (Int.not_lt.2 (Int.natCast_nonneg _))]
      obtain ⟨d, hd⟩ : ∃ d, d = x / y := ⟨_, rfl⟩
      rw [← hd] at hlt hq ⊢
      rw [wrap64_id (x := (d : Int)) (by omega) (by omega), hq, Option.bind_some, hr, Option.bind_some]
    · obtain ⟨q, r, hr, hR⟩ := divmod_j0 ha hb hy hal hbl (x : Int) 0
      exact ⟨q, r, Ev.congr (f := fun k => (klipperef01_brief.f k a).bind fun bt744 => ((klipperef01_brief.f k b).bind fun bt746 => (if bt744.2 = true then (klipperef01_DivMod.j0 k a b bt744.1 bt746.1 bt746.2) else (klipperef01_DivMod.j0 k a b bt744.1 bt746.1 false)))) (fun k => rfl) (Ev.bind ((brief_plus ha).1 h1) (Ev.bind ((brief_plus hb).2 h2) (Ev.congr (f := fun k => klipperef01_DivMod.j0 k a b (x : Int) 0 false) (fun k => rfl) hr))), hR⟩
  · obtain ⟨w, c, hc⟩ : ∃ w c, Ev (fun k => klipperef01_brief.f k b) (w, c) := by
      by_cases h2 : b.size ≤ 17
      · exact ⟨_, _, (brief_plus hb).1 h2⟩
      · exact ⟨_, _, (brief_plus hb).2 h2⟩
    obtain ⟨q, r, hr, hR⟩ := divmod_j0 ha hb hy hal hbl 0 w
    exact ⟨q, r, Ev.congr (f := fun k => (klipperef01_brief.f k a).bind fun bt744 => ((klipperef01_brief.f k b).bind fun bt746 => (if bt744.2 = true then (klipperef01_DivMod.j0 k a b bt744.1 bt746.1 bt746.2) else (klipperef01_DivMod.j0 k a b bt744.1 bt746.1 false)))) (fun k => rfl) (Ev.bind ((brief_plus ha).2 h1) (Ev.bind hc (Ev.congr (f := fun k => klipperef01_DivMod.j0 k a b 0 w false) (fun k => rfl) hr))), hR⟩
theorem gcdS_loop (y : Nat) : ∀ (x : Nat) (a b : ByteArray), DecS a x → DecS b y → a.size < 10000 → b.size < 10000 → ∃ r, Ev (fun k => klipperef01_Gcd.l0 k a b) r ∧ DecS r (Nat.gcd x y) := by
  induction y using Nat.strongRecOn with
  | _ y ih =>
    intro x a b ha hb hal hbl
    by_cases h0 : y = 0
    · subst h0
      refine ⟨a, Ev.step (f := fun _ => some a) (fun k => ?_) (Ev.now _), by rwa [Nat.gcd_zero_right]⟩
      rw [klipperef01_Gcd.l0, if_pos (hb.zero_iff.2 rfl)]
    · have hy : 0 < y := Nat.pos_of_ne_zero h0
      obtain ⟨q, r, hr, hR⟩ := divmod_is ha hb hy hal hbl
      have hlt := Nat.mod_lt x hy
      have hrs : r.size ≤ b.size := dec_size hR (Nat.lt_trans hlt (by
        have h1 := dl_lt hb.dig
        rwa [hb.val, size_list] at h1)) hb.size_pos
      obtain ⟨g, hg, hG⟩ := ih (x % y) hlt y b r hb hR hbl (by omega)
      have e : Nat.gcd y (x % y) = Nat.gcd x y := by
        rw [Nat.gcd_comm x y, Nat.gcd_rec y x, Nat.gcd_comm]
      rw [e] at hG
      refine ⟨g, Ev.step (f := fun k => (klipperef01_DivMod.f k a b).bind fun bt786 => (klipperef01_Gcd.l0 k b bt786.2)) (fun k => ?_) (Ev.bind hr hg), hG⟩
      rw [klipperef01_Gcd.l0, if_neg (fun h => h0 (hb.zero_iff.1 h))]
end Go.Proofs.YtfhlmmmhcpkjnaaGreatDoor.Pl
namespace Go.Proofs.YtfhlmmmhcpkjnaaGreatDoor.Pl
open Go.RowKit Go.Proofs.YtfhlmmmhcpkjnaaGreatDoorW.PrintWords Go.Proofs.YtfhlmmmhcpkjnaaGreatDoor.PCheckerNumbers
def one : ByteArray := ⟨#[49]⟩
def mone : ByteArray := ⟨#[45, 49]⟩
theorem one_dec : DecS one 1 := ⟨fun c hc => by simp [one] at hc; subst hc; decide, by decide, fun h => by simp [one] at h, rfl⟩
theorem neg_one : klipperef01_Neg.f one = some mone := by
  simp only [klipperef01_Neg.f]
  rw [split_is, Option.bind_some, one_dec.ng, one_dec.bd, if_neg (by decide), if_neg (fun h => by have := one_dec.zero_iff.1 h; omega)]
  rw [if_pos (by decide)]
  rfl
theorem mone_ng : ngB mone = true := by
  have e : bt mone ((0 : Nat) : Int) = 45 := by rw [bt_list]; rfl
  have e' : bt mone 0 = 45 := e
  unfold ngB
  rw [decide_eq_true]
  exact ⟨by decide, e'⟩
theorem mone_bd : bdy mone = one := by
  unfold bdy
  rw [if_pos mone_ng]
  apply ba_eq
  rw [ext_list]
  rfl
theorem sign_plus {s : ByteArray} {n : Nat} (h : DecS s n) : klipperef01_Sign.f s = some (if n = 0 then 0 else 1) := by
  simp only [klipperef01_Sign.f]
  rw [split_is, Option.bind_some, h.ng, if_neg (fun h => by cases h)]
  by_cases h0 : n = 0
  · rw [if_pos (h.zero_iff.2 h0), if_pos h0]
  · rw [if_neg (fun e => h0 (h.zero_iff.1 e)), if_neg h0]
theorem sign_minus {s : ByteArray} (h : ngB s = true) : klipperef01_Sign.f s = some (-1) := by
  simp only [klipperef01_Sign.f]
  rw [split_is, Option.bind_some, h, if_pos rfl]
theorem ng_cons {s : ByteArray} {r : List UInt8} (h : s.data.toList = 45 :: r) : ngB s = true := by
  have e : bt s ((0 : Nat) : Int) = 45 := by rw [bt_list, h]; rfl
  have e' : bt s 0 = 45 := e
  have h2 := size_list s
  rw [h] at h2
  simp only [List.length_cons] at h2
  unfold ngB
  rw [decide_eq_true]
  exact ⟨by omega, e'⟩
structure IntS (s : ByteArray) (g : Bool) (x : Nat) : Prop where
  ng : ngB s = g
  dec : DecS (bdy s) x
  nz : g = true → x ≠ 0
theorem add_mone {s : ByteArray} {g : Bool} {x : Nat} (h : IntS s g x) (hl : s.size < 10000) : ∃ t c, Ev (fun k => klipperef01_Add.f k s mone) t ∧ klipperef01_Sign.f t = some c ∧ (c > 0 ↔ g = false ∧ 1 < x) := by
  have hbs : (bdy s).size ≤ s.size := bdy_size s
  have hb := brief_is s h.dec.isDig
  rw [h.ng, h.dec.dv] at hb
  have hm := (brief_is mone (by rw [mone_bd]; exact one_dec.isDig)).1 (by rw [mone_bd]; decide)
  rw [mone_ng, mone_bd, one_dec.dv, if_pos rfl] at hm
  have hmm : Ev (fun k => klipperef01_brief.f k mone) ((-1 : Int), true) := hm
  by_cases h17 : (bdy s).size ≤ 17
  · have h1 := hb.1 h17
    have hx := h.dec.small h17
    obtain ⟨v, hv⟩ : ∃ v : Int, v = if g = true then -(x : Int) else (x : Int) := ⟨_, rfl⟩
    rw [← hv] at h1
    have hv2 : -100000000000000000 < v ∧ v < 100000000000000000 := by rw [hv]; split <;> omega
    have hadd : ∀ t, klipperef01_Of.f (v - 1) = some t → Ev (fun k => klipperef01_Add.f k s mone) t := fun t ht => by
      refine Ev.congr (f := fun k => (klipperef01_brief.f k s).bind fun bt684 => ((klipperef01_brief.f k mone).bind fun bt686 => (if bt684.2 = true then (klipperef01_Add.j0 k s mone bt684.1 bt686.1 bt686.2) else (klipperef01_Add.j0 k s mone bt684.1 bt686.1 false)))) (fun k => rfl) (Ev.bind h1 (Ev.bind hmm (Ev.congr (f := fun k => klipperef01_Add.j0 k s mone v (-1) true) (fun k => rfl) (Ev.step (f := fun _ => some t) (fun k => ?_) (Ev.now _)))))
      rw [klipperef01_Add.j0, if_pos rfl, show v + -1 = v - 1 by omega, wrap64_id (x := v - 1) (by omega) (by omega), ht, Option.bind_some]
    by_cases hp : 0 ≤ v - 1
    · obtain ⟨n, hn⟩ : ∃ n : Nat, v - 1 = (n : Int) := ⟨(v - 1).toNat, by omega⟩
      obtain ⟨t, ht, hT⟩ := of_is n (by omega)
      refine ⟨t, _, hadd t (by rw [hn]; exact ht), sign_plus hT, ?_⟩
      cases g with
      | true => have := h.nz rfl; rw [if_pos rfl] at hv; omega
      | false =>
        rw [if_neg (by decide)] at hv
        constructor
        · intro hc
          refine ⟨rfl, ?_⟩
          by_cases h0 : n = 0
          · rw [if_pos h0] at hc; omega
          · omega
        · intro hc
          rw [if_neg (by omega)]
          omega
    · have hneg : v - 1 < 0 := by omega
      have ht : klipperef01_Of.f (v - 1) = some ⟨(45 :: decF 25 (v - 1).natAbs).toArray⟩ := by
        simp only [klipperef01_Of.f, strconv_Itoa.f, itoaF]
        rw [if_pos (by omega), if_pos (by omega), if_pos hneg, Option.bind_some]
      refine ⟨_, -1, hadd _ ht, sign_minus (ng_cons (r := decF 25 (v - 1).natAbs) (by rw [List.toList_toArray])), ?_⟩
      cases g with
      | true => exact ⟨fun h => by omega, fun h => absurd h.1 (by decide)⟩
      | false =>
        rw [if_neg (by decide)] at hv
        exact ⟨fun h => by omega, fun h => by omega⟩
  · have h1 := hb.2 h17
    have hx1 : 1 < x := by
      rcases Nat.lt_or_ge 1 x with hh | hh
      · exact hh
      · exfalso
        have := dec_size h.dec (m := 1) (show x < 10 ^ 1 by omega) (by omega)
        omega
    obtain ⟨p, hp, hP⟩ := take_is (bdy s) h.dec.isDig (by omega)
    obtain ⟨q, hq, hQ⟩ := take_is one one_dec.isDig (by decide)
    rw [h.dec.dv] at hP
    rw [one_dec.dv] at hQ
    have hpl : p.length ≤ (bdy s).size := hP.length_le d41 (by
      have h1 := dl_lt h.dec.dig
      rw [h.dec.val, size_list] at h1
      exact Nat.lt_of_lt_of_le h1 (Nat.pow_le_pow_left (by decide) _))
    have hql : q.length ≤ 1 := hQ.length_le d41 (by decide)
    have hstart : ∀ t, Ev (fun k => if (g == true) = true then ((klipperef01_joined.f k p q 1 0).bind fun t699 => ((klipperef01_made.f k g t699).bind fun t702 => (some t702))) else ((klipperef01_less.f k p q).bind fun t703 => (if t703 = true then ((klipperef01_joined.f k q p (-1) 0).bind fun t704 => ((klipperef01_made.f k true t704).bind fun t707 => (some t707))) else ((klipperef01_joined.f k p q (-1) 0).bind fun t708 => ((klipperef01_made.f k g t708).bind fun t711 => (some t711)))))) t → Ev (fun k => klipperef01_Add.f k s mone) t := fun t ht => by
      refine Ev.congr (f := fun k => (klipperef01_brief.f k s).bind fun bt684 => ((klipperef01_brief.f k mone).bind fun bt686 => (if bt684.2 = true then (klipperef01_Add.j0 k s mone bt684.1 bt686.1 bt686.2) else (klipperef01_Add.j0 k s mone bt684.1 bt686.1 false)))) (fun k => rfl) (Ev.bind h1 (Ev.bind hmm (Ev.congr (f := fun k => klipperef01_Add.j0 k s mone 0 (-1) false) (fun k => rfl) (Ev.step (f := fun k => (klipperef01_take.f k (bdy s)).bind fun t693 => ((klipperef01_take.f k one).bind fun t696 => (if (g == true) = true then ((klipperef01_joined.f k t693 t696 1 0).bind fun t699 => ((klipperef01_made.f k g t699).bind fun t702 => (some t702))) else ((klipperef01_less.f k t693 t696).bind fun t703 => (if t703 = true then ((klipperef01_joined.f k t696 t693 (-1) 0).bind fun t704 => ((klipperef01_made.f k true t704).bind fun t707 => (some t707))) else ((klipperef01_joined.f k t693 t696 (-1) 0).bind fun t708 => ((klipperef01_made.f k g t708).bind fun t711 => (some t711)))))))) (fun k => ?_) (Ev.bind hp (Ev.bind hq ht))))))
      rw [klipperef01_Add.j0, if_neg (by decide), split_is, Option.bind_some, split_is, Option.bind_some, h.ng, mone_ng, mone_bd]
    cases g with
    | true =>
      obtain ⟨r, hr, hR⟩ := joined_is p q 1 hP.d hQ.d (by omega) (x + 1) (by rw [hP.v, hQ.v]; omega) (by omega) (by omega)
      have hrl : r.length ≤ p.length + 1 := hR.length_le d41 (by
        have := hP.lt d40
        rw [Nat.pow_succ]
        show _ < _ * 10000
        omega)
      obtain ⟨t, u, ht, hu, hc⟩ := made_minus hR (by omega) (by omega)
      refine ⟨t, -1, hstart t (Ev.congr (fun k => if_pos rfl) (Ev.bind hr (Ev.bind ht (Ev.now _)))), sign_minus (ng_cons (r := u.data.toList) (by rw [hc, ByteArray.data_append, Array.toList_append]; rfl)), fun h => by omega, fun h => absurd h.1 (by decide)⟩
    | false =>
      have hless := less_is hP hQ (by omega) (by omega)
      rw [decide_eq_false (by omega)] at hless
      obtain ⟨r, hr, hR⟩ := joined_is p q (-1) hP.d hQ.d (by omega) (x - 1) (by rw [hP.v, hQ.v]; omega) (by omega) (by omega)
      have hrl : r.length ≤ p.length := hR.length_le d41 (by
        have := hP.lt d40
        omega)
      obtain ⟨t, ht, hT⟩ := made_plus hR (by omega)
      refine ⟨t, _, hstart t (Ev.congr (fun k => if_neg (by decide)) (Ev.bind hless (Ev.congr (fun k => if_neg (by decide)) (Ev.bind hr (Ev.bind ht (Ev.now _)))))), sign_plus hT, ?_⟩
      rw [if_neg (by omega)]
      exact ⟨fun _ => ⟨rfl, hx1⟩, fun _ => by omega⟩
theorem compare_mone {s : ByteArray} {g : Bool} {x : Nat} (h : IntS s g x) (hl : s.size < 10000) : ∃ c, Ev (fun k => klipperef01_Compare.f k s one) c ∧ (c > 0 ↔ g = false ∧ 1 < x) := by
  obtain ⟨t, c, ht, hc, hcc⟩ := add_mone h hl
  refine ⟨c, Ev.congr (f := fun k => (klipperef01_Add.f k s mone).bind fun t => klipperef01_Sign.f t) (fun k => ?_) (Ev.bind ht (Ev.congr (fun k => hc) (Ev.now c))), hcc⟩
  simp only [klipperef01_Compare.f, klipperef01_Sub.f]
  rw [neg_one, Option.bind_some]
  cases klipperef01_Add.f k s mone with
  | none => rfl
  | some t => simp only [Option.bind_some]; cases klipperef01_Sign.f t <;> rfl
end Go.Proofs.YtfhlmmmhcpkjnaaGreatDoor.Pl
namespace Go.Proofs.YtfhlmmmhcpkjnaaGreatDoor.Pl
open Go.RowKit Go.Proofs.YtfhlmmmhcpkjnaaGreatDoorW.PrintWords Go.Proofs.YtfhlmmmhcpkjnaaGreatDoor.PCheckerNumbers
theorem DOk.dec {s : ByteArray} (h : DOk s) : DecS s (dvt s s.size) := by
  have hl := size_list s
  refine ⟨fun c hc => ?_, by have := h.pos; omega, fun hh => ?_, (dvt_all s).symm⟩
  · obtain ⟨i, hi, rfl⟩ := List.mem_iff_getElem.1 hc
    have h1 := h.dig i (by omega)
    rw [bt_list, List.getD_eq_getElem?_getD, List.getElem?_eq_getElem hi, Option.getD_some] at h1
    omega
  · have e : bt s ((0 : Nat) : Int) = 48 := by
      rw [bt_list, List.getD_eq_getElem?_getD, ← List.head?_eq_getElem?, hh]
      rfl
    have := h.zero e
    have := h.pos
    omega
def Can (g : Bool) (s : ByteArray) : Prop := isDig s ∧ 0 < s.size ∧ (bt s 0 = 48 → g = false ∧ s.size ≤ 1)
theorem can_loop (g : Bool) (s : ByteArray) (hl : s.size < 1099511627776) (d : Nat) : ∀ i : Nat, d = s.size - i → i ≤ s.size → (∀ j : Nat, j < i → 48 ≤ bt s (j : Int) ∧ bt s (j : Int) ≤ 57) →
    ∃ r, Ev (fun k => klipperef01_Canonical.l0 k g s (i : Int)) r ∧ (r = true ↔ Can g s) := by
  induction d with
  | zero =>
    intro i hd hi hb
    obtain rfl : i = s.size := by omega
    have hstep : ∀ k, klipperef01_Canonical.l0 (k + 1) g s (s.size : Int) = (if (s.size : Int) = 0 then (some false) else (if 0 < (s.size : Int) then (if (bt s 0) = 48 then (if g = true then (some false) else (if (s.size : Int) > 1 then (some false) else (some true))) else (some true)) else (none))) := fun k => by
      rw [klipperef01_Canonical.l0, if_neg (by omega)]
    by_cases h0 : s.size = 0
    · exact ⟨false, Ev.step (f := fun _ => some false) (fun k => by rw [hstep, if_pos (by omega)]) (Ev.now _), fun h => (by cases h), fun h => absurd h.2.1 (by omega)⟩
    · by_cases h1 : bt s 0 = 48
      · cases g with
        | true => exact ⟨false, Ev.step (f := fun _ => some false) (fun k => by rw [hstep, if_neg (by omega), if_pos (by omega), if_pos h1, if_pos rfl]) (Ev.now _), fun h => (by cases h), fun h => absurd (h.2.2 h1).1 (by decide)⟩
        | false =>
          by_cases h2 : s.size ≤ 1
          · exact ⟨true, Ev.step (f := fun _ => some true) (fun k => by rw [hstep, if_neg (by omega), if_pos (by omega), if_pos h1, if_neg (by decide), if_neg (by omega)]) (Ev.now _), fun _ => ⟨hb, by omega, fun _ => ⟨rfl, h2⟩⟩, fun _ => rfl⟩
          · exact ⟨false, Ev.step (f := fun _ => some false) (fun k => by rw [hstep, if_neg (by omega), if_pos (by omega), if_pos h1, if_neg (by decide), if_pos (by omega)]) (Ev.now _), fun h => (by cases h), fun h => absurd (h.2.2 h1).2 h2⟩
      · exact ⟨true, Ev.step (f := fun _ => some true) (fun k => by rw [hstep, if_neg (by omega), if_pos (by omega), if_neg h1]) (Ev.now _), fun _ => ⟨hb, by omega, fun h => absurd h h1⟩, fun _ => rfl⟩
  | succ d ih =>
    intro i hd hi hb
    have hi' : i < s.size := by omega
    by_cases h1 : bt s (i : Int) < 48
    · exact ⟨false, Ev.step (f := fun _ => some false) (fun k => by rw [klipperef01_Canonical.l0, if_pos (by omega), if_pos (by omega), if_pos h1]) (Ev.now _), fun h => (by cases h), fun h => by have := h.1 i hi'; omega⟩
    · by_cases h2 : bt s (i : Int) > 57
      · exact ⟨false, Ev.step (f := fun _ => some false) (fun k => by rw [klipperef01_Canonical.l0, if_pos (by omega), if_pos (by omega), if_neg h1, if_pos h2]) (Ev.now _), fun h => (by cases h), fun h => by have := h.1 i hi'; omega⟩
      · obtain ⟨r, hr, hR⟩ := ih (i + 1) (by omega) (by omega) (fun j hj => by
          by_cases e : j = i
          · subst e; omega
          · exact hb j (by omega))
        exact ⟨r, Ev.step (f := fun k => klipperef01_Canonical.l0 k g s ((i + 1 : Nat) : Int)) (fun k => by rw [klipperef01_Canonical.l0, if_pos (by omega), if_pos (by omega), if_neg h1, if_neg h2, wrap64_id (x := (i : Int) + 1) (by omega) (by omega)]; rfl) hr, hR⟩
theorem right1_is (s : ByteArray) (hl : s.size < 1099511627776) : ∃ r, Ev (fun k => klipperef01_Right.f k s) r ∧ (r = true ↔ Can (ngB s) (bdy s) ∧ (bdy s).size ≤ 200) := by
  have hbs := bdy_size s
  obtain ⟨r, hr, hR⟩ := can_loop (ngB s) (bdy s) (by omega) (bdy s).size 0 (by omega) (by omega) (fun j hj => by omega)
  have hc : Ev (fun k => klipperef01_Canonical.f k s) r := Ev.congr (fun k => by simp only [klipperef01_Canonical.f]; rw [split_is, Option.bind_some]; rfl) hr
  refine ⟨if r = true then decide (((bdy s).size : Int) ≤ 200) else false, Ev.congr (f := fun k => (klipperef01_Canonical.f k s).bind fun t618 => (if t618 = true then (some (decide (((bdy s).size : Int) ≤ 200))) else (some false))) (fun k => ?_) (Ev.bind hc (Ev.congr (fun k => ?_) (Ev.now _))), ?_⟩
  · simp only [klipperef01_Right.f]
    rw [split_is, Option.bind_some]
  · split <;> rfl
  · rw [← hR]
    cases r with
    | true => simp; omega
    | false => simp
theorem can_iff (g : Bool) (s : ByteArray) : (Can g s ∧ s.size ≤ 200) ↔ (DOk s ∧ (g = true → dvt s s.size ≠ 0)) := by
  constructor
  · rintro ⟨⟨h1, h2, h3⟩, h4⟩
    have hD : DOk s := ⟨h2, h4, fun h => (h3 h).2, h1⟩
    refine ⟨hD, fun hg h0 => ?_⟩
    obtain ⟨c, hc, hc2⟩ := dec_one hD.dec (by omega)
    have e : bt s ((0 : Nat) : Int) = 48 := by
      rw [bt_list, hc]
      simp only [List.getD_cons_zero]
      omega
    have := (h3 e).1
    rw [hg] at this
    cases this
  · rintro ⟨hD, hg⟩
    refine ⟨⟨hD.dig, hD.pos, fun h => ⟨?_, hD.zero h⟩⟩, hD.len⟩
    cases g with
    | false => rfl
    | true =>
      exfalso
      refine hg rfl ?_
      have e : s.size = 1 := by have := hD.zero h; have := hD.pos; omega
      rw [e]
      show 0 * 10 + (bt s 0 - 48).toNat = 0
      omega
theorem ints_of {s : ByteArray} (h : DOk (bdy s)) (hg : ngB s = true → dvt (bdy s) (bdy s).size ≠ 0) : IntS s (ngB s) (dvt (bdy s) (bdy s).size) := ⟨rfl, h.dec, hg⟩
end Go.Proofs.YtfhlmmmhcpkjnaaGreatDoor.Pl
namespace Go.Proofs.YtfhlmmmhcpkjnaaGreatDoor.Pl
open Go.RowKit Go.Proofs.YtfhlmmmhcpkjnaaGreatDoorW.PrintWords Go.Proofs.YtfhlmmmhcpkjnaaGreatDoor.PCheckerNumbers
theorem ng_list (s : ByteArray) : ngB s = true ↔ ∃ r, s.data.toList = 45 :: r := by
  constructor
  · intro h
    unfold ngB at h
    have h' := of_decide_eq_true h
    have e : bt s ((0 : Nat) : Int) = 45 := h'.2
    have hl := size_list s
    cases hd : s.data.toList with
    | nil => rw [hd] at hl; simp at hl; omega
    | cons x r =>
      rw [bt_list, hd] at e
      simp only [List.getD_cons_zero] at e
      exact ⟨r, by rw [show x = 45 from UInt8.toNat_inj.1 (by show x.toNat = 45; omega)]⟩
  · rintro ⟨r, h⟩
    exact ng_cons h
theorem bdy_list {s : ByteArray} {r : List UInt8} (h : s.data.toList = 45 :: r) : (bdy s).data.toList = r := by
  have hl := size_list s
  rw [h, List.length_cons] at hl
  unfold bdy
  rw [if_pos (ng_cons h), ext_list, h, List.drop_succ_cons, List.drop_zero, List.take_of_length_le (by omega)]
theorem ix_neg {s : ByteArray} {r : List UInt8} (h : s.data.toList = 45 :: r) : ix s = if ix (bdy s) = -1 then -1 else ix (bdy s) + 1 := by
  unfold ix
  rw [bdy_list h, h, Lib.indexByte, if_neg (by decide)]
  by_cases e : Lib.indexByte r 47 = -1
  · rw [if_pos e, if_pos (by rw [e]; rfl)]
  · rw [if_neg e, if_neg (by simpa using e)]
theorem numP_list {s : ByteArray} (h : 0 ≤ ix s) : (numP s).data.toList = s.data.toList.take (ix s).toNat := by
  unfold numP
  rw [if_pos h, ext_list, List.drop_zero, Nat.sub_zero]
theorem denP_list {s : ByteArray} (h : 0 ≤ ix s) : (denP s).data.toList = s.data.toList.drop ((ix s).toNat + 1) := by
  unfold denP
  rw [if_pos h, ext_list, List.take_of_length_le (by rw [List.length_drop, size_list]; omega)]
theorem parts_same (s : ByteArray) : ngB (numP s) = ngB s ∧ bdy (numP s) = numP (bdy s) ∧ (0 ≤ ix s ↔ 0 ≤ ix (bdy s)) ∧ denP s = denP (bdy s) := by
  have hge := ix_ge (bdy s)
  by_cases hn : ngB s = true
  · obtain ⟨r, hr⟩ := (ng_list s).1 hn
    have hi := ix_neg hr
    have hb := bdy_list hr
    by_cases h0 : ix (bdy s) = -1
    · rw [if_pos h0] at hi
      have e1 : numP s = s := by unfold numP; rw [if_neg (by omega)]
      have e2 : numP (bdy s) = bdy s := by unfold numP; rw [if_neg (by omega)]
      have e3 : denP s = ⟨#[]⟩ := by unfold denP; rw [if_neg (by omega)]
      have e4 : denP (bdy s) = ⟨#[]⟩ := by unfold denP; rw [if_neg (by omega)]
      rw [e1, e2, e3, e4]
      exact ⟨rfl, rfl, by omega, rfl⟩
    · rw [if_neg h0] at hi
      have hc : (numP s).data.toList = 45 :: r.take (ix (bdy s)).toNat := by
        rw [numP_list (by omega), hr, show (ix s).toNat = (ix (bdy s)).toNat + 1 by omega, List.take_succ_cons]
      refine ⟨by rw [ng_cons hc, hn], ba_eq ?_, by omega, ba_eq ?_⟩
      · rw [bdy_list hc, numP_list (by omega), hb]
      · rw [denP_list (by omega), denP_list (by omega), hr, hb, show (ix s).toNat + 1 = ((ix (bdy s)).toNat + 1) + 1 by omega, List.drop_succ_cons]
  · have eb : bdy s = s := by unfold bdy; rw [if_neg hn]
    have hn2 : ngB (numP s) ≠ true := by
      intro h
      obtain ⟨r, hr⟩ := (ng_list _).1 h
      by_cases h0 : 0 ≤ ix s
      · rw [numP_list h0] at hr
        refine hn ((ng_list s).2 ?_)
        cases hd : s.data.toList with
        | nil => rw [hd] at hr; simp at hr
        | cons x l =>
          rw [hd] at hr
          cases hk : (ix s).toNat with
          | zero => rw [hk] at hr; simp at hr
          | succ m =>
            rw [hk, List.take_succ_cons] at hr
            injection hr with h1 h2
            exact ⟨l, by rw [h1]⟩
      · have e1 : numP s = s := by unfold numP; rw [if_neg h0]
        rw [e1] at h
        exact hn h
    refine ⟨?_, ?_, by rw [eb], by rw [eb]⟩
    · rw [Bool.eq_false_iff.2 hn, Bool.eq_false_iff.2 hn2]
    · rw [eb]
      unfold bdy
      rw [if_neg hn2]
theorem parts2_is (s : ByteArray) (hl : s.size < 1099511627776) : klipperef02_Parts.f s = some (numP s, if 0 ≤ ix s then denP s else one) := by
  have h0 := ix_ge s
  have h1 := ix_lt s
  have e : strings_IndexByte.f s 47 = some (ix s) := rfl
  simp only [klipperef02_Parts.f]
  rw [e, Option.bind_some]
  by_cases h : 0 ≤ ix s
  · rw [if_neg (by omega), if_pos h, if_pos (by omega), wrap64_id (x := ix s + 1) (by omega) (by omega), if_pos (by omega), if_pos (by omega), if_pos h]
    simp only [numP, denP, if_pos h]
    rw [show (ix s + 1).toNat = (ix s).toNat + 1 by omega]
  · rw [if_pos (by omega), if_neg h]
    simp only [numP, if_neg h]
    rfl
end Go.Proofs.YtfhlmmmhcpkjnaaGreatDoor.Pl
namespace Go.Proofs.YtfhlmmmhcpkjnaaGreatDoor.Pl
open Go.RowKit Go.Proofs.YtfhlmmmhcpkjnaaGreatDoorW.PrintWords Go.Proofs.YtfhlmmmhcpkjnaaGreatDoor.PCheckerNumbers
theorem dok_ng {s : ByteArray} (h : DOk s) : ngB s = false := h.dec.ng
theorem dok_bd {s : ByteArray} (h : DOk s) : bdy s = s := h.dec.bd
theorem one_dok : DOk one := ⟨by decide, by decide, fun _ => by decide, one_dec.isDig⟩
theorem r2_j0_bad (s N D : ByteArray) : Ev (fun k => klipperef02_Right.j0 k s N D true) false :=
  Ev.step (f := fun _ => some false) (fun k => by rw [klipperef02_Right.j0, if_pos rfl]) (Ev.now _)
theorem num_zero {N : ByteArray} (h : DOk (bdy N)) (hg : ngB N = true → dvt (bdy N) (bdy N).size ≠ 0) : N.toList = [48] ↔ dvt (bdy N) (bdy N).size = 0 := by
  by_cases hn : ngB N = true
  · obtain ⟨r, hr⟩ := (ng_list N).1 hn
    refine ⟨fun h => ?_, fun h0 => absurd h0 (hg hn)⟩
    rw [ByteArray.toList_eq, hr] at h
    injection h with h1 h2
    exact absurd h1 (by decide)
  · have eb : bdy N = N := by unfold bdy; rw [if_neg hn]
    rw [eb] at h ⊢
    exact h.dec.zero_iff
theorem right2_is (s : ByteArray) (hl : s.size < 10000) : ∃ r, Ev (fun k => klippelaw02_Right.f k s) r ∧ (r = true ↔ NOk (ngB s) (numP (bdy s)) (denP (bdy s)) (decide (0 ≤ ix (bdy s)))) := by
  obtain ⟨hp1, hp2, hp3, hp4⟩ := parts_same s
  have hns := numP_size s
  have hds := denP_size s
  have hbN := bdy_size (numP s)
  obtain ⟨D, hD⟩ : ∃ D, D = if 0 ≤ ix s then denP s else one := ⟨_, rfl⟩
  have hDs : D.size ≤ 10000 := by
    rw [hD]
    split
    · omega
    · decide
  have hparts := parts2_is s (by omega)
  rw [← hD] at hparts
  have hbD := bdy_size D
  obtain ⟨r1, hr1, hR1⟩ := right1_is (numP s) (by omega)
  obtain ⟨r2, hr2, hR2⟩ := right1_is D (by omega)
  rw [can_iff] at hR1 hR2
  have hgo : ∀ r, Ev (fun k => if r1 = true then klipperef02_Right.j0 k s (numP s) D (!r2) else klipperef02_Right.j0 k s (numP s) D true) r → Ev (fun k => klippelaw02_Right.f k s) r := by
    intro r hr
    have h2 : Ev (fun k => if r1 = true then ((klipperef01_Right.f k D).bind fun t791 => klipperef02_Right.j0 k s (numP s) D (!t791)) else klipperef02_Right.j0 k s (numP s) D true) r := by
      cases r1 with
      | true => exact Ev.congr (fun k => if_pos rfl) (Ev.bind hr2 (Ev.congr (fun k => (if_pos rfl).symm) hr))
      | false => exact Ev.congr (fun k => if_neg (by decide)) (Ev.congr (fun k => (if_neg (by decide)).symm) hr)
    have h3 : Ev (fun k => (klipperef01_Right.f k (numP s)).bind fun t790 => if t790 = true then ((klipperef01_Right.f k D).bind fun t791 => klipperef02_Right.j0 k s (numP s) D (!t791)) else klipperef02_Right.j0 k s (numP s) D true) r := Ev.bind hr1 h2
    have h4 : Ev (fun k => klipperef02_Right.f k s) r := Ev.congr (fun k => by
      simp only [klipperef02_Right.f]
      rw [hparts, Option.bind_some]) h3
    exact Ev.congr (f := fun k => (klipperef02_Right.f k s).bind fun t795 => some t795) (fun k => rfl) (Ev.bind h4 (Ev.now _))
  cases r1 with
  | false =>
    refine ⟨false, hgo _ (Ev.congr (fun k => if_neg (by decide)) (r2_j0_bad _ _ _)), fun h => (by cases h), fun h => ?_⟩
    have := hR1.2 ⟨by rw [hp2]; exact h.num, by rw [hp1, hp2]; exact h.sign⟩
    cases this
  | true =>
    obtain ⟨hN, hNs⟩ := hR1.1 rfl
    have hN' := hN
    have hNs' := hNs
    rw [hp2] at hN'
    rw [hp1, hp2] at hNs'
    by_cases h0 : 0 ≤ ix s
    · have h0' := hp3.1 h0
      rw [if_pos h0, hp4] at hD
      rw [← hD, decide_eq_true h0']
      cases r2 with
      | false =>
        refine ⟨false, hgo _ (Ev.congr (fun k => if_pos rfl) (r2_j0_bad _ _ _)), fun h => (by cases h), fun h => ?_⟩
        have h1 := (h.den rfl).1
        have := hR2.2 ⟨by rw [dok_bd h1]; exact h1, fun hh => by rw [dok_ng h1] at hh; cases hh⟩
        cases this
      | true =>
        obtain ⟨hDD, hDs2⟩ := hR2.1 rfl
        obtain ⟨c, hc, hcc⟩ := compare_mone (ints_of hDD hDs2) (by
          by_cases e : D.size = 10000
          · have := hDD.len
            exfalso
            have h5 : D.size ≤ (bdy D).size + 1 := by
              unfold bdy
              split
              · rw [ext_size _ _ _ (Nat.le_refl _)]; omega
              · omega
            omega
          · omega)
        have hix : strings_IndexByte.f s 47 = some (ix s) := rfl
        have hstep : ∀ k, klipperef02_Right.j0 (k + 1) s (numP s) D false = (klipperef01_Compare.f k D one).bind fun t793 => (if t793 > 0 then (if (numP s).toList = ([48] : List UInt8) then (some false) else ((klipperef01_Gcd.f k (numP s) D).bind fun t794 => (some (t794.toList == ([49] : List UInt8))))) else (some false)) := fun k => by
          rw [klipperef02_Right.j0, if_neg (by decide), hix, Option.bind_some, if_neg (by omega)]
          rfl
        by_cases hpos : c > 0
        · obtain ⟨hg, h1⟩ := hcc.1 hpos
          have eb : bdy D = D := by unfold bdy; rw [if_neg (by rw [hg]; decide)]
          rw [eb] at hDD h1
          have hz := num_zero hN hNs
          rw [hp2] at hz
          by_cases hx0 : dvt (numP (bdy s)) (numP (bdy s)).size = 0
          · refine ⟨false, hgo _ (Ev.congr (fun k => if_pos rfl) (Ev.step (f := _) hstep (Ev.bind hc (Ev.congr (fun k => ?_) (Ev.now false))))), fun h => (by cases h), fun h => absurd hx0 (h.den rfl).2.2.1⟩
            rw [if_pos hpos, if_pos (hz.2 hx0)]
          · obtain ⟨g, hgv, hG⟩ := gcdS_loop _ _ (bdy (numP s)) D (by rw [hp2]; exact hN'.dec) hDD.dec (by omega) (by have := hDD.len; omega)
            have hgf : Ev (fun k => klipperef01_Gcd.f k (numP s) D) g := Ev.congr (fun k => by
              simp only [klipperef01_Gcd.f, klipperef01_Abs.f]
              rw [split_is, split_is, Option.bind_some, Option.bind_some, Option.bind_some, Option.bind_some, eb]) hgv
            refine ⟨g.toList == [49], hgo _ (Ev.congr (fun k => if_pos rfl) (Ev.step (f := _) hstep (Ev.bind hc (Ev.congr (f := fun k => (klipperef01_Gcd.f k (numP s) D).bind fun t794 => (some (t794.toList == ([49] : List UInt8)))) (fun k => ?_) (Ev.bind hgf (Ev.now _)))))), ?_⟩
            · rw [if_pos hpos, if_neg (fun h => hx0 (hz.1 h))]
            · rw [beq_iff_eq, hG.one_iff]
              exact ⟨fun h => ⟨hN', hNs', fun _ => ⟨hDD, h1, hx0, h⟩⟩, fun h => (h.den rfl).2.2.2⟩
        · refine ⟨false, hgo _ (Ev.congr (fun k => if_pos rfl) (Ev.step (f := _) hstep (Ev.bind hc (Ev.congr (fun k => if_neg hpos) (Ev.now false))))), fun h => (by cases h), fun h => ?_⟩
          have h2 := h.den rfl
          exact absurd (hcc.2 ⟨dok_ng h2.1, by rw [dok_bd h2.1]; exact h2.2.1⟩) hpos
    · have h0' : ¬ 0 ≤ ix (bdy s) := fun h => h0 (hp3.2 h)
      rw [if_neg h0] at hD
      have hr2t : r2 = true := hR2.2 (by
        rw [hD, one_dec.bd, one_dec.ng]
        exact ⟨one_dok, fun h => by cases h⟩)
      subst hr2t
      have hix : strings_IndexByte.f s 47 = some (ix s) := rfl
      refine ⟨true, hgo _ (Ev.congr (fun k => if_pos rfl) (Ev.step (f := fun _ => some true) (fun k => ?_) (Ev.now _))), fun _ => ⟨hN', hNs', fun h => absurd (of_decide_eq_true h) h0'⟩, fun _ => rfl⟩
      show klipperef02_Right.j0 (k + 1) s (numP s) D false = _
      rw [klipperef02_Right.j0, if_neg (by decide), hix, Option.bind_some, if_pos (by omega)]
end Go.Proofs.YtfhlmmmhcpkjnaaGreatDoor.Pl
namespace Go.Proofs.YtfhlmmmhcpkjnaaGreatDoor.Pl
open Go.RowKit Go.Proofs.YtfhlmmmhcpkjnaaGreatDoorW.PrintWords Go.Proofs.YtfhlmmmhcpkjnaaGreatDoor.PCheckerNumbers
theorem pure : klippelaw55_CheckerNumbers.Pure := by
  intro s _
  have key : Ev (fun k => klippelaw55_CheckerNumbers.f k s) true := by
    by_cases h : (s.size : Int) > 450
    · refine Ev.congr (f := fun k => klippelaw55_CheckerNumbers.j0 k s true) (fun k => ?_) (Ev.step (f := fun _ => some true) (fun k => ?_) (Ev.now _))
      · rw [klippelaw55_CheckerNumbers.f, klippelaw55_knownT.f, Option.bind_some, if_pos rfl, decide_eq_true h]
      · rw [klippelaw55_CheckerNumbers.j0, if_pos rfl, klippelaw55_knownT.f, Option.bind_some]
    · obtain ⟨r, hr, hR⟩ := number_is s (by omega)
      obtain ⟨t, ht, hT⟩ := right2_is s (by omega)
      have e : (r == t) = true := by
        rw [beq_iff_eq, Bool.eq_iff_iff, hR, hT]
      refine Ev.congr (f := fun k => klippelaw55_CheckerNumbers.j0 k s false) (fun k => ?_) (Ev.step (f := fun k => (checker_Number.f k s).bind fun t798 => ((klippelaw02_Right.f k s).bind fun t799 => (some (t798 == t799)))) (fun k => ?_) (Ev.bind hr (Ev.bind ht (Ev.congr (fun k => by rw [e]) (Ev.now true)))))
      · rw [klippelaw55_CheckerNumbers.f, klippelaw55_knownT.f, Option.bind_some, if_pos rfl, decide_eq_false h]
      · rw [klippelaw55_CheckerNumbers.j0, if_neg (by decide)]
  exact key.rounds
end Go.Proofs.YtfhlmmmhcpkjnaaGreatDoor.Pl
