/- Functions of the program as plain Lean functions, with proved contracts; printed by programs of this session. -/
import Derived.Test.YtbgmfgndldnmcaaGreatDoorProg
import Derived.Below
import Derived.WalkSmall
import Derived.Test.YtbgmfgndldnmcaaGreatDoorShelf
import Derived.Test.YtbgmfgndldnmcaaGreatDoorWq
import Derived.Laws.EntriesVeiled
namespace Go.Proofs.YtbgmfgndldnmcaaGreatDoor.PCheckerNever
open Go.RowKit Go.Proofs.YtbgmfgndldnmcaaGreatDoorW.PrintWords Go.Proofs.YtbgmfgndldnmcaaGreatDoorW.PrintLast Go.Proofs.YtbgmfgndldnmcaaGreatDoorW.PrintMore Go.Proofs.YtbgmfgndldnmcaaGreatDoorW.Q
attribute [local go_sem] max2_int max_two
set_option linter.unusedVariables false
set_option linter.unusedSimpArgs false
def errW : Option Int → Value
  | none => .nilIface
  | some c => .iface 0 (.int .i64 c)
theorem errW_none : errW none = .nilIface := rfl
theorem errW_some (c : Int) : errW (some c) = .iface 0 (.int .i64 c) := rfl
theorem info3 : (Tryz.prog.info? 3).map (fun i => (i.zero, i.size, i.bytes)) = some (some (.int .i64 0), 1, 8) := by kernel_rfl
theorem info5 : (Tryz.prog.info? 5).map (fun i => (i.zero, i.size, i.bytes)) = some (some (.int .u8 0), 1, 1) := by kernel_rfl
theorem info9 : (Tryz.prog.info? 9).map (fun i => (i.zero, i.size, i.bytes)) = some (some (.string ⟨#[]⟩), 1, 16) := by kernel_rfl
theorem info33 : (Tryz.prog.info? 33).map (fun i => (i.zero, i.size, i.bytes)) = some (some (.agg #[(.int .i64 0), (.string ⟨#[]⟩), (.string ⟨#[]⟩)]), 3, 40) := by kernel_rfl
theorem info34 : (Tryz.prog.info? 34).map (fun i => (i.zero, i.size, i.bytes)) = some (some (.string ⟨#[]⟩), 1, 16) := by kernel_rfl
theorem info37 : (Tryz.prog.info? 37).map (fun i => (i.zero, i.size, i.bytes)) = some (some (.agg #[(.slice none 0 0), (.string ⟨#[]⟩)]), 2, 40) := by kernel_rfl
theorem info61 : (Tryz.prog.info? 61).map (fun i => (i.zero, i.size, i.bytes)) = some (some (.agg #[(.bool false), (.slice none 0 0), (.slice none 0 0)]), 3, 56) := by kernel_rfl
theorem info64 : (Tryz.prog.info? 64).map (fun i => (i.zero, i.size, i.bytes)) = some (some (.slice none 0 0), 1, 24) := by kernel_rfl
theorem info107 : (Tryz.prog.info? 107).map (fun i => (i.zero, i.size, i.bytes)) = some (some (.int .u32 0), 1, 4) := by kernel_rfl
-- the values' own types
structure S33 where
 f0 : Int
 f1 : ByteArray
 f2 : ByteArray
def z33 : S33 := ⟨(0 : Int), (⟨#[]⟩ : ByteArray), (⟨#[]⟩ : ByteArray)⟩
def k33 : Kd S33 := Kd.iso (Kd.pair (Kd.int .i64) (Kd.pair Kd.string Kd.string)) (fun x : S33 => (x.f0, x.f1, x.f2))
theorem k33_heap : Kd.Heap k33 := Kd.heap_iso _ (Kd.heap_pair (Kd.heap_int .i64) (Kd.heap_pair Kd.heap_string Kd.heap_string))
theorem k33_open {w : World} {x : S33} {cs : List Value} (h : k33.K w x cs) : cs = [.int .i64 x.f0, .string x.f1, .string x.f2] := by
 obtain ⟨_, _, rfl, rfl, ⟨_, _, rfl, rfl, rfl⟩⟩ := h
 exact rfl
theorem k33_openM {w : World} {base : Nat} {ok : Nat → Prop} {x : S33} {cs : List Value} (h : k33.M w base ok x cs) : cs = [.int .i64 x.f0, .string x.f1, .string x.f2] := by
 obtain ⟨_, _, rfl, rfl, ⟨_, _, rfl, rfl, rfl⟩⟩ := h
 exact rfl
theorem k33_mk (w : World) (x : S33)  : k33.K w x [.int .i64 x.f0, .string x.f1, .string x.f2] := ⟨[.int .i64 x.f0], [.string x.f1, .string x.f2], rfl, rfl, ⟨[.string x.f1], [.string x.f2], rfl, rfl, rfl⟩⟩
theorem k33_mkM (w : World) (base : Nat) (ok : Nat → Prop) (x : S33)  : k33.M w base ok x [.int .i64 x.f0, .string x.f1, .string x.f2] := ⟨[.int .i64 x.f0], [.string x.f1, .string x.f2], rfl, rfl, ⟨[.string x.f1], [.string x.f2], rfl, rfl, rfl⟩⟩
theorem k33_mkF (W : World) (ok : Nat → Prop) (x : S33) : Kd.FK k33 W ok x [.int .i64 x.f0, .string x.f1, .string x.f2] := fun W2 _ => k33_mk W2 x
def rd_T33 (xs : List S33) (i : Int) : S33 := xs.getD i.toNat z33
theorem at_T33 {w : World} {A : Option Addr} {n : Nat} {xs : List S33} (h : Kd.C k33 w A n xs) (i : Int) (h0 : 0 ≤ i) (h1 : i < n) : ∃ ad , A = some ad ∧ w.cell? (ad.add (i.toNat * 3)) = some (.int .i64 (rd_T33 xs i).f0) ∧ w.cell? ⟨(ad.add (i.toNat * 3)).block, (ad.add (i.toNat * 3)).off + 1, none⟩ = some (.string (rd_T33 xs i).f1) ∧ w.cell? ⟨(ad.add (i.toNat * 3)).block, (ad.add (i.toNat * 3)).off + 2, none⟩ = some (.string (rd_T33 xs i).f2) := by
 obtain ⟨ad, c, e, _, hK, hc0⟩ := Kd.C_get h z33 i h0 h1
 have hc : ∀ j u, c[j]? = some u → w.cell? (ad.add (i.toNat * 3 + j)) = some u := hc0
 obtain rfl := k33_open hK
 exact ⟨ad, e, hc 0 _ rfl, by rw [← add_field _ _ 1 (by omega)]; exact hc 1 _ rfl, by rw [← add_field _ _ 2 (by omega)]; exact hc 2 _ rfl⟩
def rd_L3 (xs : List (List S33)) (i : Int) : (List S33) := xs.getD i.toNat ([] : List S33)
theorem at_L3 {w : World} {A : Option Addr} {n : Nat} {xs : List (List S33)} (h : Kd.C (Kd.slice 33 k33) w A n xs) (i : Int) (h0 : 0 ≤ i) (h1 : i < n) : ∃ ad A0 c0, A = some ad ∧ w.cell? (ad.add i.toNat) = some (.slice A0 (rd_L3 xs i).length c0) ∧ (rd_L3 xs i).length ≤ c0 ∧ k33.C w A0 (rd_L3 xs i).length (rd_L3 xs i) := by
 obtain ⟨ad, c, e, _, hK, hc0⟩ := Kd.C_get h ([] : List S33) i h0 h1
 have hc : ∀ j u, c[j]? = some u → w.cell? (ad.add (i.toNat * 1 + j)) = some u := hc0
 obtain ⟨A0, c0, rfl, l0, g0⟩ := hK
 exact ⟨ad, A0, c0, e, by have hq := hc 0 _ rfl; rwa [Nat.mul_one, Nat.add_zero] at hq, l0, g0⟩
def rd_L4 (xs : List (List ByteArray)) (i : Int) : (List ByteArray) := xs.getD i.toNat ([] : List ByteArray)
theorem at_L4 {w : World} {A : Option Addr} {n : Nat} {xs : List (List ByteArray)} (h : Kd.C (Kd.slice 9 Kd.string) w A n xs) (i : Int) (h0 : 0 ≤ i) (h1 : i < n) : ∃ ad A0 c0, A = some ad ∧ w.cell? (ad.add i.toNat) = some (.slice A0 (rd_L4 xs i).length c0) ∧ (rd_L4 xs i).length ≤ c0 ∧ Kd.string.C w A0 (rd_L4 xs i).length (rd_L4 xs i) := by
 obtain ⟨ad, c, e, _, hK, hc0⟩ := Kd.C_get h ([] : List ByteArray) i h0 h1
 have hc : ∀ j u, c[j]? = some u → w.cell? (ad.add (i.toNat * 1 + j)) = some u := hc0
 obtain ⟨A0, c0, rfl, l0, g0⟩ := hK
 exact ⟨ad, A0, c0, e, by have hq := hc 0 _ rfl; rwa [Nat.mul_one, Nat.add_zero] at hq, l0, g0⟩
def rd_L7 (xs : List (List Int)) (i : Int) : (List Int) := xs.getD i.toNat ([] : List Int)
theorem at_L7 {w : World} {A : Option Addr} {n : Nat} {xs : List (List Int)} (h : Kd.C (Kd.slice 107 (Kd.int .u32)) w A n xs) (i : Int) (h0 : 0 ≤ i) (h1 : i < n) : ∃ ad A0 c0, A = some ad ∧ w.cell? (ad.add i.toNat) = some (.slice A0 (rd_L7 xs i).length c0) ∧ (rd_L7 xs i).length ≤ c0 ∧ (Kd.int .u32).C w A0 (rd_L7 xs i).length (rd_L7 xs i) := by
 obtain ⟨ad, c, e, _, hK, hc0⟩ := Kd.C_get h ([] : List Int) i h0 h1
 have hc : ∀ j u, c[j]? = some u → w.cell? (ad.add (i.toNat * 1 + j)) = some u := hc0
 obtain ⟨A0, c0, rfl, l0, g0⟩ := hK
 exact ⟨ad, A0, c0, e, by have hq := hc 0 _ rfl; rwa [Nat.mul_one, Nat.add_zero] at hq, l0, g0⟩
structure S61 where
 f0 : Bool
 f1 : (List Int)
 f2 : (List Int)
def z61 : S61 := ⟨false, ([] : List Int), ([] : List Int)⟩
def k61 : Kd S61 := Kd.iso (Kd.pair Kd.bool (Kd.pair (Kd.slice 107 (Kd.int .u32)) (Kd.slice 107 (Kd.int .u32)))) (fun x : S61 => (x.f0, x.f1, x.f2))
theorem k61_heap : Kd.Heap k61 := Kd.heap_iso _ (Kd.heap_pair Kd.heap_bool (Kd.heap_pair (Kd.heap_slice 107 (Kd.heap_int .u32)) (Kd.heap_slice 107 (Kd.heap_int .u32))))
theorem k61_open {w : World} {x : S61} {cs : List Value} (h : k61.K w x cs) : ∃ A1 c1 A2 c2, cs = [.bool x.f0, .slice A1 x.f1.length c1, .slice A2 x.f2.length c2] ∧ x.f1.length ≤ c1 ∧ (Kd.int .u32).C w A1 x.f1.length x.f1 ∧ x.f2.length ≤ c2 ∧ (Kd.int .u32).C w A2 x.f2.length x.f2 := by
 obtain ⟨_, _, rfl, rfl, ⟨_, _, rfl, ⟨A1, c1, rfl, l1, g1⟩, ⟨A2, c2, rfl, l2, g2⟩⟩⟩ := h
 exact ⟨A1, c1, A2, c2, rfl, l1, g1, l2, g2⟩
theorem k61_openM {w : World} {base : Nat} {ok : Nat → Prop} {x : S61} {cs : List Value} (h : k61.M w base ok x cs) : ∃ v1 v2, cs = [.bool x.f0, v1, v2] ∧ (Kd.int .u32).R 107 w base ok v1 x.f1 ∧ (Kd.int .u32).R 107 w base ok v2 x.f2 := by
 obtain ⟨_, _, rfl, rfl, ⟨_, _, rfl, ⟨v1, rfl, g1⟩, ⟨v2, rfl, g2⟩⟩⟩ := h
 exact ⟨v1, v2, rfl, g1, g2⟩
theorem k61_mk (w : World) (x : S61) {A1 : Option Addr} {c1 : Nat} (l1 : x.f1.length ≤ c1) (g1 : (Kd.int .u32).C w A1 x.f1.length x.f1) {A2 : Option Addr} {c2 : Nat} (l2 : x.f2.length ≤ c2) (g2 : (Kd.int .u32).C w A2 x.f2.length x.f2) : k61.K w x [.bool x.f0, .slice A1 x.f1.length c1, .slice A2 x.f2.length c2] := ⟨[.bool x.f0], [.slice A1 x.f1.length c1, .slice A2 x.f2.length c2], rfl, rfl, ⟨[.slice A1 x.f1.length c1], [.slice A2 x.f2.length c2], rfl, ⟨A1, c1, rfl, l1, g1⟩, ⟨A2, c2, rfl, l2, g2⟩⟩⟩
theorem k61_mkM (w : World) (base : Nat) (ok : Nat → Prop) (x : S61) {v1 : Value} (g1 : (Kd.int .u32).R 107 w base ok v1 x.f1) {v2 : Value} (g2 : (Kd.int .u32).R 107 w base ok v2 x.f2) : k61.M w base ok x [.bool x.f0, v1, v2] := ⟨[.bool x.f0], [v1, v2], rfl, rfl, ⟨[v1], [v2], rfl, ⟨v1, rfl, g1⟩, ⟨v2, rfl, g2⟩⟩⟩
theorem k61_openF {W : World} {ok : Nat → Prop} {x : S61} {cs : List Value} (h : Kd.FK k61 W ok x cs) : ∃ A1 c1 A2 c2, cs = [.bool x.f0, .slice A1 x.f1.length c1, .slice A2 x.f2.length c2] ∧ x.f1.length ≤ c1 ∧ Kd.F (Kd.int .u32) W ok A1 x.f1.length x.f1 ∧ x.f2.length ≤ c2 ∧ Kd.F (Kd.int .u32) W ok A2 x.f2.length x.f2 := by
 obtain ⟨A1, c1, A2, c2, rfl, l1, _, l2, _⟩ := k61_open (Kd.FK_now h)
 exact ⟨A1, c1, A2, c2, rfl, l1, (fun W' hW => by obtain ⟨A1_, c1_, A2_, c2_, he, l1_, g1_, l2_, g2_⟩ := k61_open (h W' hW); injection (Option.some.inj (show some (Value.slice A1 x.f1.length c1) = some (Value.slice A1_ x.f1.length c1_) from congrArg (fun l => l[1]?) he)) with ha_ _ _; rw [ha_]; exact g1_), l2, (fun W' hW => by obtain ⟨A1_, c1_, A2_, c2_, he, l1_, g1_, l2_, g2_⟩ := k61_open (h W' hW); injection (Option.some.inj (show some (Value.slice A2 x.f2.length c2) = some (Value.slice A2_ x.f2.length c2_) from congrArg (fun l => l[2]?) he)) with ha_ _ _; rw [ha_]; exact g2_)⟩
theorem k61_mkF (W : World) (ok : Nat → Prop) (x : S61) {A1 : Option Addr} {c1 : Nat} (l1 : x.f1.length ≤ c1) (g1 : Kd.F (Kd.int .u32) W ok A1 x.f1.length x.f1) {A2 : Option Addr} {c2 : Nat} (l2 : x.f2.length ≤ c2) (g2 : Kd.F (Kd.int .u32) W ok A2 x.f2.length x.f2) : Kd.FK k61 W ok x [.bool x.f0, .slice A1 x.f1.length c1, .slice A2 x.f2.length c2] := fun W2 hW => k61_mk W2 x l1 (g1 W2 hW) l2 (g2 W2 hW)
def rd_T61 (xs : List S61) (i : Int) : S61 := xs.getD i.toNat z61
theorem at_T61 {w : World} {A : Option Addr} {n : Nat} {xs : List S61} (h : Kd.C k61 w A n xs) (i : Int) (h0 : 0 ≤ i) (h1 : i < n) : ∃ ad A1 c1 A2 c2, A = some ad ∧ w.cell? (ad.add (i.toNat * 3)) = some (.bool (rd_T61 xs i).f0) ∧ w.cell? ⟨(ad.add (i.toNat * 3)).block, (ad.add (i.toNat * 3)).off + 1, none⟩ = some (.slice A1 (rd_T61 xs i).f1.length c1) ∧ w.cell? ⟨(ad.add (i.toNat * 3)).block, (ad.add (i.toNat * 3)).off + 2, none⟩ = some (.slice A2 (rd_T61 xs i).f2.length c2) ∧ (rd_T61 xs i).f1.length ≤ c1 ∧ (Kd.int .u32).C w A1 (rd_T61 xs i).f1.length (rd_T61 xs i).f1 ∧ (rd_T61 xs i).f2.length ≤ c2 ∧ (Kd.int .u32).C w A2 (rd_T61 xs i).f2.length (rd_T61 xs i).f2 := by
 obtain ⟨ad, c, e, _, hK, hc0⟩ := Kd.C_get h z61 i h0 h1
 have hc : ∀ j u, c[j]? = some u → w.cell? (ad.add (i.toNat * 3 + j)) = some u := hc0
 obtain ⟨A1, c1, A2, c2, rfl, l1, g1, l2, g2⟩ := k61_open hK
 exact ⟨ad, A1, c1, A2, c2, e, hc 0 _ rfl, by rw [← add_field _ _ 1 (by omega)]; exact hc 1 _ rfl, by rw [← add_field _ _ 2 (by omega)]; exact hc 2 _ rfl, l1, g1, l2, g2⟩
def rd_L9 (xs : List (List ByteArray)) (i : Int) : (List ByteArray) := xs.getD i.toNat ([] : List ByteArray)
theorem at_L9 {w : World} {A : Option Addr} {n : Nat} {xs : List (List ByteArray)} (h : Kd.C (Kd.slice 34 Kd.string) w A n xs) (i : Int) (h0 : 0 ≤ i) (h1 : i < n) : ∃ ad A0 c0, A = some ad ∧ w.cell? (ad.add i.toNat) = some (.slice A0 (rd_L9 xs i).length c0) ∧ (rd_L9 xs i).length ≤ c0 ∧ Kd.string.C w A0 (rd_L9 xs i).length (rd_L9 xs i) := by
 obtain ⟨ad, c, e, _, hK, hc0⟩ := Kd.C_get h ([] : List ByteArray) i h0 h1
 have hc : ∀ j u, c[j]? = some u → w.cell? (ad.add (i.toNat * 1 + j)) = some u := hc0
 obtain ⟨A0, c0, rfl, l0, g0⟩ := hK
 exact ⟨ad, A0, c0, e, by have hq := hc 0 _ rfl; rwa [Nat.mul_one, Nat.add_zero] at hq, l0, g0⟩
structure S37 where
 f0 : (List ByteArray)
 f1 : ByteArray
def z37 : S37 := ⟨([] : List ByteArray), (⟨#[]⟩ : ByteArray)⟩
def k37 : Kd S37 := Kd.iso (Kd.pair (Kd.slice 34 Kd.string) Kd.string) (fun x : S37 => (x.f0, x.f1))
theorem k37_heap : Kd.Heap k37 := Kd.heap_iso _ (Kd.heap_pair (Kd.heap_slice 34 Kd.heap_string) Kd.heap_string)
theorem k37_open {w : World} {x : S37} {cs : List Value} (h : k37.K w x cs) : ∃ A0 c0, cs = [.slice A0 x.f0.length c0, .string x.f1] ∧ x.f0.length ≤ c0 ∧ Kd.string.C w A0 x.f0.length x.f0 := by
 obtain ⟨_, _, rfl, ⟨A0, c0, rfl, l0, g0⟩, rfl⟩ := h
 exact ⟨A0, c0, rfl, l0, g0⟩
theorem k37_openM {w : World} {base : Nat} {ok : Nat → Prop} {x : S37} {cs : List Value} (h : k37.M w base ok x cs) : ∃ v0, cs = [v0, .string x.f1] ∧ Kd.string.R 34 w base ok v0 x.f0 := by
 obtain ⟨_, _, rfl, ⟨v0, rfl, g0⟩, rfl⟩ := h
 exact ⟨v0, rfl, g0⟩
theorem k37_mk (w : World) (x : S37) {A0 : Option Addr} {c0 : Nat} (l0 : x.f0.length ≤ c0) (g0 : Kd.string.C w A0 x.f0.length x.f0) : k37.K w x [.slice A0 x.f0.length c0, .string x.f1] := ⟨[.slice A0 x.f0.length c0], [.string x.f1], rfl, ⟨A0, c0, rfl, l0, g0⟩, rfl⟩
theorem k37_mkM (w : World) (base : Nat) (ok : Nat → Prop) (x : S37) {v0 : Value} (g0 : Kd.string.R 34 w base ok v0 x.f0) : k37.M w base ok x [v0, .string x.f1] := ⟨[v0], [.string x.f1], rfl, ⟨v0, rfl, g0⟩, rfl⟩
theorem k37_openF {W : World} {ok : Nat → Prop} {x : S37} {cs : List Value} (h : Kd.FK k37 W ok x cs) : ∃ A0 c0, cs = [.slice A0 x.f0.length c0, .string x.f1] ∧ x.f0.length ≤ c0 ∧ Kd.F Kd.string W ok A0 x.f0.length x.f0 := by
 obtain ⟨A0, c0, rfl, l0, _⟩ := k37_open (Kd.FK_now h)
 exact ⟨A0, c0, rfl, l0, (fun W' hW => by obtain ⟨A0_, c0_, he, l0_, g0_⟩ := k37_open (h W' hW); injection (Option.some.inj (show some (Value.slice A0 x.f0.length c0) = some (Value.slice A0_ x.f0.length c0_) from congrArg (fun l => l[0]?) he)) with ha_ _ _; rw [ha_]; exact g0_)⟩
theorem k37_mkF (W : World) (ok : Nat → Prop) (x : S37) {A0 : Option Addr} {c0 : Nat} (l0 : x.f0.length ≤ c0) (g0 : Kd.F Kd.string W ok A0 x.f0.length x.f0) : Kd.FK k37 W ok x [.slice A0 x.f0.length c0, .string x.f1] := fun W2 hW => k37_mk W2 x l0 (g0 W2 hW)
def rd_T37 (xs : List S37) (i : Int) : S37 := xs.getD i.toNat z37
theorem at_T37 {w : World} {A : Option Addr} {n : Nat} {xs : List S37} (h : Kd.C k37 w A n xs) (i : Int) (h0 : 0 ≤ i) (h1 : i < n) : ∃ ad A0 c0, A = some ad ∧ w.cell? (ad.add (i.toNat * 2)) = some (.slice A0 (rd_T37 xs i).f0.length c0) ∧ w.cell? ⟨(ad.add (i.toNat * 2)).block, (ad.add (i.toNat * 2)).off + 1, none⟩ = some (.string (rd_T37 xs i).f1) ∧ (rd_T37 xs i).f0.length ≤ c0 ∧ Kd.string.C w A0 (rd_T37 xs i).f0.length (rd_T37 xs i).f0 := by
 obtain ⟨ad, c, e, _, hK, hc0⟩ := Kd.C_get h z37 i h0 h1
 have hc : ∀ j u, c[j]? = some u → w.cell? (ad.add (i.toNat * 2 + j)) = some u := hc0
 obtain ⟨A0, c0, rfl, l0, g0⟩ := k37_open hK
 exact ⟨ad, A0, c0, e, hc 0 _ rfl, by rw [← add_field _ _ 1 (by omega)]; exact hc 1 _ rfl, l0, g0⟩
def rd_L11 (xs : List (List S61)) (i : Int) : (List S61) := xs.getD i.toNat ([] : List S61)
theorem at_L11 {w : World} {A : Option Addr} {n : Nat} {xs : List (List S61)} (h : Kd.C (Kd.slice 61 k61) w A n xs) (i : Int) (h0 : 0 ≤ i) (h1 : i < n) : ∃ ad A0 c0, A = some ad ∧ w.cell? (ad.add i.toNat) = some (.slice A0 (rd_L11 xs i).length c0) ∧ (rd_L11 xs i).length ≤ c0 ∧ k61.C w A0 (rd_L11 xs i).length (rd_L11 xs i) := by
 obtain ⟨ad, c, e, _, hK, hc0⟩ := Kd.C_get h ([] : List S61) i h0 h1
 have hc : ∀ j u, c[j]? = some u → w.cell? (ad.add (i.toNat * 1 + j)) = some u := hc0
 obtain ⟨A0, c0, rfl, l0, g0⟩ := hK
 exact ⟨ad, A0, c0, e, by have hq := hc 0 _ rfl; rwa [Nat.mul_one, Nat.add_zero] at hq, l0, g0⟩
structure S115 where
 f0 : ByteArray
 f1 : ByteArray
def z115 : S115 := ⟨(⟨#[]⟩ : ByteArray), (⟨#[]⟩ : ByteArray)⟩
def k115 : Kd S115 := Kd.iso (Kd.pair Kd.string Kd.string) (fun x : S115 => (x.f0, x.f1))
theorem k115_heap : Kd.Heap k115 := Kd.heap_iso _ (Kd.heap_pair Kd.heap_string Kd.heap_string)
theorem k115_open {w : World} {x : S115} {cs : List Value} (h : k115.K w x cs) : cs = [.string x.f0, .string x.f1] := by
 obtain ⟨_, _, rfl, rfl, rfl⟩ := h
 exact rfl
theorem k115_openM {w : World} {base : Nat} {ok : Nat → Prop} {x : S115} {cs : List Value} (h : k115.M w base ok x cs) : cs = [.string x.f0, .string x.f1] := by
 obtain ⟨_, _, rfl, rfl, rfl⟩ := h
 exact rfl
theorem k115_mk (w : World) (x : S115)  : k115.K w x [.string x.f0, .string x.f1] := ⟨[.string x.f0], [.string x.f1], rfl, rfl, rfl⟩
theorem k115_mkM (w : World) (base : Nat) (ok : Nat → Prop) (x : S115)  : k115.M w base ok x [.string x.f0, .string x.f1] := ⟨[.string x.f0], [.string x.f1], rfl, rfl, rfl⟩
theorem k115_mkF (W : World) (ok : Nat → Prop) (x : S115) : Kd.FK k115 W ok x [.string x.f0, .string x.f1] := fun W2 _ => k115_mk W2 x
def rd_T115 (xs : List S115) (i : Int) : S115 := xs.getD i.toNat z115
theorem at_T115 {w : World} {A : Option Addr} {n : Nat} {xs : List S115} (h : Kd.C k115 w A n xs) (i : Int) (h0 : 0 ≤ i) (h1 : i < n) : ∃ ad , A = some ad ∧ w.cell? (ad.add (i.toNat * 2)) = some (.string (rd_T115 xs i).f0) ∧ w.cell? ⟨(ad.add (i.toNat * 2)).block, (ad.add (i.toNat * 2)).off + 1, none⟩ = some (.string (rd_T115 xs i).f1) := by
 obtain ⟨ad, c, e, _, hK, hc0⟩ := Kd.C_get h z115 i h0 h1
 have hc : ∀ j u, c[j]? = some u → w.cell? (ad.add (i.toNat * 2 + j)) = some u := hc0
 obtain rfl := k115_open hK
 exact ⟨ad, e, hc 0 _ rfl, by rw [← add_field _ _ 1 (by omega)]; exact hc 1 _ rfl⟩
def rd_L13 (xs : List (List S115)) (i : Int) : (List S115) := xs.getD i.toNat ([] : List S115)
theorem at_L13 {w : World} {A : Option Addr} {n : Nat} {xs : List (List S115)} (h : Kd.C (Kd.slice 115 k115) w A n xs) (i : Int) (h0 : 0 ≤ i) (h1 : i < n) : ∃ ad A0 c0, A = some ad ∧ w.cell? (ad.add i.toNat) = some (.slice A0 (rd_L13 xs i).length c0) ∧ (rd_L13 xs i).length ≤ c0 ∧ k115.C w A0 (rd_L13 xs i).length (rd_L13 xs i) := by
 obtain ⟨ad, c, e, _, hK, hc0⟩ := Kd.C_get h ([] : List S115) i h0 h1
 have hc : ∀ j u, c[j]? = some u → w.cell? (ad.add (i.toNat * 1 + j)) = some u := hc0
 obtain ⟨A0, c0, rfl, l0, g0⟩ := hK
 exact ⟨ad, A0, c0, e, by have hq := hc 0 _ rfl; rwa [Nat.mul_one, Nat.add_zero] at hq, l0, g0⟩
structure S120 where
 f0 : Int
 f1 : Int
 f2 : Int
 f3 : Int
def z120 : S120 := ⟨(0 : Int), (0 : Int), (0 : Int), (0 : Int)⟩
def k120 : Kd S120 := Kd.iso (Kd.pair (Kd.int .i64) (Kd.pair (Kd.int .i64) (Kd.pair (Kd.int .i64) (Kd.int .i64)))) (fun x : S120 => (x.f0, x.f1, x.f2, x.f3))
theorem k120_heap : Kd.Heap k120 := Kd.heap_iso _ (Kd.heap_pair (Kd.heap_int .i64) (Kd.heap_pair (Kd.heap_int .i64) (Kd.heap_pair (Kd.heap_int .i64) (Kd.heap_int .i64))))
theorem k120_open {w : World} {x : S120} {cs : List Value} (h : k120.K w x cs) : cs = [.int .i64 x.f0, .int .i64 x.f1, .int .i64 x.f2, .int .i64 x.f3] := by
 obtain ⟨_, _, rfl, rfl, ⟨_, _, rfl, rfl, ⟨_, _, rfl, rfl, rfl⟩⟩⟩ := h
 exact rfl
theorem k120_openM {w : World} {base : Nat} {ok : Nat → Prop} {x : S120} {cs : List Value} (h : k120.M w base ok x cs) : cs = [.int .i64 x.f0, .int .i64 x.f1, .int .i64 x.f2, .int .i64 x.f3] := by
 obtain ⟨_, _, rfl, rfl, ⟨_, _, rfl, rfl, ⟨_, _, rfl, rfl, rfl⟩⟩⟩ := h
 exact rfl
theorem k120_mk (w : World) (x : S120)  : k120.K w x [.int .i64 x.f0, .int .i64 x.f1, .int .i64 x.f2, .int .i64 x.f3] := ⟨[.int .i64 x.f0], [.int .i64 x.f1, .int .i64 x.f2, .int .i64 x.f3], rfl, rfl, ⟨[.int .i64 x.f1], [.int .i64 x.f2, .int .i64 x.f3], rfl, rfl, ⟨[.int .i64 x.f2], [.int .i64 x.f3], rfl, rfl, rfl⟩⟩⟩
theorem k120_mkM (w : World) (base : Nat) (ok : Nat → Prop) (x : S120)  : k120.M w base ok x [.int .i64 x.f0, .int .i64 x.f1, .int .i64 x.f2, .int .i64 x.f3] := ⟨[.int .i64 x.f0], [.int .i64 x.f1, .int .i64 x.f2, .int .i64 x.f3], rfl, rfl, ⟨[.int .i64 x.f1], [.int .i64 x.f2, .int .i64 x.f3], rfl, rfl, ⟨[.int .i64 x.f2], [.int .i64 x.f3], rfl, rfl, rfl⟩⟩⟩
theorem k120_mkF (W : World) (ok : Nat → Prop) (x : S120) : Kd.FK k120 W ok x [.int .i64 x.f0, .int .i64 x.f1, .int .i64 x.f2, .int .i64 x.f3] := fun W2 _ => k120_mk W2 x
def rd_T120 (xs : List S120) (i : Int) : S120 := xs.getD i.toNat z120
theorem at_T120 {w : World} {A : Option Addr} {n : Nat} {xs : List S120} (h : Kd.C k120 w A n xs) (i : Int) (h0 : 0 ≤ i) (h1 : i < n) : ∃ ad , A = some ad ∧ w.cell? (ad.add (i.toNat * 4)) = some (.int .i64 (rd_T120 xs i).f0) ∧ w.cell? ⟨(ad.add (i.toNat * 4)).block, (ad.add (i.toNat * 4)).off + 1, none⟩ = some (.int .i64 (rd_T120 xs i).f1) ∧ w.cell? ⟨(ad.add (i.toNat * 4)).block, (ad.add (i.toNat * 4)).off + 2, none⟩ = some (.int .i64 (rd_T120 xs i).f2) ∧ w.cell? ⟨(ad.add (i.toNat * 4)).block, (ad.add (i.toNat * 4)).off + 3, none⟩ = some (.int .i64 (rd_T120 xs i).f3) := by
 obtain ⟨ad, c, e, _, hK, hc0⟩ := Kd.C_get h z120 i h0 h1
 have hc : ∀ j u, c[j]? = some u → w.cell? (ad.add (i.toNat * 4 + j)) = some u := hc0
 obtain rfl := k120_open hK
 exact ⟨ad, e, hc 0 _ rfl, by rw [← add_field _ _ 1 (by omega)]; exact hc 1 _ rfl, by rw [← add_field _ _ 2 (by omega)]; exact hc 2 _ rfl, by rw [← add_field _ _ 3 (by omega)]; exact hc 3 _ rfl⟩
def rd_L15 (xs : List (List S120)) (i : Int) : (List S120) := xs.getD i.toNat ([] : List S120)
theorem at_L15 {w : World} {A : Option Addr} {n : Nat} {xs : List (List S120)} (h : Kd.C (Kd.slice 120 k120) w A n xs) (i : Int) (h0 : 0 ≤ i) (h1 : i < n) : ∃ ad A0 c0, A = some ad ∧ w.cell? (ad.add i.toNat) = some (.slice A0 (rd_L15 xs i).length c0) ∧ (rd_L15 xs i).length ≤ c0 ∧ k120.C w A0 (rd_L15 xs i).length (rd_L15 xs i) := by
 obtain ⟨ad, c, e, _, hK, hc0⟩ := Kd.C_get h ([] : List S120) i h0 h1
 have hc : ∀ j u, c[j]? = some u → w.cell? (ad.add (i.toNat * 1 + j)) = some u := hc0
 obtain ⟨A0, c0, rfl, l0, g0⟩ := hK
 exact ⟨ad, A0, c0, e, by have hq := hc 0 _ rfl; rwa [Nat.mul_one, Nat.add_zero] at hq, l0, g0⟩
structure S48 where
 f0 : (List S115)
 f1 : (List S120)
 f2 : (List ByteArray)
def z48 : S48 := ⟨([] : List S115), ([] : List S120), ([] : List ByteArray)⟩
def k48 : Kd S48 := Kd.iso (Kd.pair (Kd.slice 115 k115) (Kd.pair (Kd.slice 120 k120) (Kd.slice 9 Kd.string))) (fun x : S48 => (x.f0, x.f1, x.f2))
theorem k48_heap : Kd.Heap k48 := Kd.heap_iso _ (Kd.heap_pair (Kd.heap_slice 115 k115_heap) (Kd.heap_pair (Kd.heap_slice 120 k120_heap) (Kd.heap_slice 9 Kd.heap_string)))
theorem k48_open {w : World} {x : S48} {cs : List Value} (h : k48.K w x cs) : ∃ A0 c0 A1 c1 A2 c2, cs = [.slice A0 x.f0.length c0, .slice A1 x.f1.length c1, .slice A2 x.f2.length c2] ∧ x.f0.length ≤ c0 ∧ k115.C w A0 x.f0.length x.f0 ∧ x.f1.length ≤ c1 ∧ k120.C w A1 x.f1.length x.f1 ∧ x.f2.length ≤ c2 ∧ Kd.string.C w A2 x.f2.length x.f2 := by
 obtain ⟨_, _, rfl, ⟨A0, c0, rfl, l0, g0⟩, ⟨_, _, rfl, ⟨A1, c1, rfl, l1, g1⟩, ⟨A2, c2, rfl, l2, g2⟩⟩⟩ := h
 exact ⟨A0, c0, A1, c1, A2, c2, rfl, l0, g0, l1, g1, l2, g2⟩
theorem k48_openM {w : World} {base : Nat} {ok : Nat → Prop} {x : S48} {cs : List Value} (h : k48.M w base ok x cs) : ∃ v0 v1 v2, cs = [v0, v1, v2] ∧ k115.R 115 w base ok v0 x.f0 ∧ k120.R 120 w base ok v1 x.f1 ∧ Kd.string.R 9 w base ok v2 x.f2 := by
 obtain ⟨_, _, rfl, ⟨v0, rfl, g0⟩, ⟨_, _, rfl, ⟨v1, rfl, g1⟩, ⟨v2, rfl, g2⟩⟩⟩ := h
 exact ⟨v0, v1, v2, rfl, g0, g1, g2⟩
theorem k48_mk (w : World) (x : S48) {A0 : Option Addr} {c0 : Nat} (l0 : x.f0.length ≤ c0) (g0 : k115.C w A0 x.f0.length x.f0) {A1 : Option Addr} {c1 : Nat} (l1 : x.f1.length ≤ c1) (g1 : k120.C w A1 x.f1.length x.f1) {A2 : Option Addr} {c2 : Nat} (l2 : x.f2.length ≤ c2) (g2 : Kd.string.C w A2 x.f2.length x.f2) : k48.K w x [.slice A0 x.f0.length c0, .slice A1 x.f1.length c1, .slice A2 x.f2.length c2] := ⟨[.slice A0 x.f0.length c0], [.slice A1 x.f1.length c1, .slice A2 x.f2.length c2], rfl, ⟨A0, c0, rfl, l0, g0⟩, ⟨[.slice A1 x.f1.length c1], [.slice A2 x.f2.length c2], rfl, ⟨A1, c1, rfl, l1, g1⟩, ⟨A2, c2, rfl, l2, g2⟩⟩⟩
theorem k48_mkM (w : World) (base : Nat) (ok : Nat → Prop) (x : S48) {v0 : Value} (g0 : k115.R 115 w base ok v0 x.f0) {v1 : Value} (g1 : k120.R 120 w base ok v1 x.f1) {v2 : Value} (g2 : Kd.string.R 9 w base ok v2 x.f2) : k48.M w base ok x [v0, v1, v2] := ⟨[v0], [v1, v2], rfl, ⟨v0, rfl, g0⟩, ⟨[v1], [v2], rfl, ⟨v1, rfl, g1⟩, ⟨v2, rfl, g2⟩⟩⟩
theorem k48_openF {W : World} {ok : Nat → Prop} {x : S48} {cs : List Value} (h : Kd.FK k48 W ok x cs) : ∃ A0 c0 A1 c1 A2 c2, cs = [.slice A0 x.f0.length c0, .slice A1 x.f1.length c1, .slice A2 x.f2.length c2] ∧ x.f0.length ≤ c0 ∧ Kd.F k115 W ok A0 x.f0.length x.f0 ∧ x.f1.length ≤ c1 ∧ Kd.F k120 W ok A1 x.f1.length x.f1 ∧ x.f2.length ≤ c2 ∧ Kd.F Kd.string W ok A2 x.f2.length x.f2 := by
 obtain ⟨A0, c0, A1, c1, A2, c2, rfl, l0, _, l1, _, l2, _⟩ := k48_open (Kd.FK_now h)
 exact ⟨A0, c0, A1, c1, A2, c2, rfl, l0, (fun W' hW => by obtain ⟨A0_, c0_, A1_, c1_, A2_, c2_, he, l0_, g0_, l1_, g1_, l2_, g2_⟩ := k48_open (h W' hW); injection (Option.some.inj (show some (Value.slice A0 x.f0.length c0) = some (Value.slice A0_ x.f0.length c0_) from congrArg (fun l => l[0]?) he)) with ha_ _ _; rw [ha_]; exact g0_), l1, (fun W' hW => by obtain ⟨A0_, c0_, A1_, c1_, A2_, c2_, he, l0_, g0_, l1_, g1_, l2_, g2_⟩ := k48_open (h W' hW); injection (Option.some.inj (show some (Value.slice A1 x.f1.length c1) = some (Value.slice A1_ x.f1.length c1_) from congrArg (fun l => l[1]?) he)) with ha_ _ _; rw [ha_]; exact g1_), l2, (fun W' hW => by obtain ⟨A0_, c0_, A1_, c1_, A2_, c2_, he, l0_, g0_, l1_, g1_, l2_, g2_⟩ := k48_open (h W' hW); injection (Option.some.inj (show some (Value.slice A2 x.f2.length c2) = some (Value.slice A2_ x.f2.length c2_) from congrArg (fun l => l[2]?) he)) with ha_ _ _; rw [ha_]; exact g2_)⟩
theorem k48_mkF (W : World) (ok : Nat → Prop) (x : S48) {A0 : Option Addr} {c0 : Nat} (l0 : x.f0.length ≤ c0) (g0 : Kd.F k115 W ok A0 x.f0.length x.f0) {A1 : Option Addr} {c1 : Nat} (l1 : x.f1.length ≤ c1) (g1 : Kd.F k120 W ok A1 x.f1.length x.f1) {A2 : Option Addr} {c2 : Nat} (l2 : x.f2.length ≤ c2) (g2 : Kd.F Kd.string W ok A2 x.f2.length x.f2) : Kd.FK k48 W ok x [.slice A0 x.f0.length c0, .slice A1 x.f1.length c1, .slice A2 x.f2.length c2] := fun W2 hW => k48_mk W2 x l0 (g0 W2 hW) l1 (g1 W2 hW) l2 (g2 W2 hW)
def rd_T48 (xs : List S48) (i : Int) : S48 := xs.getD i.toNat z48
theorem at_T48 {w : World} {A : Option Addr} {n : Nat} {xs : List S48} (h : Kd.C k48 w A n xs) (i : Int) (h0 : 0 ≤ i) (h1 : i < n) : ∃ ad A0 c0 A1 c1 A2 c2, A = some ad ∧ w.cell? (ad.add (i.toNat * 3)) = some (.slice A0 (rd_T48 xs i).f0.length c0) ∧ w.cell? ⟨(ad.add (i.toNat * 3)).block, (ad.add (i.toNat * 3)).off + 1, none⟩ = some (.slice A1 (rd_T48 xs i).f1.length c1) ∧ w.cell? ⟨(ad.add (i.toNat * 3)).block, (ad.add (i.toNat * 3)).off + 2, none⟩ = some (.slice A2 (rd_T48 xs i).f2.length c2) ∧ (rd_T48 xs i).f0.length ≤ c0 ∧ k115.C w A0 (rd_T48 xs i).f0.length (rd_T48 xs i).f0 ∧ (rd_T48 xs i).f1.length ≤ c1 ∧ k120.C w A1 (rd_T48 xs i).f1.length (rd_T48 xs i).f1 ∧ (rd_T48 xs i).f2.length ≤ c2 ∧ Kd.string.C w A2 (rd_T48 xs i).f2.length (rd_T48 xs i).f2 := by
 obtain ⟨ad, c, e, _, hK, hc0⟩ := Kd.C_get h z48 i h0 h1
 have hc : ∀ j u, c[j]? = some u → w.cell? (ad.add (i.toNat * 3 + j)) = some u := hc0
 obtain ⟨A0, c0, A1, c1, A2, c2, rfl, l0, g0, l1, g1, l2, g2⟩ := k48_open hK
 exact ⟨ad, A0, c0, A1, c1, A2, c2, e, hc 0 _ rfl, by rw [← add_field _ _ 1 (by omega)]; exact hc 1 _ rfl, by rw [← add_field _ _ 2 (by omega)]; exact hc 2 _ rfl, l0, g0, l1, g1, l2, g2⟩
structure S50 where
 f0 : Int
 f1 : Int
 f2 : Int
def z50 : S50 := ⟨(0 : Int), (0 : Int), (0 : Int)⟩
def k50 : Kd S50 := Kd.iso (Kd.pair (Kd.int .u8) (Kd.pair (Kd.int .u8) (Kd.int .u8))) (fun x : S50 => (x.f0, x.f1, x.f2))
theorem k50_heap : Kd.Heap k50 := Kd.heap_iso _ (Kd.heap_pair (Kd.heap_int .u8) (Kd.heap_pair (Kd.heap_int .u8) (Kd.heap_int .u8)))
theorem k50_open {w : World} {x : S50} {cs : List Value} (h : k50.K w x cs) : cs = [.int .u8 x.f0, .int .u8 x.f1, .int .u8 x.f2] := by
 obtain ⟨_, _, rfl, rfl, ⟨_, _, rfl, rfl, rfl⟩⟩ := h
 exact rfl
theorem k50_openM {w : World} {base : Nat} {ok : Nat → Prop} {x : S50} {cs : List Value} (h : k50.M w base ok x cs) : cs = [.int .u8 x.f0, .int .u8 x.f1, .int .u8 x.f2] := by
 obtain ⟨_, _, rfl, rfl, ⟨_, _, rfl, rfl, rfl⟩⟩ := h
 exact rfl
theorem k50_mk (w : World) (x : S50)  : k50.K w x [.int .u8 x.f0, .int .u8 x.f1, .int .u8 x.f2] := ⟨[.int .u8 x.f0], [.int .u8 x.f1, .int .u8 x.f2], rfl, rfl, ⟨[.int .u8 x.f1], [.int .u8 x.f2], rfl, rfl, rfl⟩⟩
theorem k50_mkM (w : World) (base : Nat) (ok : Nat → Prop) (x : S50)  : k50.M w base ok x [.int .u8 x.f0, .int .u8 x.f1, .int .u8 x.f2] := ⟨[.int .u8 x.f0], [.int .u8 x.f1, .int .u8 x.f2], rfl, rfl, ⟨[.int .u8 x.f1], [.int .u8 x.f2], rfl, rfl, rfl⟩⟩
theorem k50_mkF (W : World) (ok : Nat → Prop) (x : S50) : Kd.FK k50 W ok x [.int .u8 x.f0, .int .u8 x.f1, .int .u8 x.f2] := fun W2 _ => k50_mk W2 x
def rd_T50 (xs : List S50) (i : Int) : S50 := xs.getD i.toNat z50
theorem at_T50 {w : World} {A : Option Addr} {n : Nat} {xs : List S50} (h : Kd.C k50 w A n xs) (i : Int) (h0 : 0 ≤ i) (h1 : i < n) : ∃ ad , A = some ad ∧ w.cell? (ad.add (i.toNat * 3)) = some (.int .u8 (rd_T50 xs i).f0) ∧ w.cell? ⟨(ad.add (i.toNat * 3)).block, (ad.add (i.toNat * 3)).off + 1, none⟩ = some (.int .u8 (rd_T50 xs i).f1) ∧ w.cell? ⟨(ad.add (i.toNat * 3)).block, (ad.add (i.toNat * 3)).off + 2, none⟩ = some (.int .u8 (rd_T50 xs i).f2) := by
 obtain ⟨ad, c, e, _, hK, hc0⟩ := Kd.C_get h z50 i h0 h1
 have hc : ∀ j u, c[j]? = some u → w.cell? (ad.add (i.toNat * 3 + j)) = some u := hc0
 obtain rfl := k50_open hK
 exact ⟨ad, e, hc 0 _ rfl, by rw [← add_field _ _ 1 (by omega)]; exact hc 1 _ rfl, by rw [← add_field _ _ 2 (by omega)]; exact hc 2 _ rfl⟩
def rd_L19 (xs : List (List Int)) (i : Int) : (List Int) := xs.getD i.toNat ([] : List Int)
theorem at_L19 {w : World} {A : Option Addr} {n : Nat} {xs : List (List Int)} (h : Kd.C (Kd.slice 3 (Kd.int .i64)) w A n xs) (i : Int) (h0 : 0 ≤ i) (h1 : i < n) : ∃ ad A0 c0, A = some ad ∧ w.cell? (ad.add i.toNat) = some (.slice A0 (rd_L19 xs i).length c0) ∧ (rd_L19 xs i).length ≤ c0 ∧ (Kd.int .i64).C w A0 (rd_L19 xs i).length (rd_L19 xs i) := by
 obtain ⟨ad, c, e, _, hK, hc0⟩ := Kd.C_get h ([] : List Int) i h0 h1
 have hc : ∀ j u, c[j]? = some u → w.cell? (ad.add (i.toNat * 1 + j)) = some u := hc0
 obtain ⟨A0, c0, rfl, l0, g0⟩ := hK
 exact ⟨ad, A0, c0, e, by have hq := hc 0 _ rfl; rwa [Nat.mul_one, Nat.add_zero] at hq, l0, g0⟩
def checker_arc.f (l0 : List (S33)) (a1 : Int) : Option (Bool) := if a1 ≥ 0 then (if a1 < (l0.length : Int) then (if 0 ≤ a1 then (if ((rd_T33 l0 a1).f0) ≥ 1 then (some (decide (((rd_T33 l0 a1).f0) ≤ 3))) else (some false)) else (none)) else (some false)) else (some false)
set_option maxHeartbeats 8000000 in
set_option maxRecDepth 100000 in
theorem checker_arc.calls (A0 : Option Addr) (c0 : Nat) (l0 : List (S33)) (a1 : Int) (r : Bool) (w : World) (hr0 : Kd.C k33 w A0 l0.length l0) (hc0 : l0.length ≤ c0) (h : checker_arc.f l0 a1 = some r) :
  Calls Tryz.prog 14 #[.slice A0 l0.length c0, .int .i64 a1] w fun e w' => e = .returned (.bool r) ∧ Drawn0 w w' := by
 have HR0 := mk0 hr0
 have b7 := mk0 hc0
 clear hr0 hc0
 have H : (if a1 ≥ 0 then (if a1 < (l0.length : Int) then (if 0 ≤ a1 then (if ((rd_T33 l0 a1).f0) ≥ 1 then (some (decide (((rd_T33 l0 a1).f0) ≤ 3))) else (some false)) else (none)) else (some false)) else (some false)) = some r := h
 clear h
 by_cases c3 : a1 ≥ 0
 ·
  rw [if_pos c3] at H
  have b3 : decide (0 ≤ a1) = true := decide_eq_true c3
  clear c3
  by_cases c4 : a1 < (l0.length : Int)
  ·
   rw [if_pos c4] at H
   have b4 : decide (a1 < (l0.length : Int)) = true := decide_eq_true c4
   clear c4
   by_cases c5 : 0 ≤ a1
   ·
    rw [if_pos c5] at H
    have b6 : decide (0 ≤ a1) = true := decide_eq_true c5
    clear c5
    by_cases c6 : ((rd_T33 l0 a1).f0) ≥ 1
    ·
     rw [if_pos c6] at H
     have b5 : decide (1 ≤ ((rd_T33 l0 a1).f0)) = true := decide_eq_true c6
     clear c6
     obtain rfl := Option.some.inj H
     have a0 : 0 ≤ (a1 : Int) := aD
     have a2 : a1 < (l0.length : Int) := aD
     obtain ⟨a6, e258, a3, a4, a5⟩ := at_T33 HR0.out a1 a0 a2
     cases e258
     replace a0 := eq_true a0
     replace a2 := eq_true a2
     have a7 : 0 ≤ (a1 : Int) := aD
     have a8 : a1 < (l0.length : Int) := aD
     obtain ⟨a9, e259, b0, b1, b2⟩ := at_T33 HR0.out a1 a7 a8
     obtain rfl : a6 = a9 := (by injection e259)
     replace a7 := eq_true a7
     replace a8 := eq_true a8
     go_enter Tryz.func14, Tryz.ntmps14
     go_wp2
     go_ret
     exact ⟨by first | rfl | simp [*], by repeat (first | exact Drawn0.refl _ | apply Drawn0.step)⟩
    ·
     rw [if_neg c6] at H
     have b5 : decide (1 ≤ ((rd_T33 l0 a1).f0)) = false := decide_eq_false c6
     clear c6
     obtain rfl := Option.some.inj H
     have a0 : 0 ≤ (a1 : Int) := aD
     have a2 : a1 < (l0.length : Int) := aD
     obtain ⟨a6, e258, a3, a4, a5⟩ := at_T33 HR0.out a1 a0 a2
     cases e258
     replace a0 := eq_true a0
     replace a2 := eq_true a2
     go_enter Tryz.func14, Tryz.ntmps14
     go_wp2
     go_ret
     exact ⟨by first | rfl | simp [*], by repeat (first | exact Drawn0.refl _ | apply Drawn0.step)⟩
   ·
    rw [if_neg c5] at H
    exact absurd H (by simp)
  ·
   rw [if_neg c4] at H
   have b4 : decide (a1 < (l0.length : Int)) = false := decide_eq_false c4
   clear c4
   obtain rfl := Option.some.inj H
   go_enter Tryz.func14, Tryz.ntmps14
   go_wp2
   go_ret
   exact ⟨by first | rfl | simp [*], by repeat (first | exact Drawn0.refl _ | apply Drawn0.step)⟩
 ·
  rw [if_neg c3] at H
  have b3 : decide (0 ≤ a1) = false := decide_eq_false c3
  clear c3
  obtain rfl := Option.some.inj H
  go_enter Tryz.func14, Tryz.ntmps14
  go_wp2
  go_ret
  exact ⟨by first | rfl | simp [*], by repeat (first | exact Drawn0.refl _ | apply Drawn0.step)⟩
/-- Where a name stands among the first k of a list (the last place). -/
def ordNm (l : List ByteArray) : Nat → List UInt8 → Option Int
 | 0, _ => none
 | k + 1, s => if s = (rdOf ByteArray.empty l (k : Int)).data.toList then some (k : Int) else ordNm l k s
/-- Does a name stand ordTwice in a list? -/
def ordTwice (l : List ByteArray) : Bool := (List.range l.length).any fun k => (ordNm l k (rdOf ByteArray.empty l (k : Int)).data.toList).isSome
/-- Does an order keep a relation? -/
def ordKeeps (l1 : List ByteArray) (x : S33) : Bool :=
 (ordNm l1 l1.length x.f1.data.toList).isSome && (ordNm l1 l1.length x.f2.data.toList).isSome && !(decide (x.f0 ≥ 1) && decide (x.f0 ≤ 3) && decide ((ordNm l1 l1.length x.f1.data.toList).getD 0 ≤ (ordNm l1 l1.length x.f2.data.toList).getD 0))
theorem ordTwiceOf {l : List ByteArray} {k : Nat} (hk : k < l.length) (h : (ordNm l k (rdOf ByteArray.empty l (k : Int)).data.toList).isSome = true) : ordTwice l = true := List.any_eq_true.2 ⟨k, List.mem_range.2 hk, h⟩
def ordBrief (s : ByteArray) : Bool := decide (s.size ≤ maxLen)
def checker_Order.f (l0 : List (S33)) (l1 : List ByteArray) : Option (Bool) :=
 if l1.all ordBrief && l0.all (fun x => ordBrief x.f1 && ordBrief x.f2) && decide (l1.length ≤ 1000 ∧ l0.length ≤ 1000) then some (!ordTwice l1 && (List.range l0.length).all fun j => ordKeeps l1 (rd_T33 l0 (j : Int))) else none
theorem ordKey {s : ByteArray} (h : ordBrief s = true) : keyOf Tryz.prog 9 (.string s) = some (.string s.data.toList) := WideMaps.keyOf_string_mk Tryz.underlying9 (of_decide_eq_true h)
theorem ordWf {k : Nat} (h : k ≤ 1000) : (Lit.int .i64 (k : Int)).wf = true := by
 have h1 : IntKind.i64.min = -9223372036854775808 := rfl
 have h2 : IntKind.i64.max = 9223372036854775807 := rfl
 simp only [Lit.wf, h1, h2, Bool.and_eq_true, decide_eq_true_eq]
 omega
theorem ordBelow {w W : World} {b n : Nat} {D : DataW Nat} (h : w.ownsMap Tryz.prog 9 (plainElem Tryz.prog 3) b n D) (hb : Below w.heap.size w W) : W.ownsMap Tryz.prog 9 (plainElem Tryz.prog 3) b n D := by
 have hlt := h.lt
 obtain ⟨es, clock, hbk, F, hs, hD⟩ := h
 exact ⟨es, clock, (hb.block b hlt).trans hbk, F, hs, hD⟩
theorem ordSet {w : World} {b n : Nat} {D : DataW Nat} (h : w.ownsMap Tryz.prog 9 (plainElem Tryz.prog 3) b n D) {g i : Nat} {u : Value} (hne : b ≠ g) : (w.setCell ⟨g, i, none⟩ u).ownsMap Tryz.prog 9 (plainElem Tryz.prog 3) b n D := by
 obtain ⟨es, clock, hbk, F, hs, hD⟩ := h
 exact ⟨es, clock, (Below.heap_setCell w _ u b hne).trans hbk, F, hs, hD⟩
theorem ordArc (l0 : List (S33)) {k : Nat} (hk : k < l0.length) : checker_arc.f l0 (k : Int) = some (decide ((rd_T33 l0 (k : Int)).f0 ≥ 1) && decide ((rd_T33 l0 (k : Int)).f0 ≤ 3)) := by
 unfold checker_arc.f
 rw [if_pos (by omega), if_pos (by omega), if_pos (by omega)]
 by_cases h : (rd_T33 l0 (k : Int)).f0 ≥ 1
 ·
  rw [if_pos h, decide_eq_true h, Bool.true_and]
 ·
  rw [if_neg h, decide_eq_false h, Bool.false_and]
theorem ordBriefOf {l0 : List (S33)} (h : (l0.all fun x => ordBrief x.f1 && ordBrief x.f2) = true) {k : Nat} (hk : k < l0.length) : ordBrief (rd_T33 l0 (k : Int)).f1 = true ∧ ordBrief (rd_T33 l0 (k : Int)).f2 = true := by
 rw [List.all_eq_true] at h
 have := h (rd_T33 l0 (k : Int)) (by
  unfold rd_T33
  rw [Int.toNat_natCast, List.getD_eq_getElem?_getD, List.getElem?_eq_getElem hk]
  exact List.getElem_mem hk)
 rwa [Bool.and_eq_true] at this
theorem ordNo {f : Nat → Bool} {n k : Nat} (hk : k < n) (h : f k = false) : (List.range n).all f = false := by
 cases hA : (List.range n).all f with
 | false => rfl
 | true => rw [List.all_eq_true.1 hA k (List.mem_range.2 hk)] at h; cases h
theorem ordUpto {f : Nat → Bool} {k : Nat} (h : ∀ j, j < k → f j = true) (hk : f k = true) (j : Nat) (hj : j < k + 1) : f j = true := by
 by_cases e : j = k
 ·
  rw [e]; exact hk
 ·
  exact h j (by omega)
theorem ordKeyed : Go.Maps.Keyed Tryz.prog 9 := Go.Maps.string_keyed Tryz.underlying9
theorem ordZero (w : World) : (zeroValue 3).run Tryz.prog w = .ok (.int .i64 0) w := by kernel_rfl
theorem ordBriefAt {l : List ByteArray} (h : l.all ordBrief = true) {k : Nat} (hk : k < l.length) : ordBrief (rdOf ByteArray.empty l (k : Int)) = true := by
 rw [List.all_eq_true] at h
 refine h _ ?_
 unfold rdOf
 rw [Int.toNat_natCast, List.getD_eq_getElem?_getD, List.getElem?_eq_getElem hk]
 exact List.getElem_mem hk
set_option maxRecDepth 100000 in
set_option maxHeartbeats 8000000 in
theorem checker_Order.calls (A0 : Option Addr) (c0 : Nat) (l0 : List (S33)) (A1 : Option Addr) (c1 : Nat) (l1 : List ByteArray) (r : Bool) (w : World) (hr0 : Kd.C k33 w A0 l0.length l0) (hc0 : l0.length ≤ c0) (hr1 : Kd.C Kd.string w A1 l1.length l1) (hc1 : l1.length ≤ c1) (h : checker_Order.f l0 l1 = some r) :
  Calls Tryz.prog 7 #[.slice A0 l0.length c0, .slice A1 l1.length c1] w fun e w' => e = .returned (.bool r) ∧ Below w.heap.size w w' := by
 have hmm := @run_makeMap Tryz.prog
 unfold checker_Order.f at h
 by_cases hB : (l1.all ordBrief && l0.all (fun x => ordBrief x.f1 && ordBrief x.f2) && decide (l1.length ≤ 1000 ∧ l0.length ≤ 1000)) = true
 case neg => rw [if_neg hB] at h; cases h
 rw [if_pos hB] at h
 rw [Bool.and_eq_true, Bool.and_eq_true] at hB
 obtain ⟨⟨hB1, hB0⟩, hB2⟩ := hB
 replace hB2 : l1.length ≤ 1000 ∧ l0.length ≤ 1000 := of_decide_eq_true hB2
 obtain ⟨hB2, hB3⟩ := hB2
 obtain rfl := Option.some.inj h
 clear h
 go_enter Tryz.func7, Tryz.ntmps7
 go_wp2
 go_loopw [19] (fun i wr => ∃ k : Nat, k ≤ l1.length ∧ i = .int .i64 k ∧ (∀ j, j < k → (ordNm l1 j (rdOf ByteArray.empty l1 (j : Int)).data.toList).isSome = false) ∧ (∃ D, wr.ownsMap Tryz.prog 9 (plainElem Tryz.prog 3) w.heap.size k D ∧ MTold D (ordNm l1 k)) ∧ Below w.heap.size w wr)
  (fun i _ => l1.length - (intOf i).toNat)
 case atStart => exact ⟨0, Nat.zero_le _, rfl, fun j hj => absurd hj (Nat.not_lt_zero _), ⟨_, World.ownsMap_made _ _ _ _, mtold_empty⟩, (Below.refl _ _).alloc (Nat.le_refl _) _⟩
 case round =>
  obtain ⟨k, hk, rfl, hno, ⟨D, hown, hD⟩, hnx⟩ := hrel
  by_cases hlt : k < l1.length
  ·
   have hlt' : (k : Int) < (l1.length : Int) := by omega
   obtain ⟨ad, eA, hx⟩ := Kd.at_string hr1 (k : Int) (by omega) hlt'
   subst eA
   replace hx := (hnx.cell (World.block_lt_of_cell? w _ hx)).trans hx
   rw [Int.toNat_natCast] at hx
   have hkey := ordKey (ordBriefAt hB1 hlt)
   have hwf : (Lit.int .i64 (k : Int)).wf = true := ordWf (by omega)
   have hkl := ordKeyed.key hkey
   cases hf : (ordNm l1 k (rdOf ByteArray.empty l1 (k : Int)).data.toList).isSome with
   | true =>
    go_wp2_with (first
     | (at_lookup; refine lookup_ok _ rfl _ _ 52 rfl 9 3 ordKeyed Tryz.underlying52 Tryz.underlying3 (ordZero _) w.heap.size k D rfl hown _ hD _ rfl hkey ?_)
     | go_in)
    go_ret
    refine ⟨?_, hnx⟩
    rw [ordTwiceOf hlt hf]
    rfl
   | false =>
    go_wp2_with (first
     | (at_lookup; refine lookup_ok _ rfl _ _ 52 rfl 9 3 ordKeyed Tryz.underlying52 Tryz.underlying3 (ordZero _) w.heap.size k D rfl hown _ hD _ rfl hkey ?_)
     | (at_mapUpdate; refine wpList_mapUpdate_own _ rfl _ _ _ 52 rfl 9 3 ordKeyed Tryz.underlying52 _ w.heap.size k D rfl hown (by unfold maxLen; omega) _ _ _ rfl rfl hkey _ [] (plainElem_int Tryz.underlying3 hwf) ?_; intro w1 hown1 hgrow1)
     | go_in)
    go_roundw
    case rel =>
     refine ⟨k + 1, by omega, by go_num, fun j hj => ?_, ⟨_, hown1, hD.put _ _ hkl⟩, hnx.grown hgrow1 hnx.size (fun j hj => by cases hj; exact Nat.le_refl _)⟩
     by_cases hjk : j = k
     ·
      subst hjk
      exact hf
     ·
      exact hno j (by omega)
    case measure => simp [intOf]; omega
  ·
   obtain rfl : k = l1.length := by omega
   have htw : ordTwice l1 = false := by
    unfold ordTwice
    rw [List.any_eq_false]
    intro j hj
    rw [hno j (List.mem_range.1 hj)]
    exact Bool.false_ne_true
   go_wp2
   have hB := hnx
   generalize wr = w1 at hB hown hnx ⊢
   go_loopw [37] (fun i wr => ∃ k : Nat, k ≤ l0.length ∧ i = .int .i64 k ∧ (∀ j, j < k → ordKeeps l1 (rd_T33 l0 (j : Int)) = true) ∧ wr.ownsMap Tryz.prog 9 (plainElem Tryz.prog 3) w.heap.size l1.length D ∧ Below w.heap.size w wr)
    (fun i _ => l0.length - (intOf i).toNat)
   case atStart => exact ⟨0, Nat.zero_le _, rfl, fun j hj => absurd hj (Nat.not_lt_zero _), hown, hnx⟩
   case round =>
    clear hown hB hnx
    obtain ⟨k, hk, rfl, hno2, hown, hnx⟩ := hrel
    by_cases hlt : k < l0.length
    case neg =>
     obtain rfl : k = l0.length := by omega
     go_wp2
     go_ret
     refine ⟨?_, hnx⟩
     rw [htw, List.all_eq_true.2 fun j hj => hno2 j (List.mem_range.1 hj)]
     rfl
    obtain ⟨ad, eA, hx0, hx1, hx2⟩ := at_T33 hr0 (k : Int) (by omega) (by omega)
    subst eA
    replace hx0 := (hnx.cell (World.block_lt_of_cell? w _ hx0)).trans hx0
    replace hx1 := (hnx.cell (World.block_lt_of_cell? w _ hx1)).trans hx1
    replace hx2 := (hnx.cell (World.block_lt_of_cell? w _ hx2)).trans hx2
    rw [Int.toNat_natCast] at hx0 hx1 hx2
    have hk1 := ordKey (ordBriefOf hB0 hlt).1
    have hk2 := ordKey (ordBriefOf hB0 hlt).2
    have harc := ordArc l0 hlt
    have hKE : ordKeeps l1 (rd_T33 l0 (k : Int)) = ordKeeps l1 (rd_T33 l0 (k : Int)) := rfl
    conv at hKE => rhs; unfold ordKeeps
    generalize hxe : rd_T33 l0 (k : Int) = x at hx0 hx1 hx2 hk1 hk2 harc hKE
    have hA : ∀ b, (decide (x.f0 ≥ 1) && decide (x.f0 ≤ 3)) = b → checker_arc.f l0 (k : Int) = some b := fun b hb => hb ▸ harc
    have hc4 : ∀ p q b c : Bool, p = false ∨ (p = true ∧ q = false) ∨ (p = true ∧ q = true ∧ b = false) ∨ (p = true ∧ q = true ∧ b = true ∧ c = true) ∨ (p = true ∧ q = true ∧ b = true ∧ c = false) := by decide
    rcases hc4 (ordNm l1 l1.length x.f1.data.toList).isSome (ordNm l1 l1.length x.f2.data.toList).isSome (decide (x.f0 ≥ 1) && decide (x.f0 ≤ 3)) (decide ((ordNm l1 l1.length x.f1.data.toList).getD 0 ≤ (ordNm l1 l1.length x.f2.data.toList).getD 0)) with hu | ⟨hu, hv⟩ | ⟨hu, hv, ha⟩ | ⟨hu, hv, ha, hl⟩ | ⟨hu, hv, ha, hl⟩
    all_goals rw [hu] at hKE
    all_goals (try rw [hv] at hKE)
    all_goals (try rw [ha] at hKE)
    all_goals (try rw [hl] at hKE)
    all_goals (try replace hA := hA _ ha)
    all_goals (go_wp2_with (first
     | (refine gd 11 ?_; refine box_event ?hg (N := 11) ?hd (cs := #[.int .i64 0, .string (⟨#[]⟩ : ByteArray), .string (⟨#[]⟩ : ByteArray)]) (t := 33) ?hr ?_; (case hd => rfl); (case hg => rfl); (case hr => exact aH); intro gb hg w3 hbox hb; have hbox' := mk0 hbox; have hcz0 := cZ hbox' 0; have hcz1 := cZ hbox' 1; have hcz2 := cZ hbox' 2; have hfz0 := blk_frozen hbox 0; have hfz1 := blk_frozen hbox 1; have hfz2 := blk_frozen hbox 2; have hown3 := ordBelow hown hb; have hne : w.heap.size ≠ gb := (by rw [hg]; exact Nat.ne_of_lt hown.lt); have hBe := below_step hnx hb; have hge : w.heap.size ≤ gb := (by rw [hg]; exact hnx.size); clear hbox hg hb)
     | (refine gd 46 ?_; at_lookup; refine lookup_ok _ rfl _ _ 52 rfl 9 3 ordKeyed Tryz.underlying52 Tryz.underlying3 (ordZero _) w.heap.size _ D rfl (ordSet (ordSet (ordSet hown3 hne) hne) hne) _ hD _ rfl hk1 ?_)
     | (refine gd 53 ?_; at_lookup; refine lookup_ok _ rfl _ _ 52 rfl 9 3 ordKeyed Tryz.underlying52 Tryz.underlying3 (ordZero _) w.heap.size _ D rfl (ordSet (ordSet (ordSet hown3 hne) hne) hne) _ hD _ rfl hk2 ?_)
     | (refine gc 14 ?_; (try (refine gate_guard (by rfl) ?_; dsimp only)); refine gl 65 Tryz.func14 #[.slice (some ad) l0.length c0, .int .i64 (k : Int)] ?_; (with_reducible refine (checker_arc.calls (some ad) c0 l0 (k : Int) _ _ ?s1 hc0 hA).mono ?_); (case s1 => exact Kd.C_below hr0 (below_set (below_set (below_set hBe hge) hge) hge)); rintro e w' ⟨rfl, ⟨nd, rfl⟩⟩; refine ⟨_, rfl, ?_⟩)
     | go_in))
    all_goals first
     | (go_ret; exact ⟨by rw [ordNo hlt (hxe ▸ hKE)]; simp, by repeat (first | exact hBe | apply pw_below_drewN | refine below_set ?_ hge)⟩)
     | go_roundw
    all_goals first
     | exact ⟨k + 1, by omega, by go_num, fun j hj => ordUpto hno2 (hxe ▸ hKE) j hj, ordSet (ordSet (ordSet hown3 hne) hne) hne, by repeat (first | exact hBe | apply pw_below_drewN | refine below_set ?_ hge)⟩
     | (simp [intOf]; omega)
def stringslite_HasPrefix.f (a0 : ByteArray) (a1 : ByteArray) : Option (Bool) := if (a0.size : Int) ≥ (a1.size : Int) then (if 0 ≤ (a1.size : Int) then (if (a1.size : Int) ≤ (a0.size : Int) then (some ((a0.extract 0 ((a1.size : Int) : Int).toNat).toList == a1.toList)) else (none)) else (none)) else (some false)
set_option maxHeartbeats 8000000 in
set_option maxRecDepth 100000 in
theorem stringslite_HasPrefix.calls (a0 : ByteArray) (a1 : ByteArray) (r : Bool) (w : World) (h : stringslite_HasPrefix.f a0 a1 = some r) :
  Calls Tryz.prog 80 #[.string a0, .string a1] w fun e w' => e = .returned (.bool r) ∧ Drawn0 w w' := by
 have H : (if (a0.size : Int) ≥ (a1.size : Int) then (if 0 ≤ (a1.size : Int) then (if (a1.size : Int) ≤ (a0.size : Int) then (some ((a0.extract 0 ((a1.size : Int) : Int).toNat).toList == a1.toList)) else (none)) else (none)) else (some false)) = some r := h
 clear h
 by_cases c3 : (a0.size : Int) ≥ (a1.size : Int)
 ·
  rw [if_pos c3] at H
  have a2 : decide ((a1.size : Int) ≤ (a0.size : Int)) = true := decide_eq_true c3
  have a3 : decide (a1.size ≤ a0.size) = true := decide_eq_true (Int.ofNat_le.mp c3)
  clear c3
  by_cases c4 : 0 ≤ (a1.size : Int)
  ·
   rw [if_pos c4] at H
   have a4 := eq_true c4
   have a5 : decide (0 ≤ (a1.size : Int)) = true := decide_eq_true c4
   clear c4
   by_cases c5 : (a1.size : Int) ≤ (a0.size : Int)
   ·
    rw [if_pos c5] at H
    have a6 := eq_true c5
    have a7 : decide ((a1.size : Int) ≤ (a0.size : Int)) = true := decide_eq_true c5
    clear c5
    obtain rfl := Option.some.inj H
    go_enter Tryz.func80, Tryz.ntmps80
    go_wp2
    go_ret
    exact ⟨by first | rfl | simp [*], by repeat (first | exact Drawn0.refl _ | apply Drawn0.step)⟩
   ·
    rw [if_neg c5] at H
    exact absurd H (by simp)
  ·
   rw [if_neg c4] at H
   exact absurd H (by simp)
 ·
  rw [if_neg c3] at H
  have a2 : decide ((a1.size : Int) ≤ (a0.size : Int)) = false := decide_eq_false c3
  have a3 : decide (a1.size ≤ a0.size) = false := decide_eq_false (fun h => c3 (Int.ofNat_le.mpr h))
  clear c3
  obtain rfl := Option.some.inj H
  go_enter Tryz.func80, Tryz.ntmps80
  go_wp2
  go_ret
  exact ⟨by first | rfl | simp [*], by repeat (first | exact Drawn0.refl _ | apply Drawn0.step)⟩
def stringslite_CutPrefix.f (a0 : ByteArray) (a1 : ByteArray) : Option (ByteArray × Bool) := (stringslite_HasPrefix.f a0 a1).bind fun a2 => (if a2 = true then (if 0 ≤ (a1.size : Int) then (if (a1.size : Int) ≤ (a0.size : Int) then (some (a0.extract ((a1.size : Int) : Int).toNat a0.size, true)) else (none)) else (none)) else (some (a0, false)))
set_option maxHeartbeats 8000000 in
set_option maxRecDepth 100000 in
theorem stringslite_CutPrefix.calls (a0 : ByteArray) (a1 : ByteArray) (r1 : ByteArray) (r2 : Bool) (w : World) (h : stringslite_CutPrefix.f a0 a1 = some (r1, r2)) :
  Calls Tryz.prog 63 #[.string a0, .string a1] w fun e w' => e = .returned (.tuple #[.string r1, .bool r2]) ∧ Drawn0 w w' := by
 have H : ((stringslite_HasPrefix.f a0 a1).bind fun a2 => (if a2 = true then (if 0 ≤ (a1.size : Int) then (if (a1.size : Int) ≤ (a0.size : Int) then (some (a0.extract ((a1.size : Int) : Int).toNat a0.size, true)) else (none)) else (none)) else (some (a0, false)))) = some (r1, r2) := h
 clear h
 obtain ⟨a2, A3, H⟩ := bS H
 by_cases c4 : a2 = true
 ·
  subst c4
  have H1 : (if 0 ≤ (a1.size : Int) then (if (a1.size : Int) ≤ (a0.size : Int) then (some (a0.extract ((a1.size : Int) : Int).toNat a0.size, true)) else (none)) else (none)) = some (r1, r2) := by rw [if_pos rfl] at H; exact H
  clear H
  have H := H1
  clear H1
  by_cases c5 : 0 ≤ (a1.size : Int)
  ·
   rw [if_pos c5] at H
   have a3 := eq_true c5
   have a4 : decide (0 ≤ (a1.size : Int)) = true := decide_eq_true c5
   clear c5
   by_cases c6 : (a1.size : Int) ≤ (a0.size : Int)
   ·
    rw [if_pos c6] at H
    have a5 := eq_true c6
    have a6 : decide ((a1.size : Int) ≤ (a0.size : Int)) = true := decide_eq_true c6
    clear c6
    simp only [Option.some.injEq, Prod.mk.injEq] at H
    obtain ⟨rfl, rfl⟩ := H
    go_enter Tryz.func63, Tryz.ntmps63
    go_wp2_with (first | (refine gc 80 ?_; refine gl 8 Tryz.func80 #[.string a0, .string a1] ?_; (with_reducible refine (stringslite_HasPrefix.calls a0 a1 true _ A3.out).mono ?_); rintro e w' ⟨rfl, ⟨nd, rfl⟩⟩; refine ⟨_, rfl, ?_⟩))
    go_ret2
    exact ⟨by first | rfl | simp [*], by repeat (first | exact Drawn0.refl _ | apply Drawn0.step)⟩
   ·
    rw [if_neg c6] at H
    exact absurd H (by simp)
  ·
   rw [if_neg c5] at H
   exact absurd H (by simp)
 ·
  replace c4 := Bool.eq_false_iff.mpr c4
  subst c4
  have H1 : (some (a0, false)) = some (r1, r2) := by rw [if_neg (show ¬ (false = true) by decide)] at H; exact H
  clear H
  have H := H1
  clear H1
  simp only [Option.some.injEq, Prod.mk.injEq] at H
  obtain ⟨rfl, rfl⟩ := H
  go_enter Tryz.func63, Tryz.ntmps63
  go_wp2_with (first | (refine gc 80 ?_; refine gl 8 Tryz.func80 #[.string a0, .string a1] ?_; (with_reducible refine (stringslite_HasPrefix.calls a0 a1 false _ A3.out).mono ?_); rintro e w' ⟨rfl, ⟨nd, rfl⟩⟩; refine ⟨_, rfl, ?_⟩))
  go_ret2
  exact ⟨by first | rfl | simp [*], by repeat (first | exact Drawn0.refl _ | apply Drawn0.step)⟩
def strings_CutPrefix.f (a0 : ByteArray) (a1 : ByteArray) : Option (ByteArray × Bool) := (stringslite_CutPrefix.f a0 a1).bind fun a2 => (some (a2.1, a2.2))
set_option maxHeartbeats 8000000 in
set_option maxRecDepth 100000 in
theorem strings_CutPrefix.calls (a0 : ByteArray) (a1 : ByteArray) (r1 : ByteArray) (r2 : Bool) (w : World) (h : strings_CutPrefix.f a0 a1 = some (r1, r2)) :
  Calls Tryz.prog 33 #[.string a0, .string a1] w fun e w' => e = .returned (.tuple #[.string r1, .bool r2]) ∧ Drawn0 w w' := by
 have H : ((stringslite_CutPrefix.f a0 a1).bind fun a2 => (some (a2.1, a2.2))) = some (r1, r2) := h
 clear h
 obtain ⟨⟨a3, a4⟩, A3, H⟩ := bS H
 (try dsimp only at H)
 simp only [Option.some.injEq, Prod.mk.injEq] at H
 obtain ⟨rfl, rfl⟩ := H
 go_enter Tryz.func33, Tryz.ntmps33
 go_wp2_with (first | (refine gc 63 ?_; refine gl 8 Tryz.func63 #[.string a0, .string a1] ?_; (with_reducible refine (stringslite_CutPrefix.calls a0 a1 a3 a4 _ A3.out).mono ?_); rintro e w' ⟨rfl, ⟨nd, rfl⟩⟩; refine ⟨_, rfl, ?_⟩))
 go_ret2
 exact ⟨by first | rfl | simp [*], by repeat (first | exact Drawn0.refl _ | apply Drawn0.step)⟩
def stringslite_Index.f (a0 : ByteArray) (a1 : ByteArray) : Option (Int) := match a1 with
 | ⟨⟨[c]⟩⟩ => some (Lib.indexByte a0.data.toList c)
 | _ => none
theorem stringslite_Index.calls (a0 : ByteArray) (a1 : ByteArray) (r : Int) (w : World) (h : stringslite_Index.f a0 a1 = some r) :
  Calls Tryz.prog 81 #[.string a0, .string a1] w fun e w' => e = .returned (.int .i64 r) ∧ Drawn0 w w' := by
 obtain ⟨⟨l⟩⟩ := a1
 match l, h with
 | [c], h =>
  obtain rfl := Option.some.inj h
  refine (Tryz.stringslite_Index_one a0 c w).mono ?_
  rintro e w' ⟨rfl, rfl⟩
  exact ⟨rfl, Drawn0.refl _⟩
 | [], h => exact absurd h (by simp [stringslite_Index.f])
 | _ :: _ :: _, h => exact absurd h (by simp [stringslite_Index.f])
def stringslite_Cut.f (a0 : ByteArray) (a1 : ByteArray) : Option (ByteArray × ByteArray × Bool) := (stringslite_Index.f a0 a1).bind fun a2 => (if a2 ≥ 0 then (if 0 ≤ a2 then (if a2 ≤ (a0.size : Int) then (if 0 ≤ (wrap64 (a2 + (a1.size : Int))) then (if (wrap64 (a2 + (a1.size : Int))) ≤ (a0.size : Int) then (some (a0.extract 0 (a2 : Int).toNat, a0.extract ((wrap64 (a2 + (a1.size : Int))) : Int).toNat a0.size, true)) else (none)) else (none)) else (none)) else (none)) else (some (a0, (⟨#[]⟩ : ByteArray), false)))
set_option maxHeartbeats 8000000 in
set_option maxRecDepth 100000 in
theorem stringslite_Cut.calls (a0 : ByteArray) (a1 : ByteArray) (r1 : ByteArray) (r2 : ByteArray) (r3 : Bool) (w : World) (h : stringslite_Cut.f a0 a1 = some (r1, r2, r3)) :
  Calls Tryz.prog 64 #[.string a0, .string a1] w fun e w' => e = .returned (.tuple #[.string r1, .string r2, .bool r3]) ∧ Drawn0 w w' := by
 have H : ((stringslite_Index.f a0 a1).bind fun a2 => (if a2 ≥ 0 then (if 0 ≤ a2 then (if a2 ≤ (a0.size : Int) then (if 0 ≤ (wrap64 (a2 + (a1.size : Int))) then (if (wrap64 (a2 + (a1.size : Int))) ≤ (a0.size : Int) then (some (a0.extract 0 (a2 : Int).toNat, a0.extract ((wrap64 (a2 + (a1.size : Int))) : Int).toNat a0.size, true)) else (none)) else (none)) else (none)) else (none)) else (some (a0, (⟨#[]⟩ : ByteArray), false)))) = some (r1, r2, r3) := h
 clear h
 obtain ⟨a2, A3, H⟩ := bS H
 by_cases c4 : a2 ≥ 0
 ·
  rw [if_pos c4] at H
  have a3 : decide (0 ≤ a2) = true := decide_eq_true c4
  clear c4
  by_cases c5 : 0 ≤ a2
  ·
   rw [if_pos c5] at H
   have a4 := eq_true c5
   have a5 : decide (0 ≤ a2) = true := decide_eq_true c5
   clear c5
   by_cases c6 : a2 ≤ (a0.size : Int)
   ·
    rw [if_pos c6] at H
    have a6 := eq_true c6
    have a7 : decide (a2 ≤ (a0.size : Int)) = true := decide_eq_true c6
    clear c6
    obtain ⟨ji7, hji7⟩ : ∃ j_ : Int, (wrap64 (a2 + (a1.size : Int))) = j_ := ⟨_, rfl⟩
    replace H : (if 0 ≤ (ji7) then (if (ji7) ≤ (a0.size : Int) then (some (a0.extract 0 (a2 : Int).toNat, a0.extract ((ji7) : Int).toNat a0.size, true)) else (none)) else (none)) = some (r1, r2, r3) := by first | (rw [hji7] at H; exact H) | (simp only [hji7] at H ⊢; exact H)
    (try rw [hji7] at A3)
    have hji7w : (IntKind.i64.wrap (a2 + (a1.size : Int))) = ji7 := (i64_w _).trans hji7
    by_cases c8 : 0 ≤ (ji7)
    ·
     rw [if_pos c8] at H
     have a8 := eq_true c8
     have a9 : decide (0 ≤ (ji7)) = true := decide_eq_true c8
     clear c8
     by_cases c9 : (ji7) ≤ (a0.size : Int)
     ·
      rw [if_pos c9] at H
      have b0 := eq_true c9
      have b1 : decide ((ji7) ≤ (a0.size : Int)) = true := decide_eq_true c9
      clear c9
      simp only [Option.some.injEq, Prod.mk.injEq] at H
      obtain ⟨rfl, rfl, rfl⟩ := H
      go_enter Tryz.func64, Tryz.ntmps64
      go_wp2_with (first | (go_at_call 81; (with_reducible refine (stringslite_Index.calls a0 a1 a2 _ A3.out).mono ?_); rintro e w' ⟨rfl, ⟨nd, rfl⟩⟩; (try first | exact ⟨rfl, _, World.drewN_drewN _ _ _⟩ | exact ⟨rfl, _, Eq.trans (World.drewN_drewN _ _ _) (congrArg (World.drewN _) (Nat.add_assoc _ _ _))⟩)))
      repeat (go_quiet (first | (go_at_call 81; (with_reducible refine (stringslite_Index.calls a0 a1 a2 _ A3.out).mono ?_); rintro e w' ⟨rfl, ⟨nd, rfl⟩⟩; (try first | exact ⟨rfl, _, World.drewN_drewN _ _ _⟩ | exact ⟨rfl, _, Eq.trans (World.drewN_drewN _ _ _) (congrArg (World.drewN _) (Nat.add_assoc _ _ _))⟩))); try go_wp2_with (first | (go_at_call 81; (with_reducible refine (stringslite_Index.calls a0 a1 a2 _ A3.out).mono ?_); rintro e w' ⟨rfl, ⟨nd, rfl⟩⟩; (try first | exact ⟨rfl, _, World.drewN_drewN _ _ _⟩ | exact ⟨rfl, _, Eq.trans (World.drewN_drewN _ _ _) (congrArg (World.drewN _) (Nat.add_assoc _ _ _))⟩))))
      go_ret3
      exact ⟨by first | rfl | (simp; done) | (simp only [← hji7] <;> (first | rfl | simp)) | (simp [*]; done), by repeat (first | exact Drawn0.refl _ | apply Drawn0.step)⟩
     ·
      rw [if_neg c9] at H
      exact absurd H (by simp)
    ·
     rw [if_neg c8] at H
     exact absurd H (by simp)
   ·
    rw [if_neg c6] at H
    exact absurd H (by simp)
  ·
   rw [if_neg c5] at H
   exact absurd H (by simp)
 ·
  rw [if_neg c4] at H
  have a3 : decide (0 ≤ a2) = false := decide_eq_false c4
  clear c4
  simp only [Option.some.injEq, Prod.mk.injEq] at H
  obtain ⟨rfl, rfl, rfl⟩ := H
  go_enter Tryz.func64, Tryz.ntmps64
  go_wp2_with (first | (go_at_call 81; (with_reducible refine (stringslite_Index.calls a0 a1 a2 _ A3.out).mono ?_); rintro e w' ⟨rfl, ⟨nd, rfl⟩⟩; (try first | exact ⟨rfl, _, World.drewN_drewN _ _ _⟩ | exact ⟨rfl, _, Eq.trans (World.drewN_drewN _ _ _) (congrArg (World.drewN _) (Nat.add_assoc _ _ _))⟩)))
  repeat (go_quiet (first | (go_at_call 81; (with_reducible refine (stringslite_Index.calls a0 a1 a2 _ A3.out).mono ?_); rintro e w' ⟨rfl, ⟨nd, rfl⟩⟩; (try first | exact ⟨rfl, _, World.drewN_drewN _ _ _⟩ | exact ⟨rfl, _, Eq.trans (World.drewN_drewN _ _ _) (congrArg (World.drewN _) (Nat.add_assoc _ _ _))⟩))); try go_wp2_with (first | (go_at_call 81; (with_reducible refine (stringslite_Index.calls a0 a1 a2 _ A3.out).mono ?_); rintro e w' ⟨rfl, ⟨nd, rfl⟩⟩; (try first | exact ⟨rfl, _, World.drewN_drewN _ _ _⟩ | exact ⟨rfl, _, Eq.trans (World.drewN_drewN _ _ _) (congrArg (World.drewN _) (Nat.add_assoc _ _ _))⟩))))
  go_ret3
  exact ⟨by first | rfl | simp [*], by repeat (first | exact Drawn0.refl _ | apply Drawn0.step)⟩
def strings_Cut.f (a0 : ByteArray) (a1 : ByteArray) : Option (ByteArray × ByteArray × Bool) := (stringslite_Cut.f a0 a1).bind fun a2 => (some (a2.1, a2.2.1, a2.2.2))
set_option maxHeartbeats 8000000 in
set_option maxRecDepth 100000 in
theorem strings_Cut.calls (a0 : ByteArray) (a1 : ByteArray) (r1 : ByteArray) (r2 : ByteArray) (r3 : Bool) (w : World) (h : strings_Cut.f a0 a1 = some (r1, r2, r3)) :
  Calls Tryz.prog 34 #[.string a0, .string a1] w fun e w' => e = .returned (.tuple #[.string r1, .string r2, .bool r3]) ∧ Drawn0 w w' := by
 have H : ((stringslite_Cut.f a0 a1).bind fun a2 => (some (a2.1, a2.2.1, a2.2.2))) = some (r1, r2, r3) := h
 clear h
 obtain ⟨⟨a3, a4, a5⟩, A3, H⟩ := bS H
 (try dsimp only at H)
 simp only [Option.some.injEq, Prod.mk.injEq] at H
 obtain ⟨rfl, rfl, rfl⟩ := H
 go_enter Tryz.func34, Tryz.ntmps34
 go_wp2_with (first | (refine gc 64 ?_; refine gl 9 Tryz.func64 #[.string a0, .string a1] ?_; (with_reducible refine (stringslite_Cut.calls a0 a1 a3 a4 a5 _ A3.out).mono ?_); rintro e w' ⟨rfl, ⟨nd, rfl⟩⟩; refine ⟨_, rfl, ?_⟩))
 go_ret3
 exact ⟨by first | rfl | simp [*], by repeat (first | exact Drawn0.refl _ | apply Drawn0.step)⟩
def checker_natural_trim.l0 : Nat → List Int → Option (List Int)
 | 0, _ => none
 | k + 1, x0 => if (x0.length : Int) > 0 then (if 0 ≤ (wrap64 ((x0.length : Int) - 1)) then (if (wrap64 ((x0.length : Int) - 1)) < (x0.length : Int) then (if (rd x0 (wrap64 ((x0.length : Int) - 1))) = 0 then (if (wrap64 ((x0.length : Int) - 1)) ≤ (x0.length : Int) then (checker_natural_trim.l0 k (x0.take ((wrap64 ((x0.length : Int) - 1)) : Int).toNat)) else (none)) else (some x0)) else (none)) else (none)) else (some x0)
def checker_natural_trim.f (k : Nat) (l0 : List Int) : Option (List Int) := checker_natural_trim.l0 k l0
theorem checker_natural_trim.mono_l : ∀ k, (∀ y0, LeO (checker_natural_trim.l0 k y0) (checker_natural_trim.l0 (k + 1) y0))
 | 0 => fun _ r h => by simp [checker_natural_trim.l0] at h
 | k + 1 => by
  have ih0 := checker_natural_trim.mono_l k
  ·
   intro y0
   unfold checker_natural_trim.l0
   repeat' first | (with_reducible first | exact ih0 .. | exact LeO.refl _ | exact LeO.none _ | refine LeO.ite ?_ ?_ | refine LeO.bind ?_ (fun _ => ?_))
theorem checker_natural_trim.mono : ∀ a0 k, LeO (checker_natural_trim.f k a0) (checker_natural_trim.f (k + 1) a0) := by
 intro a0 k
 have ih0 := checker_natural_trim.mono_l k
 unfold checker_natural_trim.f
 repeat' first | (with_reducible first | exact ih0 .. | exact LeO.refl _ | exact LeO.none _ | refine LeO.ite ?_ ?_ | refine LeO.bind ?_ (fun _ => ?_))
set_option maxHeartbeats 8000000 in
set_option maxRecDepth 100000 in
theorem checker_natural_trim.calls (k : Nat) (a9 : Nat → Prop) (A0 : Option Addr) (c0 : Nat) (l0 : List Int) (r : List Int) (w : World) (hs0 : Kd.V (Kd.int .u32) 107 w w.heap.size (fun k_ => a9 k_) (.slice A0 l0.length c0) l0) (h : checker_natural_trim.f k l0 = some r) :
  Calls Tryz.prog 65 #[.slice A0 l0.length c0] w fun e w' => ∃ v0_ : Value, e = .returned (v0_) ∧ Kd.V (Kd.int .u32) 107 w' w.heap.size (fun k_ => (a9 k_ ∨ w.heap.size ≤ k_)) v0_ r ∧ Below w.heap.size w w' := by
 have b9 := mk0 (show Kd.V (Kd.int .u32) 107 w w.heap.size (fun k_ => (a9 k_ ∨ w.heap.size ≤ k_)) (.slice A0 l0.length c0) l0 from Kd.V_mono hs0 (fun k_ hk => .inl hk))
 have HB := mk0 (Below.refl w.heap.size w)
 have H : (checker_natural_trim.l0 k l0) = some r := h
 clear h
 have H' := mk0 H
 clear H
 go_enter Tryz.func65, Tryz.ntmps65
 go_wp2
 go_loopg [0] k (fun kq v0 w' => ∃ (a1 : List Int), Aside0 (checker_natural_trim.l0 kq a1 = some r) ∧ Aside0 (kq ≤ k) ∧ Aside0 (Kd.V (Kd.int .u32) 107 w' w.heap.size (fun k_ => (a9 k_ ∨ w.heap.size ≤ k_)) v0 a1) ∧ Aside0 (Below w.heap.size w w'))
 case atStart => exact ⟨(l0), H', ⟨Nat.le_refl _⟩, ⟨pV b9.out⟩, ⟨aB⟩⟩
 case round =>
  clear H'
  obtain ⟨a1, HA, HK1, a2, HB⟩ := hrel
  cases gk with
  | zero => exact absurd HA.out (by simp [checker_natural_trim.l0])
  | succ k1 =>
   have H := HA.out
   clear HA
   simp only [checker_natural_trim.l0] at H
   by_cases c2 : (a1.length : Int) > 0
   ·
    rw [if_pos c2] at H
    have b1 : decide (0 < (a1.length : Int)) = true := decide_eq_true c2
    have b2 : decide (0 < a1.length) = true := decide_eq_true (by omega)
    clear c2
    obtain ⟨ji3, hji3⟩ : ∃ j_ : Int, (wrap64 ((a1.length : Int) - 1)) = j_ := ⟨_, rfl⟩
    replace H : (if 0 ≤ (ji3) then (if (ji3) < (a1.length : Int) then (if (rd a1 (ji3)) = 0 then (if (ji3) ≤ (a1.length : Int) then (checker_natural_trim.l0 k1 (a1.take ((ji3) : Int).toNat)) else (none)) else (some a1)) else (none)) else (none)) = some r := by first | (rw [hji3] at H; exact H) | (simp only [hji3] at H ⊢; exact H)
    have hji3w : (IntKind.i64.wrap ((a1.length : Int) - 1)) = ji3 := (i64_w _).trans hji3
    by_cases c4 : 0 ≤ (ji3)
    ·
     rw [if_pos c4] at H
     have c7 : decide (0 ≤ (ji3)) = true := decide_eq_true c4
     clear c4
     by_cases c5 : (ji3) < (a1.length : Int)
     ·
      rw [if_pos c5] at H
      have c9 : decide ((ji3) < (a1.length : Int)) = true := decide_eq_true c5
      clear c5
      by_cases c6 : (rd a1 (ji3)) = 0
      ·
       rw [if_pos c6] at H
       have b3 : ((rd a1 (ji3)) == 0) = true := beq_iff_eq.mpr c6
       have b4 : ((rd a1 (ji3)) != 0) = false := bne_eq_false_iff_eq.mpr c6
       clear c6
       have d0 := eq_true (aD : 0 ≤ (ji3))
       by_cases c8 : (ji3) ≤ (a1.length : Int)
       ·
        rw [if_pos c8] at H
        have d1 := eq_true c8
        have d2 : decide ((ji3) ≤ (a1.length : Int)) = true := decide_eq_true c8
        clear c8
        obtain ⟨a6, hy109⟩ : ∃ y_ : List Int, y_ = (a1.take ((ji3) : Int).toNat) := ⟨_, rfl⟩
        replace H : (checker_natural_trim.l0 k1 a6) = some r := by first | (rw [hy109]; exact H) | (rw [hy109]; exact (Option.bind_some _ _).symm.trans H) | exact (Option.bind_some _ _).symm.trans H
        have Ny109 := mk0 hy109
        clear hy109
        have H' := mk0 H
        clear H
        obtain ⟨d8, b0, d3⟩ := Kd.V_slice a2.out
        subst d3
        have a3 : 0 ≤ ((ji3) : Int) := aD
        have a4 : (ji3) < (a1.length : Int) := aD
        obtain ⟨a5, e108, a7⟩ := Kd.at_int (Kd.V_reads' a2.out).2.2 (ji3) a3 a4
        cases e108
        replace a3 := eq_true a3
        replace a4 := eq_true a4
        have b5 : ((ji3) : Int) ≤ ((a1.length : Int) : Int) := aD
        obtain ⟨i010, hi010, _, hsz10, _⟩ := info_parts info107
        have hroom10 : a1.length ≤ b0 := (Kd.V_reads' a2.out).2.1
        have hC10 : Kd.F (Kd.int .u32) _ _ (some a5) a1.length a1 := (Kd.V_at (base := w.heap.size) a2.out).2.2
        have hcut10 := cut_to (P := Tryz.prog) 59 107 .i64 Tryz.underlying59 hi010 (some a5) a1.length b0 (ji3) (aD) b5 hroom10
        have hr10 := Kd.F_take (m := ((ji3) : Int).toNat) hC10 (by omega)
        have hy10 : a6.length = ((ji3) : Int).toNat := (by rw [Ny109.out, List.length_take]; omega)
        rw [← Ny109.out] at hr10
        rw [← hy10] at hcut10
        have a8 := mk0 (show Kd.V (Kd.int .u32) 107 _ w.heap.size _ (.slice (some a5) a6.length b0) a6 from Kd.V_mk (by omega) hr10)
        have b8 := mk0 (show a6.length ≤ b0 from by omega)
        clear hr10 hC10 hroom10 hi010 hsz10
        have KY10 := mk0 hy10
        clear hy10
        replace b5 := eq_true b5
        go_wp2
        go_roundg k1
        case measure => have := HK1.out; omega
        case rel => exact ⟨(a6), H', ⟨by have := HK1.out; omega⟩, ⟨pV a8.out⟩, ⟨aB⟩⟩
       ·
        rw [if_neg c8] at H
        exact absurd H (by simp)
      ·
       rw [if_neg c6] at H
       have b3 : ((rd a1 (ji3)) == 0) = false := beq_eq_false_iff_ne.mpr c6
       have b4 : ((rd a1 (ji3)) != 0) = true := bne_iff_ne.mpr c6
       obtain rfl := Option.some.inj H
       obtain ⟨d4, d5, b6⟩ := Kd.V_slice a2.out
       subst b6
       have a3 : 0 ≤ ((ji3) : Int) := aD
       have a4 : (ji3) < (a1.length : Int) := aD
       obtain ⟨a5, e108, a7⟩ := Kd.at_int (Kd.V_reads' a2.out).2.2 (ji3) a3 a4
       cases e108
       replace a3 := eq_true a3
       replace a4 := eq_true a4
       go_wp2
       go_ret
       exact ⟨_, by first | rfl | (simp [errW_none, errW_some] <;> rfl) | (simp only [← hji3]; first | rfl | (simp [errW_none, errW_some] <;> rfl)) | (simp [*, errW_none, errW_some] <;> rfl), pV a2.out, aB⟩
     ·
      rw [if_neg c5] at H
      exact absurd H (by simp)
    ·
     rw [if_neg c4] at H
     exact absurd H (by simp)
   ·
    rw [if_neg c2] at H
    have b1 : decide (0 < (a1.length : Int)) = false := decide_eq_false c2
    have b2 : decide (0 < a1.length) = false := decide_eq_false (by omega)
    clear c2
    obtain rfl := Option.some.inj H
    obtain ⟨d6, d7, b7⟩ := Kd.V_slice a2.out
    subst b7
    go_wp2
    go_ret
    exact ⟨_, by first | rfl | (simp [*] <;> rfl), pV a2.out, aB⟩
mutual
def checker_natural_mul.l0 : Nat → List Int → List Int → List Int → Int → Int → Option (List Int)
 | 0, _, _, _, _, _ => none
 | k + 1, x1, x5, x17, x18, x19 => if x19 < x18 then (if 0 ≤ x19 then (if x19 < (x17.length : Int) then (checker_natural_mul.l1 k x1 x5 x19 (rd x17 x19) 0 x17 x18 x19 x1 (x1.length : Int) 0) else (none)) else (none)) else ((checker_natural_trim.f k x5).bind fun b3 => (some b3))
def checker_natural_mul.l1 : Nat → List Int → List Int → Int → Int → Int → List Int → Int → Int → List Int → Int → Int → Option (List Int)
 | 0, _, _, _, _, _, _, _, _, _, _, _ => none
 | k + 1, x1, x5, x6, x7, x8, x17, x18, x19, x24, x25, x26 => if x26 < x25 then (if 0 ≤ x26 then (if x26 < (x24.length : Int) then (if 0 ≤ (wrap64 (x6 + x26)) then (if (wrap64 (x6 + x26)) < (x5.length : Int) then (checker_natural_mul.l1 k x1 (x5.set ((wrap64 (x6 + x26)) : Int).toNat ((IntKind.u64.wrap (x8 + (IntKind.u64.wrap ((IntKind.u64.wrap ((IntKind.u64.wrap (x7)) * (IntKind.u64.wrap (rd x24 x26)))) + (IntKind.u64.wrap (rd x5 (wrap64 (x6 + x26)))))))) % 4294967296)) x6 x7 ((IntKind.u64.wrap (x8 + (IntKind.u64.wrap ((IntKind.u64.wrap ((IntKind.u64.wrap (x7)) * (IntKind.u64.wrap (rd x24 x26)))) + (IntKind.u64.wrap (rd x5 (wrap64 (x6 + x26)))))))) / 4294967296) x17 x18 x19 x24 x25 (wrap64 (x26 + 1))) else (none)) else (none)) else (none)) else (none)) else (if 0 ≤ (wrap64 (x6 + (x1.length : Int))) then (if (wrap64 (x6 + (x1.length : Int))) < (x5.length : Int) then (checker_natural_mul.l0 k x1 (x5.set ((wrap64 (x6 + (x1.length : Int))) : Int).toNat ((x8) % 4294967296)) x17 x18 (wrap64 (x19 + 1))) else (none)) else (none))
end
def checker_natural_mul.f (k : Nat) (l0 : List Int) (l1 : List Int) : Option (List Int) := if 0 ≤ (wrap64 ((l0.length : Int) + (l1.length : Int))) then (if (wrap64 ((l0.length : Int) + (l1.length : Int)) : Int).toNat ≤ 70368744177664 then (checker_natural_mul.l0 k l1 (List.replicate (wrap64 ((l0.length : Int) + (l1.length : Int)) : Int).toNat 0) l0 (l0.length : Int) 0) else (none)) else (none)
theorem checker_natural_mul.mono_l : ∀ k, (∀ y0 y1 y2 y3 y4, LeO (checker_natural_mul.l0 k y0 y1 y2 y3 y4) (checker_natural_mul.l0 (k + 1) y0 y1 y2 y3 y4)) ∧ (∀ y0 y1 y2 y3 y4 y5 y6 y7 y8 y9 f6, LeO (checker_natural_mul.l1 k y0 y1 y2 y3 y4 y5 y6 y7 y8 y9 f6) (checker_natural_mul.l1 (k + 1) y0 y1 y2 y3 y4 y5 y6 y7 y8 y9 f6))
 | 0 => ⟨fun _ _ _ _ _ r h => by simp [checker_natural_mul.l0] at h, fun _ _ _ _ _ _ _ _ _ _ _ r h => by simp [checker_natural_mul.l1] at h⟩
 | k + 1 => by
  obtain ⟨ih0, ih1⟩ := checker_natural_mul.mono_l k
  refine ⟨?_, ?_⟩
  ·
   intro y0 y1 y2 y3 y4
   unfold checker_natural_mul.l0
   repeat' first | (with_reducible first | exact ih0 .. | exact ih1 .. | exact checker_natural_trim.mono .. | exact LeO.refl _ | exact LeO.none _ | refine LeO.ite ?_ ?_ | refine LeO.bind ?_ (fun _ => ?_))
  ·
   intro y0 y1 y2 y3 y4 y5 y6 y7 y8 y9 f6
   unfold checker_natural_mul.l1
   repeat' first | (with_reducible first | exact ih0 .. | exact ih1 .. | exact checker_natural_trim.mono .. | exact LeO.refl _ | exact LeO.none _ | refine LeO.ite ?_ ?_ | refine LeO.bind ?_ (fun _ => ?_))
theorem checker_natural_mul.mono : ∀ a0 a1 k, LeO (checker_natural_mul.f k a0 a1) (checker_natural_mul.f (k + 1) a0 a1) := by
 intro a0 a1 k
 obtain ⟨ih0, ih1⟩ := checker_natural_mul.mono_l k
 unfold checker_natural_mul.f
 repeat' first | (with_reducible first | exact ih0 .. | exact ih1 .. | exact checker_natural_trim.mono .. | exact LeO.refl _ | exact LeO.none _ | refine LeO.ite ?_ ?_ | refine LeO.bind ?_ (fun _ => ?_))
set_option maxHeartbeats 8000000 in
set_option maxRecDepth 100000 in
theorem checker_natural_mul.calls (k : Nat) (A0 : Option Addr) (c0 : Nat) (l0 : List Int) (A1 : Option Addr) (c1 : Nat) (l1 : List Int) (r : List Int) (w : World) (hr0 : Kd.C (Kd.int .u32) w A0 l0.length l0) (hc0 : l0.length ≤ c0) (hr1 : Kd.C (Kd.int .u32) w A1 l1.length l1) (hc1 : l1.length ≤ c1) (h : checker_natural_mul.f k l0 l1 = some r) :
  Calls Tryz.prog 43 #[.slice A0 l0.length c0, .slice A1 l1.length c1] w fun e w' => ∃ v0_ : Value, e = .returned (v0_) ∧ Kd.V (Kd.int .u32) 107 w' w.heap.size (fun k_ => (w.heap.size ≤ k_)) v0_ r ∧ Below w.heap.size w w' := by
 have HR0 := mk0 hr0
 have j7 := mk0 hc0
 clear hr0 hc0
 have HR1 := mk0 hr1
 have j8 := mk0 hc1
 clear hr1 hc1
 have HB := mk0 (Below.refl w.heap.size w)
 have H : (if 0 ≤ (wrap64 ((l0.length : Int) + (l1.length : Int))) then (if (wrap64 ((l0.length : Int) + (l1.length : Int)) : Int).toNat ≤ 70368744177664 then (checker_natural_mul.l0 k l1 (List.replicate (wrap64 ((l0.length : Int) + (l1.length : Int)) : Int).toNat 0) l0 (l0.length : Int) 0) else (none)) else (none)) = some r := h
 clear h
 obtain ⟨ji3, hji3⟩ : ∃ j_ : Int, (wrap64 ((l0.length : Int) + (l1.length : Int))) = j_ := ⟨_, rfl⟩
 replace H : (if 0 ≤ (ji3) then (if (ji3 : Int).toNat ≤ 70368744177664 then (checker_natural_mul.l0 k l1 (List.replicate (ji3 : Int).toNat 0) l0 (l0.length : Int) 0) else (none)) else (none)) = some r := by first | (rw [hji3] at H; exact H) | (simp only [hji3] at H ⊢; exact H)
 have hji3w : (IntKind.i64.wrap ((l0.length : Int) + (l1.length : Int))) = ji3 := (i64_w _).trans hji3
 by_cases c4 : 0 ≤ (ji3)
 ·
  rw [if_pos c4] at H
  have d1 := eq_true c4
  have d2 : decide (0 ≤ (ji3)) = true := decide_eq_true c4
  clear c4
  by_cases c5 : (ji3 : Int).toNat ≤ 70368744177664
  ·
   rw [if_pos c5] at H
   have d3 := eq_true c5
   have d4 : decide ((ji3 : Int).toNat ≤ 70368744177664) = true := decide_eq_true c5
   clear c5
   obtain ⟨d5, hy114⟩ : ∃ y_ : List Int, y_ = (List.replicate (ji3 : Int).toNat 0) := ⟨_, rfl⟩
   replace H : (checker_natural_mul.l0 k l1 d5 l0 (l0.length : Int) 0) = some r := by first | (rw [hy114]; exact H) | (rw [hy114]; exact (Option.bind_some _ _).symm.trans H) | exact (Option.bind_some _ _).symm.trans H
   have Ny114 := mk0 hy114
   clear hy114
   have H' := mk0 H
   clear H
   go_enter Tryz.func43, Tryz.ntmps43
   go_wp2_with (first | (refine gd 16 ?_; refine Kd.R_make (Kd.int .u32) _ 107 rfl (N := 16) rfl 59 _ _ rfl ji3 rfl rfl Tryz.underlying59 (.int .u32 0) 4 info107 rfl (by decide) (by omega) 0 (ok := fun _ => True) (okp := fun _ => True) rfl (fun _ hk => hk) trivial (aD) (Nat.le_trans (Nat.mul_le_mul_right _ (aD : ji3.toNat ≤ 70368744177664)) (by omega)) (Below.refl _ _) (Nat.le_refl _) ?_; intro d6 w6 f7 hb hg_ hnew_; clear hg_ hnew_; rw [← Ny114.out] at f7; have d7 := mk0 (Kd.R_lower (Kd.R_newM (M := fun k_ => (w.heap.size ≤ k_)) f7 (below_size (aB)) (fun k_ h_ => h_)) (below_size (aB)));replace HB := uW hb; clear hb f7))
   go_loopg [19] k (fun kq j2 w' => ∃ (a9 : List Int) (a2 : Int), j2 = .int .i64 a2 ∧ Aside0 (checker_natural_mul.l0 kq l1 a9 l0 (l0.length : Int) a2 = some r) ∧ Aside0 (kq ≤ k) ∧ Aside0 (Kd.R (Kd.int .u32) 107 w' w.heap.size (fun k_ => (w.heap.size ≤ k_)) d6 a9) ∧ Aside0 (Below w.heap.size w w'))
   case atStart => exact ⟨(d5), (0), (by first | rfl | simp [*]), H', ⟨Nat.le_refl _⟩, ⟨sR d7.out⟩, ⟨aB⟩⟩
   case round =>
    clear H'
    try clear c1
    try clear p2
    try clear c4
    try clear d1
    try clear d2
    try clear c5
    try clear d3
    try clear d4
    try clear p6
    obtain ⟨a9, a2, rfl, HA, HK1, a5, HB⟩ := hrel
    cases gk with
    | zero => exact absurd HA.out (by simp [checker_natural_mul.l0])
    | succ k1 =>
     have H := HA.out
     clear HA
     simp only [checker_natural_mul.l0] at H
     by_cases c8 : a2 < (l0.length : Int)
     ·
      rw [if_pos c8] at H
      have d8 : decide (a2 < (l0.length : Int)) = true := decide_eq_true c8
      clear c8
      by_cases c9 : 0 ≤ a2
      ·
       rw [if_pos c9] at H
       have f8 : decide (0 ≤ a2) = true := decide_eq_true c9
       clear c9
       by_cases d9 : a2 < (l0.length : Int)
       ·
        rw [if_pos d9] at H
        have e1 : decide (a2 < (l0.length : Int)) = true := decide_eq_true d9
        clear d9
        have H' := mk0 H
        clear H
        have b0 : 0 ≤ (a2 : Int) := aD
        have b1 : a2 < (l0.length : Int) := aD
        obtain ⟨i2, e120, a7⟩ := Kd.at_int HR0.out a2 b0 b1
        cases e120
        replace a7 := (HB.out.cell (World.block_lt_of_cell? w _ a7)).trans a7
        replace b0 := eq_true b0
        replace b1 := eq_true b1
        go_wp2
        go_loopg [8, 26] k1 (fun kq v8 j3 w' => ∃ (a4 : List Int) (a6 : Int) (a3 : Int), v8 = .int .u64 a6 ∧ j3 = .int .i64 a3 ∧ Aside0 (checker_natural_mul.l1 kq l1 a4 a2 (rd l0 a2) a6 l0 (l0.length : Int) a2 l1 (l1.length : Int) a3 = some r) ∧ Aside0 (kq ≤ k1) ∧ Aside0 (Kd.R (Kd.int .u32) 107 w' w.heap.size (fun k_ => (w.heap.size ≤ k_)) d6 a4) ∧ Aside0 (Below w.heap.size w w'))
        case atStart => exact ⟨(a9), (0), (0), (by first | rfl | simp [*]), (by first | rfl | simp [*]), H', ⟨Nat.le_refl _⟩, ⟨pR a5.out⟩, ⟨aB⟩⟩
        case round =>
         clear H'
         try clear c1
         try clear p1
         try clear q1
         try clear hx1
         try clear p2
         try clear c4
         try clear d1
         try clear d2
         try clear c5
         try clear d3
         try clear d4
         try clear p6
         try clear c8
         try clear d8
         try clear c9
         try clear f8
         try clear d9
         try clear e1
         try clear a7
         try clear b0
         try clear p2
         try clear p6
         try clear b1
         obtain ⟨a4, a6, a3, rfl, rfl, HA, HK2, a5, HB⟩ := hrel
         cases gk with
         | zero => exact absurd HA.out (by simp [checker_natural_mul.l1])
         | succ k2 =>
          have H := HA.out
          clear HA
          simp only [checker_natural_mul.l1] at H
          by_cases d0 : a3 < (l1.length : Int)
          ·
           rw [if_pos d0] at H
           have e2 : decide (a3 < (l1.length : Int)) = true := decide_eq_true d0
           clear d0
           by_cases f0 : 0 ≤ a3
           ·
            rw [if_pos f0] at H
            have i3 : decide (0 ≤ a3) = true := decide_eq_true f0
            clear f0
            by_cases f1 : a3 < (l1.length : Int)
            ·
             rw [if_pos f1] at H
             have i4 : decide (a3 < (l1.length : Int)) = true := decide_eq_true f1
             clear f1
             obtain ⟨ji14, hji14⟩ : ∃ j_ : Int, (wrap64 (a2 + a3)) = j_ := ⟨_, rfl⟩
             replace H : (if 0 ≤ (ji14) then (if (ji14) < (a4.length : Int) then (checker_natural_mul.l1 k2 l1 (a4.set ((ji14) : Int).toNat ((IntKind.u64.wrap (a6 + (IntKind.u64.wrap ((IntKind.u64.wrap ((IntKind.u64.wrap ((rd l0 a2))) * (IntKind.u64.wrap (rd l1 a3)))) + (IntKind.u64.wrap (rd a4 (ji14))))))) % 4294967296)) a2 (rd l0 a2) ((IntKind.u64.wrap (a6 + (IntKind.u64.wrap ((IntKind.u64.wrap ((IntKind.u64.wrap ((rd l0 a2))) * (IntKind.u64.wrap (rd l1 a3)))) + (IntKind.u64.wrap (rd a4 (ji14))))))) / 4294967296) l0 (l0.length : Int) a2 l1 (l1.length : Int) (wrap64 (a3 + 1))) else (none)) else (none)) = some r := by first | (rw [hji14] at H; exact H) | (simp only [hji14] at H ⊢; exact H)
             have hji14w : (IntKind.i64.wrap (a2 + a3)) = ji14 := (i64_w _).trans hji14
             by_cases f2 : 0 ≤ (ji14)
             ·
              rw [if_pos f2] at H
              have i5 : decide (0 ≤ (ji14)) = true := decide_eq_true f2
              clear f2
              by_cases f3 : (ji14) < (a4.length : Int)
              ·
               rw [if_pos f3] at H
               have i6 : decide ((ji14) < (a4.length : Int)) = true := decide_eq_true f3
               clear f3
               obtain ⟨b4, hy123⟩ : ∃ y_ : List Int, y_ = (a4.set ((ji14) : Int).toNat ((IntKind.u64.wrap (a6 + (IntKind.u64.wrap ((IntKind.u64.wrap ((IntKind.u64.wrap ((rd l0 a2))) * (IntKind.u64.wrap (rd l1 a3)))) + (IntKind.u64.wrap (rd a4 (ji14))))))) % 4294967296)) := ⟨_, rfl⟩
               replace H : (checker_natural_mul.l1 k2 l1 b4 a2 (rd l0 a2) ((IntKind.u64.wrap (a6 + (IntKind.u64.wrap ((IntKind.u64.wrap ((IntKind.u64.wrap ((rd l0 a2))) * (IntKind.u64.wrap (rd l1 a3)))) + (IntKind.u64.wrap (rd a4 (ji14))))))) / 4294967296) l0 (l0.length : Int) a2 l1 (l1.length : Int) (wrap64 (a3 + 1))) = some r := by first | (rw [hy123]; exact H) | (rw [hy123]; exact (Option.bind_some _ _).symm.trans H) | exact (Option.bind_some _ _).symm.trans H
               have Ny123 := mk0 hy123
               clear hy123
               have H' := mk0 H
               clear H
               have b5 : 0 ≤ (a3 : Int) := aD
               have b6 : a3 < (l1.length : Int) := aD
               obtain ⟨i7, e121, a8⟩ := Kd.at_int HR1.out a3 b5 b6
               cases e121
               replace a8 := (HB.out.cell (World.block_lt_of_cell? w _ a8)).trans a8
               replace b5 := eq_true b5
               replace b6 := eq_true b6
               obtain ⟨j4, f9, g0⟩ := Kd.R_slice a5.out
               subst g0
               have b7 : 0 ≤ ((ji14) : Int) := aD
               have b8 : (ji14) < (a4.length : Int) := aD
               obtain ⟨i8, e122, b2⟩ := Kd.at_int (Kd.R_reads' a5.out).2.2 (ji14) b7 b8
               cases e122
               replace b7 := eq_true b7
               replace b8 := eq_true b8
               have g1 : 0 ≤ ((ji14) : Int) := aD
               have g2 : ((ji14) : Int) < ((a4.length : Int) : Int) := aD
               obtain ⟨b9, j5, e3, e4, gl17, cl17, HG17⟩ := Kd.R_form a5.out (by omega)
               (first | cases e3 | (injection e3 with ea_ en_ ec_; (first | subst ea_ | (injection ea_ with ea_; subst ea_)); subst ec_; clear en_))
               have GB17 := mk0 e4
               have GG17 := mk0 HG17
               clear e4 gl17 HG17
               (first | simp only [add_plain] at b2 | skip)
               obtain ⟨g3, hf17_0⟩ := Kd.R_celln 0 a5.out ((ji14) : Int) g1 g2
               replace g1 := eq_true g1
               replace g2 := eq_true g2
               have HP19 := Kd.R_putg a5.out ((ji14) : Int) ((IntKind.u64.wrap (a6 + (IntKind.u64.wrap ((IntKind.u64.wrap ((IntKind.u64.wrap ((rd l0 a2))) * (IntKind.u64.wrap (rd l1 a3)))) + (IntKind.u64.wrap (rd a4 (ji14))))))) % 4294967296)
               go_wp2_with (first | ((with_reducible refine gate_store (t := 107) (p := 52) rfl ?_); refine store_event (t := 107) (p := 52) (v := ?vo_w20) (w1 := (wr.setCell ⟨b9, ((ji14) : Int).toNat, none⟩ (.int .u32 ((IntKind.u64.wrap (a6 + (IntKind.u64.wrap ((IntKind.u64.wrap ((IntKind.u64.wrap ((rd l0 a2))) * (IntKind.u64.wrap (rd l1 a3)))) + (IntKind.u64.wrap (rd a4 (ji14))))))) % 4294967296)))) ?hg ?ho ?hn ?hr ?_; (case ho => rfl); (case hg => rfl); (case hn => rfl); (case hr => exact aH); intro g4 hw; have hg : wr.grownBy g4 (some b9) := (by rw [hw]; exact HP19.2); have hp_ : Kd.R (Kd.int .u32) 107 g4 w.heap.size (fun k_ => (w.heap.size ≤ k_)) (.slice (some ⟨b9, 0, none⟩) a4.length f9) b4 := (by rw [hw, Ny123.out]; exact HP19.1); clear HP19; replace a5 := mk0 (hp_);replace HB := mk0 ((by rw [hw]; exact below_set (HB.out) GB17.out : Below w.heap.size w g4)); clear hg hw hp_))
               go_roundg k2
               case measure => have := HK1.out; have := HK2.out; omega
               case rel => exact ⟨(b4), ((IntKind.u64.wrap (a6 + (IntKind.u64.wrap ((IntKind.u64.wrap ((IntKind.u64.wrap ((rd l0 a2))) * (IntKind.u64.wrap (rd l1 a3)))) + (IntKind.u64.wrap (rd a4 (ji14))))))) / 4294967296), (wrap64 (a3 + 1)), (by first | rfl | (simp; done) | (simp only [← hji14] <;> (first | rfl | simp)) | (simp [*]; done)), (by first | rfl | simp [*]), H', ⟨by have := HK1.out; have := HK2.out; omega⟩, ⟨pR a5.out⟩, ⟨aB⟩⟩
              ·
               rw [if_neg f3] at H
               exact absurd H (by simp)
             ·
              rw [if_neg f2] at H
              exact absurd H (by simp)
            ·
             rw [if_neg f1] at H
             exact absurd H (by simp)
           ·
            rw [if_neg f0] at H
            exact absurd H (by simp)
          ·
           rw [if_neg d0] at H
           have e2 : decide (a3 < (l1.length : Int)) = false := decide_eq_false d0
           clear d0
           obtain ⟨ji21, hji21⟩ : ∃ j_ : Int, (wrap64 (a2 + (l1.length : Int))) = j_ := ⟨_, rfl⟩
           replace H : (if 0 ≤ (ji21) then (if (ji21) < (a4.length : Int) then (checker_natural_mul.l0 k2 l1 (a4.set ((ji21) : Int).toNat ((a6) % 4294967296)) l0 (l0.length : Int) (wrap64 (a2 + 1))) else (none)) else (none)) = some r := by first | (rw [hji21] at H; exact H) | (simp only [hji21] at H ⊢; exact H)
           have hji21w : (IntKind.i64.wrap (a2 + (l1.length : Int))) = ji21 := (i64_w _).trans hji21
           by_cases f4 : 0 ≤ (ji21)
           ·
            rw [if_pos f4] at H
            have i9 : decide (0 ≤ (ji21)) = true := decide_eq_true f4
            clear f4
            by_cases f5 : (ji21) < (a4.length : Int)
            ·
             rw [if_pos f5] at H
             have j0 : decide ((ji21) < (a4.length : Int)) = true := decide_eq_true f5
             clear f5
             obtain ⟨c6, hy124⟩ : ∃ y_ : List Int, y_ = (a4.set ((ji21) : Int).toNat ((a6) % 4294967296)) := ⟨_, rfl⟩
             replace H : (checker_natural_mul.l0 k2 l1 c6 l0 (l0.length : Int) (wrap64 (a2 + 1))) = some r := by first | (rw [hy124]; exact H) | (rw [hy124]; exact (Option.bind_some _ _).symm.trans H) | exact (Option.bind_some _ _).symm.trans H
             have Ny124 := mk0 hy124
             clear hy124
             have H' := mk0 H
             clear H
             have g5 : 0 ≤ ((ji21) : Int) := aD
             have g6 : ((ji21) : Int) < ((a4.length : Int) : Int) := aD
             obtain ⟨c7, g7, e5, e6, gl24, cl24, HG24⟩ := Kd.R_form a5.out (by omega)
             (first | cases e5 | (injection e5 with ea_ en_ ec_; (first | subst ea_ | (injection ea_ with ea_; subst ea_)); subst ec_; clear en_))
             have GB24 := mk0 e6
             have GG24 := mk0 HG24
             clear e6 gl24 HG24
             obtain ⟨g8, hf24_0⟩ := Kd.R_celln 0 a5.out ((ji21) : Int) g5 g6
             replace g5 := eq_true g5
             replace g6 := eq_true g6
             have HP25 := Kd.R_putg a5.out ((ji21) : Int) ((a6) % 4294967296)
             go_wp2_with (first | ((with_reducible refine gate_store (t := 107) (p := 63) rfl ?_); refine store_event (t := 107) (p := 63) (v := ?vo_w26) (w1 := (wr.setCell ⟨c7, ((ji21) : Int).toNat, none⟩ (.int .u32 ((a6) % 4294967296)))) ?hg ?ho ?hn ?hr ?_; (case ho => rfl); (case hg => rfl); (case hn => rfl); (case hr => exact aH); intro g9 hw; have hg : wr.grownBy g9 (some c7) := (by rw [hw]; exact HP25.2); have hp_ : Kd.R (Kd.int .u32) 107 g9 w.heap.size (fun k_ => (w.heap.size ≤ k_)) (.slice (some ⟨c7, 0, none⟩) a4.length g7) c6 := (by rw [hw, Ny124.out]; exact HP25.1); clear HP25; replace a5 := mk0 (hp_);replace HB := mk0 ((by rw [hw]; exact below_set (HB.out) GB24.out : Below w.heap.size w g9)); clear hg hw hp_))
             go_roundg k2
             case measure => have := HK1.out; have := HK2.out; omega
             case rel => exact ⟨(c6), (wrap64 (a2 + 1)), (by first | rfl | simp [*]), H', ⟨by have := HK1.out; have := HK2.out; omega⟩, ⟨pR a5.out⟩, ⟨aB⟩⟩
            ·
             rw [if_neg f5] at H
             exact absurd H (by simp)
           ·
            rw [if_neg f4] at H
            exact absurd H (by simp)
       ·
        rw [if_neg d9] at H
        exact absurd H (by simp)
      ·
       rw [if_neg c9] at H
       exact absurd H (by simp)
     ·
      rw [if_neg c8] at H
      have d8 : decide (a2 < (l0.length : Int)) = false := decide_eq_false c8
      clear c8
      obtain ⟨b3, A27, H⟩ := bS H
      obtain rfl := Option.some.inj H
      obtain ⟨e7, e8, i1⟩ := Kd.R_slice a5.out
      subst i1
      go_wp2_with (first | (refine gc 65 ?_; refine gl 66 Tryz.func65 #[.slice e7 a9.length e8] ?_; (with_reducible refine (checker_natural_trim.calls k1 (fun k_ => some k_ = (.slice e7 a9.length e8 : Value).ownBlock) _ _ a9 b3 _ ?side1 A27.out).mono ?_); (case side1 => exact Kd.R_V (Kd.R_tight rfl (a5.out))); rintro e j9 ⟨j6, rfl, j1, hb⟩; refine ⟨_, rfl, ?_⟩; have e9 := lV (ok' := fun k_ => (w.heap.size ≤ k_)) j1;replace a5 := uR a5 hb;replace HB := uW hb; (try clear hb); (try clear j1)))
      go_ret
      exact ⟨_, by first | rfl | (simp [errW_none, errW_some] <;> rfl) | (simp only [← hji3]; first | rfl | (simp [errW_none, errW_some] <;> rfl)) | (simp [*, errW_none, errW_some] <;> rfl), pV e9.out, aB⟩
  ·
   rw [if_neg c5] at H
   exact absurd H (by simp)
 ·
  rw [if_neg c4] at H
  exact absurd H (by simp)
def bits_Add32.f (a0 : Int) (a1 : Int) (a2 : Int) : Option (Int × Int) := some ((IntKind.u64.wrap ((IntKind.u64.wrap ((IntKind.u64.wrap (a0)) + (IntKind.u64.wrap (a1)))) + (IntKind.u64.wrap (a2)))) % 4294967296, ((IntKind.u64.wrap ((IntKind.u64.wrap ((IntKind.u64.wrap (a0)) + (IntKind.u64.wrap (a1)))) + (IntKind.u64.wrap (a2)))) / 4294967296) % 4294967296)
set_option maxHeartbeats 8000000 in
set_option maxRecDepth 100000 in
theorem bits_Add32.calls (a0 : Int) (a1 : Int) (a2 : Int) (r1 : Int) (r2 : Int) (w : World) (h : bits_Add32.f a0 a1 a2 = some (r1, r2)) :
  Calls Tryz.prog 72 #[.int .u32 a0, .int .u32 a1, .int .u32 a2] w fun e w' => e = .returned (.tuple #[.int .u32 r1, .int .u32 r2]) ∧ Drawn0 w w' := by
 have H : (some ((IntKind.u64.wrap ((IntKind.u64.wrap ((IntKind.u64.wrap (a0)) + (IntKind.u64.wrap (a1)))) + (IntKind.u64.wrap (a2)))) % 4294967296, ((IntKind.u64.wrap ((IntKind.u64.wrap ((IntKind.u64.wrap (a0)) + (IntKind.u64.wrap (a1)))) + (IntKind.u64.wrap (a2)))) / 4294967296) % 4294967296)) = some (r1, r2) := h
 clear h
 simp only [Option.some.injEq, Prod.mk.injEq] at H
 obtain ⟨rfl, rfl⟩ := H
 go_enter Tryz.func72, Tryz.ntmps72
 go_wp2
 go_ret2
 exact ⟨by first | rfl | simp [*], by repeat (first | exact Drawn0.refl _ | apply Drawn0.step)⟩
mutual
def checker_natural_add.j0 : Nat → List Int → List Int → Option (List Int)
 | 0, _, _ => none
 | k + 1, x0, x1 => if 0 ≤ (wrap64 ((x0.length : Int) + 1)) then (if (wrap64 ((x0.length : Int) + 1) : Int).toNat ≤ 70368744177664 then (checker_natural_add.l0 k x1 ([] : List Int) 0 x0 (x0.length : Int) 0) else (none)) else (none)
def checker_natural_add.l0 : Nat → List Int → List Int → Int → List Int → Int → Int → Option (List Int)
 | 0, _, _, _, _, _, _ => none
 | k + 1, x1, x5, x6, x22, x23, x24 => if x24 < x23 then (if 0 ≤ x24 then (if x24 < (x22.length : Int) then (if x24 < (x1.length : Int) then ((bits_Add32.f (rd x22 x24) (rd x1 x24) x6).bind fun d1 => (if x5.length < 35184372088832 then (checker_natural_add.l0 k x1 (x5 ++ [d1.1]) d1.2 x22 x23 (wrap64 (x24 + 1))) else (none))) else ((bits_Add32.f (rd x22 x24) 0 x6).bind fun d2 => (if x5.length < 35184372088832 then (checker_natural_add.l0 k x1 (x5 ++ [d2.1]) d2.2 x22 x23 (wrap64 (x24 + 1))) else (none)))) else (none)) else (none)) else (if x5.length < 35184372088832 then ((checker_natural_trim.f k (x5 ++ [x6])).bind fun b6 => (some b6)) else (none))
end
def checker_natural_add.f (k : Nat) (l0 : List Int) (l1 : List Int) : Option (List Int) := if (l0.length : Int) < (l1.length : Int) then (checker_natural_add.j0 k l1 l0) else (checker_natural_add.j0 k l0 l1)
theorem checker_natural_add.mono_l : ∀ k, (∀ y0 y1, LeO (checker_natural_add.j0 k y0 y1) (checker_natural_add.j0 (k + 1) y0 y1)) ∧ (∀ y0 y1 y2 y3 y4 y5, LeO (checker_natural_add.l0 k y0 y1 y2 y3 y4 y5) (checker_natural_add.l0 (k + 1) y0 y1 y2 y3 y4 y5))
 | 0 => ⟨fun _ _ r h => by simp [checker_natural_add.j0] at h, fun _ _ _ _ _ _ r h => by simp [checker_natural_add.l0] at h⟩
 | k + 1 => by
  obtain ⟨ih0, ih1⟩ := checker_natural_add.mono_l k
  refine ⟨?_, ?_⟩
  ·
   intro y0 y1
   unfold checker_natural_add.j0
   repeat' first | (with_reducible first | exact ih0 .. | exact ih1 .. | exact checker_natural_trim.mono .. | exact LeO.refl _ | exact LeO.none _ | refine LeO.ite ?_ ?_ | refine LeO.bind ?_ (fun _ => ?_))
  ·
   intro y0 y1 y2 y3 y4 y5
   unfold checker_natural_add.l0
   repeat' first | (with_reducible first | exact ih0 .. | exact ih1 .. | exact checker_natural_trim.mono .. | exact LeO.refl _ | exact LeO.none _ | refine LeO.ite ?_ ?_ | refine LeO.bind ?_ (fun _ => ?_))
theorem checker_natural_add.mono : ∀ a0 a1 k, LeO (checker_natural_add.f k a0 a1) (checker_natural_add.f (k + 1) a0 a1) := by
 intro a0 a1 k
 obtain ⟨ih0, ih1⟩ := checker_natural_add.mono_l k
 unfold checker_natural_add.f
 repeat' first | (with_reducible first | exact ih0 .. | exact ih1 .. | exact checker_natural_trim.mono .. | exact LeO.refl _ | exact LeO.none _ | refine LeO.ite ?_ ?_ | refine LeO.bind ?_ (fun _ => ?_))
set_option maxHeartbeats 8000000 in
set_option maxRecDepth 100000 in
theorem checker_natural_add.calls (k : Nat) (a9 : Nat → Prop) (A0 : Option Addr) (c0 : Nat) (l0 : List Int) (b0 : Nat → Prop) (A1 : Option Addr) (c1 : Nat) (l1 : List Int) (r : List Int) (w : World) (hs0 : Kd.V (Kd.int .u32) 107 w w.heap.size (fun k_ => a9 k_) (.slice A0 l0.length c0) l0) (hs1 : Kd.V (Kd.int .u32) 107 w w.heap.size (fun k_ => b0 k_) (.slice A1 l1.length c1) l1) (h : checker_natural_add.f k l0 l1 = some r) :
  Calls Tryz.prog 45 #[.slice A0 l0.length c0, .slice A1 l1.length c1] w fun e w' => ∃ v0_ : Value, e = .returned (v0_) ∧ Kd.V (Kd.int .u32) 107 w' w.heap.size (fun k_ => ((a9 k_ ∨ b0 k_) ∨ w.heap.size ≤ k_)) v0_ r ∧ Below w.heap.size w w' := by
 have g9 := mk0 (show Kd.V (Kd.int .u32) 107 w w.heap.size (fun k_ => ((a9 k_ ∨ b0 k_) ∨ w.heap.size ≤ k_)) (.slice A0 l0.length c0) l0 from Kd.V_mono hs0 (fun k_ hk => .inl (.inl hk)))
 have i1 := mk0 (show Kd.V (Kd.int .u32) 107 w w.heap.size (fun k_ => ((a9 k_ ∨ b0 k_) ∨ w.heap.size ≤ k_)) (.slice A1 l1.length c1) l1 from Kd.V_mono hs1 (fun k_ hk => .inl (.inr hk)))
 have HB := mk0 (Below.refl w.heap.size w)
 have H : (if (l0.length : Int) < (l1.length : Int) then (checker_natural_add.j0 k l1 l0) else (checker_natural_add.j0 k l0 l1)) = some r := h
 clear h
 have g1 := mk0 H
 clear H
 go_enter Tryz.func45, Tryz.ntmps45
 go_upto_if 15 with (fail)
 go_cut [0, 1] (fun v0 v1 wc => ∃ (kq : Nat) (a3 : List Int) (a6 : List Int), Aside0 (checker_natural_add.j0 kq a3 a6 = some r) ∧ Aside0 (kq ≤ k) ∧ Aside0 (Kd.V (Kd.int .u32) 107 wc w.heap.size (fun k_ => ((a9 k_ ∨ b0 k_) ∨ w.heap.size ≤ k_)) v0 a3) ∧ Aside0 (Kd.V (Kd.int .u32) 107 wc w.heap.size (fun k_ => ((a9 k_ ∨ b0 k_) ∨ w.heap.size ≤ k_)) v1 a6) ∧ Aside0 (Below w.heap.size w wc))
 case first =>
  have H := g1.out
  clear g1
  by_cases c4 : (l0.length : Int) < (l1.length : Int)
  ·
   rw [if_pos c4] at H
   have b1 : decide ((l0.length : Int) < (l1.length : Int)) = true := decide_eq_true c4
   have b7 : decide (l0.length < l1.length) = true := decide_eq_true (Int.ofNat_lt.mp c4)
   clear c4
   (first | rw [b1] | rw [b7] | (simp only [i64_w, i32_w]; rw [b1]) | skip)
   have H' := mk0 H
   clear H
   go_wp2
   go_meet
   case rel => exact ⟨_, (l1), (l0), H', ⟨by omega⟩, ⟨pV i1.out⟩, ⟨pV g9.out⟩, ⟨aB⟩⟩
  ·
   rw [if_neg c4] at H
   have b1 : decide ((l0.length : Int) < (l1.length : Int)) = false := decide_eq_false c4
   have b7 : decide (l0.length < l1.length) = false := decide_eq_false (fun h => c4 (Int.ofNat_lt.mpr h))
   clear c4
   (first | rw [b1] | rw [b7] | (simp only [i64_w, i32_w]; rw [b1]) | skip)
   have H' := mk0 H
   clear H
   go_wp2
   go_meet
   case rel => exact ⟨_, (l0), (l1), H', ⟨by omega⟩, ⟨pV g9.out⟩, ⟨pV i1.out⟩, ⟨aB⟩⟩
 case rest =>
  clear g1
  try clear c1
  try clear p2
  try clear c4
  try clear b1
  try clear b7
  obtain ⟨kq, a3, a6, HA, HJ2, b9, a5, HB⟩ := hcut
  cases kq with
  | zero => exact absurd HA.out (by simp [checker_natural_add.j0])
  | succ kj2 =>
   have H := HA.out
   clear HA
   simp only [checker_natural_add.j0] at H
   obtain ⟨ji5, hji5⟩ : ∃ j_ : Int, (wrap64 ((a3.length : Int) + 1)) = j_ := ⟨_, rfl⟩
   replace H : (if 0 ≤ (ji5) then (if (ji5 : Int).toNat ≤ 70368744177664 then (checker_natural_add.l0 kj2 a6 ([] : List Int) 0 a3 (a3.length : Int) 0) else (none)) else (none)) = some r := by first | (rw [hji5] at H; exact H) | (simp only [hji5] at H ⊢; exact H)
   have hji5w : (IntKind.i64.wrap ((a3.length : Int) + 1)) = ji5 := (i64_w _).trans hji5
   by_cases c6 : 0 ≤ (ji5)
   ·
    rw [if_pos c6] at H
    have g2 := eq_true c6
    have g3 : decide (0 ≤ (ji5)) = true := decide_eq_true c6
    clear c6
    by_cases c7 : (ji5 : Int).toNat ≤ 70368744177664
    ·
     rw [if_pos c7] at H
     have g4 := eq_true c7
     have g5 : decide ((ji5 : Int).toNat ≤ 70368744177664) = true := decide_eq_true c7
     clear c7
     obtain ⟨d9, hy125⟩ : ∃ y_ : List Int, y_ = ([] : List Int) := ⟨_, rfl⟩
     replace H : (checker_natural_add.l0 kj2 a6 d9 0 a3 (a3.length : Int) 0) = some r := by first | (rw [hy125]; exact H) | (rw [hy125]; exact (Option.bind_some _ _).symm.trans H) | exact (Option.bind_some _ _).symm.trans H
     have Ny125 := mk0 hy125
     clear hy125
     have H' := mk0 H
     clear H
     obtain ⟨i6, i7, i8⟩ := Kd.V_slice b9.out
     subst i8
     go_wp2_with (first | (refine gd 21 ?_; refine Go.Proofs.YtbgmfgndldnmcaaGreatDoorMyWords.R_make_cap (Kd.int .u32) _ 107 rfl (N := 21) rfl 59 _ _ rfl ji5 rfl rfl Tryz.underlying59 (.int .u32 0) 4 info107 rfl (by decide) (by omega) 0 (ok := fun _ => True) (okp := fun _ => True) rfl (fun _ hk => hk) trivial (aD) (Nat.le_trans (Nat.mul_le_mul_right _ (aD : ji5.toNat ≤ 70368744177664)) (by omega)) (Below.refl _ _) (Nat.le_refl _) ?_; intro i9 w9 b8 hb hg_ hnew_; clear hg_ hnew_; rw [← Ny125.out] at b8; replace b9 := dV b9 (Kd.R_base b8) hb;replace a5 := dV a5 (Kd.R_base b8) hb;have e1 := mk0 (Kd.R_lower (Kd.R_newM (M := fun k_ => (w.heap.size ≤ k_)) b8 (below_size (aB)) (fun k_ h_ => h_)) (below_size (aB)));replace HB := uW hb; clear hb b8))
     go_loopg [5, 6, 24] kj2 (fun kq v5 v6 j1 w' => ∃ (a7 : List Int) (a8 : Int) (a2 : Int), v6 = .int .u32 a8 ∧ j1 = .int .i64 a2 ∧ Aside0 (checker_natural_add.l0 kq a6 a7 a8 a3 (a3.length : Int) a2 = some r) ∧ Aside0 (kq ≤ kj2) ∧ Aside0 (Kd.V (Kd.int .u32) 107 w' w.heap.size (fun k_ => ((a9 k_ ∨ b0 k_) ∨ w.heap.size ≤ k_) ∧ some k_ ≠ (v5 : Value).ownBlock) u1 a6) ∧ Aside0 (Kd.R (Kd.int .u32) 107 w' w.heap.size (fun k_ => (w.heap.size ≤ k_)) v5 a7) ∧ Aside0 (Kd.V (Kd.int .u32) 107 w' w.heap.size (fun k_ => ((a9 k_ ∨ b0 k_) ∨ w.heap.size ≤ k_) ∧ some k_ ≠ (v5 : Value).ownBlock) (.slice i6 a3.length i7) a3) ∧ Aside0 (Below w.heap.size w w'))
     case atStart => exact ⟨(d9), (0), (0), (by first | rfl | simp [*]), (by first | rfl | simp [*]), H', ⟨Nat.le_refl _⟩, ⟨pV a5.out⟩, ⟨sR e1.out⟩, ⟨pV b9.out⟩, ⟨aB⟩⟩
     case round =>
      clear H'
      try clear c1
      try clear p2
      try clear c4
      try clear b1
      try clear b7
      try clear c6
      try clear g2
      try clear g3
      try clear p6
      try clear c7
      try clear g4
      try clear g5
      try clear p2
      obtain ⟨a7, a8, a2, rfl, rfl, HA, HK2, a5, b5, a4, HB⟩ := hrel
      cases gk with
      | zero => exact absurd HA.out (by simp [checker_natural_add.l0])
      | succ k2 =>
       have H := HA.out
       clear HA
       simp only [checker_natural_add.l0] at H
       by_cases d7 : a2 < (a3.length : Int)
       ·
        rw [if_pos d7] at H
        have e2 : decide (a2 < (a3.length : Int)) = true := decide_eq_true d7
        clear d7
        by_cases f5 : 0 ≤ a2
        ·
         rw [if_pos f5] at H
         have i2 : decide (0 ≤ a2) = true := decide_eq_true f5
         clear f5
         by_cases f6 : a2 < (a3.length : Int)
         ·
          rw [if_pos f6] at H
          have i3 : decide (a2 < (a3.length : Int)) = true := decide_eq_true f6
          clear f6
          by_cases d8 : a2 < (a6.length : Int)
          ·
           rw [if_pos d8] at H
           have e3 : decide (a2 < (a6.length : Int)) = true := decide_eq_true d8
           clear d8
           obtain ⟨⟨c5, d3⟩, A15, H⟩ := bS H
           (try dsimp only at H)
           by_cases f7 : a7.length < 35184372088832
           ·
            rw [if_pos f7] at H
            have e4 := mk0 f7
            clear f7
            obtain ⟨e5, hy132⟩ : ∃ y_ : List Int, y_ = (a7 ++ [c5]) := ⟨_, rfl⟩
            replace H : (checker_natural_add.l0 k2 a6 e5 d3 a3 (a3.length : Int) (wrap64 (a2 + 1))) = some r := by first | (rw [hy132]; exact H) | (rw [hy132]; exact (Option.bind_some _ _).symm.trans H) | exact (Option.bind_some _ _).symm.trans H
            have Ny132 := mk0 hy132
            clear hy132
            have H' := mk0 H
            clear H
            have b2 : 0 ≤ (a2 : Int) := aD
            have b3 : a2 < (a3.length : Int) := aD
            obtain ⟨e6, e128, c8⟩ := Kd.at_int (Kd.V_reads' a4.out).2.2 a2 b2 b3
            cases e128
            replace b2 := eq_true b2
            replace b3 := eq_true b3
            obtain ⟨j2, j3, g6⟩ := Kd.V_slice a5.out
            subst g6
            have d4 : 0 ≤ (a2 : Int) := aD
            have d5 : a2 < (a6.length : Int) := aD
            obtain ⟨i4, e129, f8⟩ := Kd.at_int (Kd.V_reads' a5.out).2.2 a2 d4 d5
            cases e129
            replace d4 := eq_true d4
            replace d5 := eq_true d5
            go_wp2_with (first | (refine gc 72 ?_; refine gl 41 Tryz.func72 #[.int .u32 (rd a3 a2), .int .u32 (rd a6 a2), .int .u32 a8] ?_; (with_reducible refine (bits_Add32.calls (rd a3 a2) (rd a6 a2) a8 c5 d3 _ A15.out).mono ?_); rintro e w' ⟨rfl, ⟨nd, rfl⟩⟩; refine ⟨_, rfl, ?_⟩) | ((with_reducible refine gate_builtin (b := .append) (xs := #[.tmp 44, .tmp 46]) rfl ?_); at_builtin; refine Kd.R_append (Kd.int .u32) (w0 := w) w.heap.size rfl (.tmp 44) (.tmp 46) 59 107 (.int .u32 0) 4 rfl Tryz.underlying59 info107 rfl (by decide) (by omega) u5 a7 c5 [.int .u32 c5] (fun k_ => (w.heap.size ≤ k_)) (fun _ => False) rfl rfl ?aP (fun _ hk => hk.elim) ?aF ?aO ?aB ?aS ?aL ?_; (case aP => exact rfl); (case aB => exact (aB)); (case aF => exact (fun k_ hk => (Nat.le_trans (below_size (aB)) hk))); (case aO => exact (pR b5.out)); (case aS => exact (below_size (aB))); (case aL => have := e4.out; omega); intro j4 k0 ho hb hg hat; rw [← Ny132.out] at ho; replace a5 := mk0 (Kd.V_afterv (ok := (fun k_ => ((a9 k_ ∨ b0 k_) ∨ w.heap.size ≤ k_))) (pV a5.out) hg hat);replace a4 := mk0 (Kd.V_afterv (ok := (fun k_ => ((a9 k_ ∨ b0 k_) ∨ w.heap.size ≤ k_))) (pV a4.out) hg hat);replace HB := mk0 (hb);have e7 := mk0 (ho);clear b5; clear ho hb hg hat))
            go_roundg k2
            case measure => have := HJ2.out; have := HK2.out; omega
            case rel => exact ⟨(e5), (d3), (wrap64 (a2 + 1)), (by first | rfl | simp [*]), (by first | rfl | simp [*]), H', ⟨by have := HJ2.out; have := HK2.out; omega⟩, ⟨pV a5.out⟩, ⟨pR e7.out⟩, ⟨pV a4.out⟩, ⟨aB⟩⟩
           ·
            rw [if_neg f7] at H
            exact absurd H (by simp)
          ·
           rw [if_neg d8] at H
           have e3 : decide (a2 < (a6.length : Int)) = false := decide_eq_false d8
           clear d8
           obtain ⟨⟨c9, d6⟩, A19, H⟩ := bS H
           (try dsimp only at H)
           by_cases f9 : a7.length < 35184372088832
           ·
            rw [if_pos f9] at H
            have e8 := mk0 f9
            clear f9
            obtain ⟨e9, hy137⟩ : ∃ y_ : List Int, y_ = (a7 ++ [c9]) := ⟨_, rfl⟩
            replace H : (checker_natural_add.l0 k2 a6 e9 d6 a3 (a3.length : Int) (wrap64 (a2 + 1))) = some r := by first | (rw [hy137]; exact H) | (rw [hy137]; exact (Option.bind_some _ _).symm.trans H) | exact (Option.bind_some _ _).symm.trans H
            have Ny137 := mk0 hy137
            clear hy137
            have H' := mk0 H
            clear H
            have b2 : 0 ≤ (a2 : Int) := aD
            have b3 : a2 < (a3.length : Int) := aD
            obtain ⟨e6, e128, c8⟩ := Kd.at_int (Kd.V_reads' a4.out).2.2 a2 b2 b3
            cases e128
            replace b2 := eq_true b2
            replace b3 := eq_true b3
            obtain ⟨j5, j6, g7⟩ := Kd.V_slice a5.out
            subst g7
            go_wp2_with (first | (refine gc 72 ?_; refine gl 41 Tryz.func72 #[.int .u32 (rd a3 a2), .int .u32 0, .int .u32 a8] ?_; (with_reducible refine (bits_Add32.calls (rd a3 a2) 0 a8 c9 d6 _ A19.out).mono ?_); rintro e w' ⟨rfl, ⟨nd, rfl⟩⟩; refine ⟨_, rfl, ?_⟩) | ((with_reducible refine gate_builtin (b := .append) (xs := #[.tmp 44, .tmp 46]) rfl ?_); at_builtin; refine Kd.R_append (Kd.int .u32) (w0 := w) w.heap.size rfl (.tmp 44) (.tmp 46) 59 107 (.int .u32 0) 4 rfl Tryz.underlying59 info107 rfl (by decide) (by omega) u5 a7 c9 [.int .u32 c9] (fun k_ => (w.heap.size ≤ k_)) (fun _ => False) rfl rfl ?aP (fun _ hk => hk.elim) ?aF ?aO ?aB ?aS ?aL ?_; (case aP => exact rfl); (case aB => exact (aB)); (case aF => exact (fun k_ hk => (Nat.le_trans (below_size (aB)) hk))); (case aO => exact (pR b5.out)); (case aS => exact (below_size (aB))); (case aL => have := e8.out; omega); intro j7 k1 ho hb hg hat; rw [← Ny137.out] at ho; replace a5 := mk0 (Kd.V_afterv (ok := (fun k_ => ((a9 k_ ∨ b0 k_) ∨ w.heap.size ≤ k_))) (pV a5.out) hg hat);replace a4 := mk0 (Kd.V_afterv (ok := (fun k_ => ((a9 k_ ∨ b0 k_) ∨ w.heap.size ≤ k_))) (pV a4.out) hg hat);replace HB := mk0 (hb);have f0 := mk0 (ho);clear b5; clear ho hb hg hat))
            go_roundg k2
            case measure => have := HJ2.out; have := HK2.out; omega
            case rel => exact ⟨(e9), (d6), (wrap64 (a2 + 1)), (by first | rfl | simp [*]), (by first | rfl | simp [*]), H', ⟨by have := HJ2.out; have := HK2.out; omega⟩, ⟨pV a5.out⟩, ⟨pR f0.out⟩, ⟨pV a4.out⟩, ⟨aB⟩⟩
           ·
            rw [if_neg f9] at H
            exact absurd H (by simp)
         ·
          rw [if_neg f6] at H
          exact absurd H (by simp)
        ·
         rw [if_neg f5] at H
         exact absurd H (by simp)
       ·
        rw [if_neg d7] at H
        have e2 : decide (a2 < (a3.length : Int)) = false := decide_eq_false d7
        clear d7
        by_cases g0 : a7.length < 35184372088832
        ·
         rw [if_pos g0] at H
         have f1 := mk0 g0
         clear g0
         obtain ⟨d0, hy140⟩ : ∃ y_ : List Int, y_ = (a7 ++ [a8]) := ⟨_, rfl⟩
         replace H : ((checker_natural_trim.f k2 d0).bind fun b6 => (some b6)) = some r := by first | (rw [hy140]; exact H) | (rw [hy140]; exact (Option.bind_some _ _).symm.trans H) | exact (Option.bind_some _ _).symm.trans H
         have Ny140 := mk0 hy140
         clear hy140
         obtain ⟨b6, A24, H⟩ := bS H
         obtain rfl := Option.some.inj H
         go_wp2_with (first | ((with_reducible refine gate_builtin (b := .append) (xs := #[.tmp 49, .tmp 51]) rfl ?_); at_builtin; refine Kd.R_append (Kd.int .u32) (w0 := w) w.heap.size rfl (.tmp 49) (.tmp 51) 59 107 (.int .u32 0) 4 rfl Tryz.underlying59 info107 rfl (by decide) (by omega) u5 a7 a8 [.int .u32 a8] (fun k_ => (w.heap.size ≤ k_)) (fun _ => False) rfl rfl ?aP (fun _ hk => hk.elim) ?aF ?aO ?aB ?aS ?aL ?_; (case aP => exact rfl); (case aB => exact (aB)); (case aF => exact (fun k_ hk => (Nat.le_trans (below_size (aB)) hk))); (case aO => exact (pR b5.out)); (case aS => exact (below_size (aB))); (case aL => have := f1.out; omega); intro j8 k3 ho hb hg hat; rw [← Ny140.out] at ho; replace a5 := mk0 (Kd.V_afterv (ok := (fun k_ => ((a9 k_ ∨ b0 k_) ∨ w.heap.size ≤ k_))) (pV a5.out) hg hat);replace a4 := mk0 (Kd.V_afterv (ok := (fun k_ => ((a9 k_ ∨ b0 k_) ∨ w.heap.size ≤ k_))) (pV a4.out) hg hat);replace HB := mk0 (hb);have b4 := mk0 (ho);clear b5; clear ho hb hg hat; obtain ⟨f2, f3, g8⟩ := Kd.R_slice b4.out; subst g8) | (refine gc 65 ?_; refine gl 53 Tryz.func65 #[.slice f2 d0.length f3] ?_; (with_reducible refine (checker_natural_trim.calls k2 (fun k_ => some k_ = (.slice f2 d0.length f3 : Value).ownBlock) _ _ d0 b6 _ ?side1 A24.out).mono ?_); (case side1 => exact Kd.R_V (Kd.R_tight rfl (b4.out))); rintro e k4 ⟨j9, rfl, i5, hb⟩; refine ⟨_, rfl, ?_⟩; replace a5 := uV a5 hb;replace a4 := uV a4 hb;have f4 := lV (ok' := fun k_ => ((a9 k_ ∨ b0 k_) ∨ w.heap.size ≤ k_)) i5;replace b4 := uR b4 hb;replace HB := uW hb; (try clear hb); (try clear i5)))
         go_ret
         exact ⟨_, by first | rfl | (simp [errW_none, errW_some] <;> rfl) | (simp only [← hji5]; first | rfl | (simp [errW_none, errW_some] <;> rfl)) | (simp [*, errW_none, errW_some] <;> rfl), pV f4.out, aB⟩
        ·
         rw [if_neg g0] at H
         exact absurd H (by simp)
    ·
     rw [if_neg c7] at H
     exact absurd H (by simp)
   ·
    rw [if_neg c6] at H
    exact absurd H (by simp)
mutual
def checker_digits.j0 : Nat → ByteArray → Bool → Option (List Int × Bool)
 | 0, _, _ => none
 | k + 1, x0, x22 => if x22 = true then (some (([] : List Int), false)) else (checker_digits.l0 k x0 ([] : List Int) (x0.size : Int) 0)
def checker_digits.l0 : Nat → ByteArray → List Int → Int → Int → Option (List Int × Bool)
 | 0, _, _, _, _ => none
 | k + 1, x0, x4, x24, x25 => if x25 < x24 then (if 0 ≤ x25 then (if x25 < (x0.size : Int) then (if (bt x0 x25) < 48 then (checker_digits.j2 k x0 x4 x25 x24 x25 true) else (checker_digits.j2 k x0 x4 x25 x24 x25 (decide ((bt x0 x25) > 57)))) else (none)) else (none)) else (some (x4, true))
def checker_digits.j2 : Nat → ByteArray → List Int → Int → Int → Int → Bool → Option (List Int × Bool)
 | 0, _, _, _, _, _, _ => none
 | k + 1, x0, x4, x5, x24, x25, x37 => if x37 = true then (some (([] : List Int), false)) else ((checker_natural_mul.f k x4 (([10] : List Int))).bind fun a9 => (if 0 ≤ x5 then (if x5 < (x0.size : Int) then ((checker_natural_trim.f k (([((bt x0 x5) - 48) % 256] : List Int))).bind fun b1 => ((checker_natural_add.f k a9 b1).bind fun b3 => (checker_digits.l0 k x0 b3 x24 (wrap64 (x25 + 1))))) else (none)) else (none)))
end
def checker_digits.f (k : Nat) (a0 : ByteArray) : Option (List Int × Bool) := if a0.toList = ([] : List UInt8) then (checker_digits.j0 k a0 true) else (if (a0.size : Int) > 200 then (checker_digits.j0 k a0 true) else (if 0 < (a0.size : Int) then (if (bt a0 0) = 48 then (checker_digits.j0 k a0 (decide ((a0.size : Int) > 1))) else (checker_digits.j0 k a0 false)) else (none)))
theorem checker_digits.mono_l : ∀ k, (∀ y0 y1, LeO (checker_digits.j0 k y0 y1) (checker_digits.j0 (k + 1) y0 y1)) ∧ (∀ y0 y1 y2 y3, LeO (checker_digits.l0 k y0 y1 y2 y3) (checker_digits.l0 (k + 1) y0 y1 y2 y3)) ∧ (∀ y0 y1 y2 y3 y4 y5, LeO (checker_digits.j2 k y0 y1 y2 y3 y4 y5) (checker_digits.j2 (k + 1) y0 y1 y2 y3 y4 y5))
 | 0 => ⟨fun _ _ r h => by simp [checker_digits.j0] at h, fun _ _ _ _ r h => by simp [checker_digits.l0] at h, fun _ _ _ _ _ _ r h => by simp [checker_digits.j2] at h⟩
 | k + 1 => by
  obtain ⟨ih0, ih1, ih2⟩ := checker_digits.mono_l k
  refine ⟨?_, ?_, ?_⟩
  ·
   intro y0 y1
   unfold checker_digits.j0
   repeat' first | (with_reducible first | exact ih0 .. | exact ih1 .. | exact ih2 .. | exact checker_natural_add.mono .. | exact checker_natural_mul.mono .. | exact checker_natural_trim.mono .. | exact LeO.refl _ | exact LeO.none _ | refine LeO.ite ?_ ?_ | refine LeO.bind ?_ (fun _ => ?_))
  ·
   intro y0 y1 y2 y3
   unfold checker_digits.l0
   repeat' first | (with_reducible first | exact ih0 .. | exact ih1 .. | exact ih2 .. | exact checker_natural_add.mono .. | exact checker_natural_mul.mono .. | exact checker_natural_trim.mono .. | exact LeO.refl _ | exact LeO.none _ | refine LeO.ite ?_ ?_ | refine LeO.bind ?_ (fun _ => ?_))
  ·
   intro y0 y1 y2 y3 y4 y5
   unfold checker_digits.j2
   repeat' first | (with_reducible first | exact ih0 .. | exact ih1 .. | exact ih2 .. | exact checker_natural_add.mono .. | exact checker_natural_mul.mono .. | exact checker_natural_trim.mono .. | exact LeO.refl _ | exact LeO.none _ | refine LeO.ite ?_ ?_ | refine LeO.bind ?_ (fun _ => ?_))
theorem checker_digits.mono : ∀ a0 k, LeO (checker_digits.f k a0) (checker_digits.f (k + 1) a0) := by
 intro a0 k
 obtain ⟨ih0, ih1, ih2⟩ := checker_digits.mono_l k
 unfold checker_digits.f
 repeat' first | (with_reducible first | exact ih0 .. | exact ih1 .. | exact ih2 .. | exact checker_natural_add.mono .. | exact checker_natural_mul.mono .. | exact checker_natural_trim.mono .. | exact LeO.refl _ | exact LeO.none _ | refine LeO.ite ?_ ?_ | refine LeO.bind ?_ (fun _ => ?_))
def checker_digits.T9 : Bool × List (List Nat × List Nat) := (true, [([], []), ([], []), ([0, 1], [0, 1]), ([], []), ([], []), ([3, 4], [3, 4]), ([5], [5]), ([6], [6]), ([7], [7]), ([8, 2], [8]), ([2, 9, 9], [2, 9]), ([10, 10, 0, 1, 2, 3, 4, 5, 6, 7, 8, 9, 10], [0, 10])])
def checker_digits.B9 : List Nat := [0, 0, 3, 0, 0, 24, 56, 120, 248, 511, 1023, 2047]
theorem checker_digits.tab9 : rtab .any (opsOf Tryz.f35 9) = checker_digits.T9 := by kernel_rfl
theorem checker_digits.bits9 : waitsOk checker_digits.T9.2 checker_digits.B9 = true := by kernel_rfl
set_option maxHeartbeats 8000000 in
set_option maxRecDepth 100000 in
theorem checker_digits.calls (k : Nat) (a0 : ByteArray) (r1 : List Int) (r2 : Bool) (w : World) (h : checker_digits.f k a0 = some (r1, r2)) :
  Calls Tryz.prog 35 #[.string a0] w fun e w' => ∃ v0_ : Value, e = .returned (.tuple #[v0_, .bool r2]) ∧ Kd.V (Kd.int .u32) 107 w' w.heap.size (fun k_ => (w.heap.size ≤ k_)) v0_ r1 ∧ Below w.heap.size w w' := by
 have HB := mk0 (Below.refl w.heap.size w)
 have H : (if a0.toList = ([] : List UInt8) then (checker_digits.j0 k a0 true) else (if (a0.size : Int) > 200 then (checker_digits.j0 k a0 true) else (if 0 < (a0.size : Int) then (if (bt a0 0) = 48 then (checker_digits.j0 k a0 (decide ((a0.size : Int) > 1))) else (checker_digits.j0 k a0 false)) else (none)))) = some (r1, r2) := h
 clear h
 have i4 := mk0 H
 clear H
 go_enter Tryz.func35, Tryz.ntmps35
 go_upto_region 1 with (fail)
 go_cut [22] (fun k1 wc => ∃ (kq : Nat) (d0 : Bool), k1 = .bool d0 ∧ Aside0 (checker_digits.j0 kq a0 d0 = some (r1, r2)) ∧ Aside0 (kq ≤ k) ∧ Aside0 (Below w.heap.size w wc))
 case first =>
  have H := i4.out
  clear i4
  by_cases c3 : a0.toList = ([] : List UInt8)
  ·
   rw [if_pos c3] at H
   have b6 : (a0.toList == ([] : List UInt8)) = true := beq_iff_eq.mpr c3
   have d4 : (a0.toList != ([] : List UInt8)) = false := bne_eq_false_iff_eq.mpr c3
   clear c3
   (first | rw [b6] | rw [d4] | (simp only [i64_w, i32_w]; rw [b6]) | skip)
   have H' := mk0 H
   clear H
   go_wp2
   go_meet
   case rel => exact ⟨_, (true), (by first | rfl | simp [*]), H', ⟨by omega⟩, ⟨aB⟩⟩
  ·
   rw [if_neg c3] at H
   have b6 : (a0.toList == ([] : List UInt8)) = false := beq_eq_false_iff_ne.mpr c3
   have d4 : (a0.toList != ([] : List UInt8)) = true := bne_iff_ne.mpr c3
   (first | rw [b6] | rw [d4] | (simp only [i64_w, i32_w]; rw [b6]) | skip)
   by_cases c4 : (a0.size : Int) > 200
   ·
    rw [if_pos c4] at H
    have e2 : decide (200 < (a0.size : Int)) = true := decide_eq_true c4
    have e3 : decide (200 < a0.size) = true := decide_eq_true (by omega)
    clear c4
    have H' := mk0 H
    clear H
    go_wp2
    go_meet
    case rel => exact ⟨_, (true), (by first | rfl | simp [*]), H', ⟨by omega⟩, ⟨aB⟩⟩
   ·
    rw [if_neg c4] at H
    have e2 : decide (200 < (a0.size : Int)) = false := decide_eq_false c4
    have e3 : decide (200 < a0.size) = false := decide_eq_false (by omega)
    clear c4
    by_cases c5 : 0 < (a0.size : Int)
    ·
     rw [if_pos c5] at H
     have e7 : decide (0 < (a0.size : Int)) = true := decide_eq_true c5
     have e8 : decide (0 < a0.size) = true := decide_eq_true (by omega)
     clear c5
     by_cases c7 : (bt a0 0) = 48
     ·
      rw [if_pos c7] at H
      have e4 : ((bt a0 0) == 48) = true := beq_iff_eq.mpr c7
      have e5 : ((bt a0 0) != 48) = false := bne_eq_false_iff_eq.mpr c7
      clear c7
      have H' := mk0 H
      clear H
      have p6 : 0 ≤ (0 : Int) := (by omega)
      have q6 : 0 < a0.size := (by have : (0 : Int) < (a0.size : Int) := aD; omega)
      have hx6 : ∀ h : 0 < a0.size, ((a0[0]'h).toNat : Int) = bt a0 0 := bt_at a0 0
      clear p6
      have qi6 : (0 < (a0.size : Int)) = True := eq_true (aD)
      replace q6 := eq_true q6
      go_wp2
      go_meet
      case rel => exact ⟨_, (decide ((a0.size : Int) > 1)), (by first | rfl | simp [*]), H', ⟨by omega⟩, ⟨aB⟩⟩
     ·
      rw [if_neg c7] at H
      have e4 : ((bt a0 0) == 48) = false := beq_eq_false_iff_ne.mpr c7
      have e5 : ((bt a0 0) != 48) = true := bne_iff_ne.mpr c7
      have H' := mk0 H
      clear H
      have p6 : 0 ≤ (0 : Int) := (by omega)
      have q6 : 0 < a0.size := (by have : (0 : Int) < (a0.size : Int) := aD; omega)
      have hx6 : ∀ h : 0 < a0.size, ((a0[0]'h).toNat : Int) = bt a0 0 := bt_at a0 0
      clear p6
      have qi6 : (0 < (a0.size : Int)) = True := eq_true (aD)
      replace q6 := eq_true q6
      go_wp2
      go_meet
      case rel => exact ⟨_, (false), (by first | rfl | simp [*]), H', ⟨by omega⟩, ⟨aB⟩⟩
    ·
     rw [if_neg c5] at H
     exact absurd H (by simp)
 case rest =>
  clear i4
  try clear p2
  try clear c3
  try clear b6
  try clear d4
  try clear c4
  try clear e2
  try clear e3
  try clear c5
  try clear e7
  try clear e8
  try clear p6
  try clear q6
  try clear hx6
  try clear qi6
  try clear c7
  try clear e4
  try clear e5
  try clear p6
  try clear q6
  obtain ⟨kq, d0, rfl, HA, HJ1, HB⟩ := hcut
  cases kq with
  | zero => exact absurd HA.out (by simp [checker_digits.j0])
  | succ kj1 =>
   have H := HA.out
   clear HA
   simp only [checker_digits.j0] at H
   by_cases c8 : d0 = true
   ·
    subst c8
    have H1 : (some (([] : List Int), false)) = some (r1, r2) := by rw [if_pos rfl] at H; exact H
    clear H
    have H := H1
    clear H1
    simp only [Option.some.injEq, Prod.mk.injEq] at H
    obtain ⟨rfl, rfl⟩ := H
    go_wp2
    go_ret2
    exact ⟨_, by first | rfl | (simp [*] <;> rfl), Kd.V_nil _ _ _ _ _, aB⟩
   ·
    replace c8 := Bool.eq_false_iff.mpr c8
    subst c8
    have H1 : (checker_digits.l0 kj1 a0 ([] : List Int) (a0.size : Int) 0) = some (r1, r2) := by rw [if_neg (show ¬ (false = true) by decide)] at H; exact H
    clear H
    have H := H1
    clear H1
    have H' := mk0 H
    clear H
    go_wp2
    go_loopg [4, 25] kj1 (fun kq v4 k3 w' => ∃ (a7 : List Int) (a1 : Int), k3 = .int .i64 a1 ∧ Aside0 (checker_digits.l0 kq a0 a7 (a0.size : Int) a1 = some (r1, r2)) ∧ Aside0 (kq ≤ kj1) ∧ Aside0 (Kd.V (Kd.int .u32) 107 w' w.heap.size (fun k_ => (w.heap.size ≤ k_)) v4 a7) ∧ Aside0 (Below w.heap.size w w'))
    case atStart => exact ⟨(([] : List Int)), (0), (by first | rfl | simp [*]), H', ⟨Nat.le_refl _⟩, ⟨Kd.V_nil _ _ _ _ _⟩, ⟨aB⟩⟩
    case round =>
     clear H'
     try clear p2
     try clear c3
     try clear b6
     try clear d4
     try clear c4
     try clear e2
     try clear e3
     try clear c5
     try clear e7
     try clear e8
     try clear p6
     try clear q6
     try clear hx6
     try clear qi6
     try clear c7
     try clear e4
     try clear e5
     try clear c8
     try clear p2
     try clear p6
     try clear q6
     obtain ⟨a7, a1, rfl, HA, HK2, a3, HB⟩ := hrel
     cases gk with
     | zero => exact absurd HA.out (by simp [checker_digits.l0])
     | succ k2 =>
      have H := HA.out
      clear HA
      simp only [checker_digits.l0] at H
      by_cases c9 : a1 < (a0.size : Int)
      ·
       rw [if_pos c9] at H
       have f7 : decide (a1 < (a0.size : Int)) = true := decide_eq_true c9
       clear c9
       have e9 := mk0 H
       clear H
       go_upto_region 7 with (fail)
       go_cut [37] (fun k4 wc => ∃ (kq : Nat) (d1 : Bool), k4 = .bool d1 ∧ Aside0 (checker_digits.j2 kq a0 a7 a1 (a0.size : Int) a1 d1 = some (r1, r2)) ∧ Aside0 (kq ≤ k2) ∧ Aside0 (Kd.V (Kd.int .u32) 107 wc w.heap.size (fun k_ => (w.heap.size ≤ k_)) u4 a7) ∧ Aside0 (Below w.heap.size w wc))
       case first =>
        have H := e9.out
        clear e9
        by_cases f8 : 0 ≤ a1
        ·
         rw [if_pos f8] at H
         have d6 : decide (0 ≤ a1) = true := decide_eq_true f8
         clear f8
         (first | rw [d6] | rw [f9] | (simp only [i64_w, i32_w]; rw [d6]) | skip)
         by_cases g0 : a1 < (a0.size : Int)
         ·
          rw [if_pos g0] at H
          have g1 : decide (a1 < (a0.size : Int)) = true := decide_eq_true g0
          clear g0
          by_cases f0 : (bt a0 a1) < 48
          ·
           rw [if_pos f0] at H
           have e6 : decide ((bt a0 a1) < 48) = true := decide_eq_true f0
           clear f0
           have H' := mk0 H
           clear H
           have f1 : 0 ≤ (a1 : Int) := aD
           have f2 : a1 < (a0.size : Int) := aD
           have hx13 := bt_at a0 a1
           replace f1 := eq_true f1
           replace f2 := eq_true f2
           go_wp2
           go_meet
           case rel => exact ⟨_, (true), (by first | rfl | simp [*]), H', ⟨by have := HJ1.out; have := HK2.out; omega⟩, ⟨pV a3.out⟩, ⟨aB⟩⟩
          ·
           rw [if_neg f0] at H
           have e6 : decide ((bt a0 a1) < 48) = false := decide_eq_false f0
           clear f0
           have H' := mk0 H
           clear H
           have f1 : 0 ≤ (a1 : Int) := aD
           have f2 : a1 < (a0.size : Int) := aD
           have hx13 := bt_at a0 a1
           replace f1 := eq_true f1
           replace f2 := eq_true f2
           have g8 : 0 ≤ (a1 : Int) := aD
           have g9 : a1 < (a0.size : Int) := aD
           have hx15 := bt_at a0 a1
           replace g8 := eq_true g8
           replace g9 := eq_true g9
           go_wp2
           go_meet
           case rel => exact ⟨_, (decide ((bt a0 a1) > 57)), (by first | rfl | simp [*]), H', ⟨by have := HJ1.out; have := HK2.out; omega⟩, ⟨pV a3.out⟩, ⟨aB⟩⟩
         ·
          rw [if_neg g0] at H
          exact absurd H (by simp)
        ·
         rw [if_neg f8] at H
         exact absurd H (by simp)
       case rest =>
        clear e9
        try clear c1
        try clear p1
        try clear q1
        try clear hx1
        try clear p2
        try clear c3
        try clear b6
        try clear d4
        try clear c4
        try clear e2
        try clear e3
        try clear c5
        try clear e7
        try clear e8
        try clear p6
        try clear q6
        try clear hx6
        try clear qi6
        try clear c7
        try clear e4
        try clear e5
        try clear c8
        try clear c9
        try clear f7
        try clear f8
        try clear d6
        try clear f9
        try clear g0
        try clear g1
        try clear f1
        try clear f2
        try clear hx13
        try clear f0
        try clear e6
        try clear g8
        try clear g9
        try clear hx15
        try clear f1
        try clear g8
        try clear p2
        try clear p6
        try clear f2
        try clear g9
        try clear q6
        obtain ⟨kq, d1, rfl, HA, HJ9, a3, HB⟩ := hcut
        cases kq with
        | zero => exact absurd HA.out (by simp [checker_digits.j2])
        | succ kj9 =>
         have H := HA.out
         clear HA
         simp only [checker_digits.j2] at H
         by_cases i1 : d1 = true
         ·
          subst i1
          have H1 : (some (([] : List Int), false)) = some (r1, r2) := by rw [if_pos rfl] at H; exact H
          clear H
          have H := H1
          clear H1
          simp only [Option.some.injEq, Prod.mk.injEq] at H
          obtain ⟨rfl, rfl⟩ := H
          go_wp2
          go_ret2
          exact ⟨_, by first | rfl | (simp [*] <;> rfl), Kd.V_nil _ _ _ _ _, aB⟩
         ·
          replace i1 := Bool.eq_false_iff.mpr i1
          subst i1
          have H1 : ((checker_natural_mul.f kj9 a7 (([10] : List Int))).bind fun a9 => (if 0 ≤ a1 then (if a1 < (a0.size : Int) then ((checker_natural_trim.f kj9 (([((bt a0 a1) - 48) % 256] : List Int))).bind fun b1 => ((checker_natural_add.f kj9 a9 b1).bind fun b3 => (checker_digits.l0 kj9 a0 b3 (a0.size : Int) (wrap64 (a1 + 1))))) else (none)) else (none))) = some (r1, r2) := by rw [if_neg (show ¬ (false = true) by decide)] at H; exact H
          clear H
          have H := H1
          clear H1
          obtain ⟨a8, hy146⟩ : ∃ y_ : List Int, y_ = (([10] : List Int)) := ⟨_, rfl⟩
          replace H : ((checker_natural_mul.f kj9 a7 a8).bind fun a9 => (if 0 ≤ a1 then (if a1 < (a0.size : Int) then ((checker_natural_trim.f kj9 (([((bt a0 a1) - 48) % 256] : List Int))).bind fun b1 => ((checker_natural_add.f kj9 a9 b1).bind fun b3 => (checker_digits.l0 kj9 a0 b3 (a0.size : Int) (wrap64 (a1 + 1))))) else (none)) else (none))) = some (r1, r2) := by first | (rw [hy146]; exact H) | (rw [hy146]; exact (Option.bind_some _ _).symm.trans H) | exact (Option.bind_some _ _).symm.trans H
          have Ny146 := mk0 hy146
          clear hy146
          obtain ⟨a9, A17, H⟩ := bS H
          by_cases i2 : 0 ≤ a1
          ·
           rw [if_pos i2] at H
           have j1 : decide (0 ≤ a1) = true := decide_eq_true i2
           clear i2
           by_cases i3 : a1 < (a0.size : Int)
           ·
            rw [if_pos i3] at H
            have j3 : decide (a1 < (a0.size : Int)) = true := decide_eq_true i3
            clear i3
            obtain ⟨b7, hy152⟩ : ∃ y_ : List Int, y_ = (([((bt a0 a1) - 48) % 256] : List Int)) := ⟨_, rfl⟩
            replace H : ((checker_natural_trim.f kj9 b7).bind fun b1 => ((checker_natural_add.f kj9 a9 b1).bind fun b3 => (checker_digits.l0 kj9 a0 b3 (a0.size : Int) (wrap64 (a1 + 1))))) = some (r1, r2) := by first | (rw [hy152]; exact H) | (rw [hy152]; exact (Option.bind_some _ _).symm.trans H) | exact (Option.bind_some _ _).symm.trans H
            have Ny152 := mk0 hy152
            clear hy152
            obtain ⟨b1, A21, H⟩ := bS H
            obtain ⟨b3, A22, H⟩ := bS H
            have H' := mk0 H
            clear H
            obtain ⟨d7, d8, i5⟩ := Kd.V_slice a3.out
            subst i5
            try go_wp2
            replace a3 := mk0 (Kd.V_drew a3.out)
            replace HB := mk0 (below_drew1 HB.out)
            have j4 : 0 ≤ (a1 : Int) := aD
            have j5 : a1 < (a0.size : Int) := aD
            have hx20 := bt_at a0 a1
            replace j4 := eq_true j4
            replace j5 := eq_true j5
            refine start_ (n := 12) (S := fun w' => True) (ds := []) #[false, false, false, false, false, false, false, false, false, false, false, false] (by kernel_rfl) rfl rfl trivial (fun a6 => ?_); refine with_tabW checker_digits.tab9 checker_digits.bits9 (fun HT_ HW_ => ?_)
            generalize wc.drew = l1 at a3 HB a6 ⊢
            refine pu 0 38 HT_ ?_
            refine pu 3 41 HT_ ?_
            refine pu 4 42 HT_ ?_
            refine tk 5 43 HT_ HW_ a6 ?_
            refine pu 6 44 HT_ ?_
            refine pu 7 45 HT_ ?_
            refine join_ (σ := Value × Value × Value) 3 #[true, true, true, true, true, true, true, true, true, false, false, false] (fun s_ => [(39, s_.1), (40, s_.2.1), (46, s_.2.2)]) (fun s_ w' => (Kd.R (Kd.int .u32) 107 w' w.heap.size (fun k_ => (w.heap.size ≤ k_) ∧ some k_ ≠ (s_.2.2 : Value).ownBlock) s_.1 a8) ∧ (Kd.V (Kd.int .u32) 107 w' w.heap.size (fun k_ => (w.heap.size ≤ k_) ∧ some k_ ≠ (s_.1 : Value).ownBlock ∧ some k_ ≠ (s_.2.2 : Value).ownBlock) s_.2.1 a9) ∧ (Kd.R (Kd.int .u32) 107 w' w.heap.size (fun k_ => (w.heap.size ≤ k_) ∧ some k_ ≠ (s_.1 : Value).ownBlock) s_.2.2 b7) ∧ (Kd.V (Kd.int .u32) 107 w' w.heap.size (fun k_ => (w.heap.size ≤ k_) ∧ some k_ ≠ (s_.1 : Value).ownBlock ∧ some k_ ≠ (s_.2.2 : Value).ownBlock) (.slice d7 a7.length d8) a7) ∧ (Below w.heap.size w w')) ?_ ?_
            rotate_left
            ·
             intro d9
             refine two_ (i := 1) (j := 8) (Ni := some 39) (Nj := some 46) #[true, true, false, true, true, true, true, true, false, false, false, false] #[true, false, false, true, true, true, true, true, true, false, false, false] rfl rfl rfl rfl (two_of HT_.out (by kernel_rfl)) (by decide) (by decide) (fun K hK => ?_) (fun K hK => ?_)
             ·
              skip
              refine Kd.R_lit_step (Kd.int .u32) _ 107 ?hg (N := 39) ?hd (xs := ([10] : List Int)) (inner := [.int .u32 10]) (ok := fun _ => True) (okp := fun _ => True) ?hr ?hp (fun _ hk => hk) trivial (Below.refl _ _) (Nat.le_refl _) (by simp) ?_; (case hd => rfl); (case hg => rfl); (case hr => exact aH); (case hp => exact (Reps.one (show Kd.M (Kd.int .u32) _ _ _ 10 [.int .u32 10] from rfl) (Reps.none _ _)))
              intro b4 k5 b5 hb hg_ hnew_
              clear hg_ hnew_
              rw [← Ny146.out] at b5
              replace a3 := dV a3 (Kd.R_base b5) hb
              have a2 := mk0 (Kd.R_lower (Kd.R_newM (M := fun k_ => (w.heap.size ≤ k_)) b5 (below_size (aB)) (fun k_ h_ => h_)) (below_size (aB)))
              replace HB := uW hb
              clear hb b5
              obtain ⟨f3, f4, g2⟩ := Kd.R_slice a2.out
              (first | subst g2 | (injection g2 with f1_ f2_ f3_; have f4_ := f1_.symm; have f5_ := f3_.symm; clear f1_ f2_ f3_; subst f4_; subst f5_))
              refine hK.out _ _ trivial (fun a6 => ?_)
              clear hK K
              refine norm_ (a' := ?_) ?_ ?_
              rotate_left
              ·
               show Act.put _ (some 39) _ = _
               exact aP
              refine two_ (i := 2) (j := 8) (Ni := some 40) (Nj := some 46) #[true, true, true, true, true, true, true, true, false, false, false, false] #[true, true, false, true, true, true, true, true, true, false, false, false] rfl rfl rfl rfl (two_of HT_.out (by kernel_rfl)) (by decide) (by decide) (fun K hK => ?_) (fun K hK => ?_)
              ·
               skip
               refine gz Tryz.func43 #[.slice d7 a7.length d8, .slice f3 a8.length f4] ?_
               with_reducible refine (checker_natural_mul.calls kj9 _ _ a7 _ _ a8 a9 _ ?side1 ?side2 ?side3 ?side4 A17.out).mono ?_
               (case side1 => exact pC ((Kd.V_reads' a3.out).2.2))
               (case side2 => exact (Kd.V_reads' a3.out).2.1)
               (case side3 => exact pC ((Kd.R_reads' a2.out).2.2))
               (case side4 => exact (Kd.R_reads' a2.out).2.1)
               rintro e l2 ⟨b8, rfl, d2, hb⟩
               refine ⟨_, rfl, ?_⟩
               replace a3 := uV a3 hb
               have a5 := lV (ok' := fun k_ => (w.heap.size ≤ k_) ∧ some k_ ≠ (.slice f3 a8.length f4 : Value).ownBlock) d2
               replace a2 := uR a2 hb
               replace HB := uW hb
               (try clear hb)
               (try clear hb2)
               (try clear hk)
               (try clear hi)
               (try clear d2)
               refine hK.out _ _ trivial (fun a6 => ?_)
               clear hK K
               refine norm_ (a' := ?_) ?_ ?_
               rotate_left
               ·
                show Act.put _ (some 40) _ = _
                exact aP
               refine oN 8 46 HT_ (fun K hK => ?_)
               refine Kd.R_lit_step (Kd.int .u32) _ 107 ?hg (N := 46) ?hd (xs := ([((bt a0 a1) - 48) % 256] : List Int)) (inner := [.int .u32 (((bt a0 a1) - 48) % 256)]) (ok := fun _ => True) (okp := fun _ => True) ?hr ?hp (fun _ hk => hk) trivial (Below.refl _ _) (Nat.le_refl _) (by simp) ?_; (case hd => rfl); (case hg => rfl); (case hr => exact aH); (case hp => exact (Reps.one (show Kd.M (Kd.int .u32) _ _ _ (((bt a0 a1) - 48) % 256) [.int .u32 (((bt a0 a1) - 48) % 256)] from rfl) (Reps.none _ _)))
               intro b0 l3 d5 hb hg_ hnew_
               clear hg_ hnew_
               rw [← Ny152.out] at d5
               replace a3 := dV a3 (Kd.R_base d5) hb
               replace a5 := dV a5 (Kd.R_base d5) hb
               have a4 := mk0 (Kd.R_lower (Kd.R_new' (Kd.R_newM (M := fun k_ => (w.heap.size ≤ k_)) d5 (below_size (aB)) (fun k_ h_ => h_)) (Kd.R_lt (pR a2.out))) (below_size (aB)))
               replace a2 := dR a2 (Kd.R_base d5) hb
               replace HB := uW hb
               clear hb d5
               refine hK.out _ _ trivial (fun a6 => ?_)
               clear hK K
               refine norm_ (a' := ?_) ?_ ?_
               rotate_left
               ·
                show Act.put _ (some 46) _ = _
                exact aP
               exact norm_ (by simp only [putAll, Act.put, List.setIfInBounds_toArray, List.set_cons_zero, List.set_cons_succ]) (d9 (.slice f3 a8.length f4, b8, b0) _ ⟨(sR a2.out), (sV a5.out), (sR a4.out), (sV a3.out), (aB)⟩)
              ·
               skip
               refine Kd.R_lit_step (Kd.int .u32) _ 107 ?hg (N := 46) ?hd (xs := ([((bt a0 a1) - 48) % 256] : List Int)) (inner := [.int .u32 (((bt a0 a1) - 48) % 256)]) (ok := fun _ => True) (okp := fun _ => True) ?hr ?hp (fun _ hk => hk) trivial (Below.refl _ _) (Nat.le_refl _) (by simp) ?_; (case hd => rfl); (case hg => rfl); (case hr => exact aH); (case hp => exact (Reps.one (show Kd.M (Kd.int .u32) _ _ _ (((bt a0 a1) - 48) % 256) [.int .u32 (((bt a0 a1) - 48) % 256)] from rfl) (Reps.none _ _)))
               intro b0 k6 b2 hb hg_ hnew_
               clear hg_ hnew_
               rw [← Ny152.out] at b2
               replace a3 := dV a3 (Kd.R_base b2) hb
               have a4 := mk0 (Kd.R_lower (Kd.R_new' (Kd.R_newM (M := fun k_ => (w.heap.size ≤ k_)) b2 (below_size (aB)) (fun k_ h_ => h_)) (Kd.R_lt (pR a2.out))) (below_size (aB)))
               replace a2 := dR a2 (Kd.R_base b2) hb
               replace HB := uW hb
               clear hb b2
               obtain ⟨b9, c6, e1⟩ := Kd.R_slice a2.out
               (first | subst e1 | (injection e1 with f1_ f2_ f3_; have f4_ := f1_.symm; have f5_ := f3_.symm; clear f1_ f2_ f3_; subst f4_; subst f5_))
               refine hK.out _ _ trivial (fun a6 => ?_)
               clear hK K
               refine norm_ (a' := ?_) ?_ ?_
               rotate_left
               ·
                show Act.put _ (some 46) _ = _
                exact aP
               refine oN 2 40 HT_ (fun K hK => ?_)
               refine gz Tryz.func43 #[.slice d7 a7.length d8, .slice b9 a8.length c6] ?_
               with_reducible refine (checker_natural_mul.calls kj9 _ _ a7 _ _ a8 a9 _ ?side1 ?side2 ?side3 ?side4 A17.out).mono ?_
               (case side1 => exact pC ((Kd.V_reads' a3.out).2.2))
               (case side2 => exact (Kd.V_reads' a3.out).2.1)
               (case side3 => exact pC ((Kd.R_reads' a2.out).2.2))
               (case side4 => exact (Kd.R_reads' a2.out).2.1)
               rintro e k7 ⟨b8, rfl, d2, hb⟩
               refine ⟨_, rfl, ?_⟩
               replace a3 := uV a3 hb
               have a5 := lV (ok' := fun k_ => (w.heap.size ≤ k_) ∧ some k_ ≠ (.slice b9 a8.length c6 : Value).ownBlock ∧ some k_ ≠ (b0 : Value).ownBlock) d2
               replace a2 := uR a2 hb
               replace a4 := uR a4 hb
               replace HB := uW hb
               (try clear hb)
               (try clear hb2)
               (try clear hk)
               (try clear hi)
               (try clear d2)
               refine hK.out _ _ trivial (fun a6 => ?_)
               clear hK K
               refine norm_ (a' := ?_) ?_ ?_
               rotate_left
               ·
                show Act.put _ (some 40) _ = _
                exact aP
               exact norm_ (by simp only [putAll, Act.put, List.setIfInBounds_toArray, List.set_cons_zero, List.set_cons_succ]) (d9 (.slice b9 a8.length c6, b8, b0) _ ⟨(sR a2.out), (pV a5.out), (sR a4.out), (sV a3.out), (aB)⟩)
             ·
              skip
              refine Kd.R_lit_step (Kd.int .u32) _ 107 ?hg (N := 46) ?hd (xs := ([((bt a0 a1) - 48) % 256] : List Int)) (inner := [.int .u32 (((bt a0 a1) - 48) % 256)]) (ok := fun _ => True) (okp := fun _ => True) ?hr ?hp (fun _ hk => hk) trivial (Below.refl _ _) (Nat.le_refl _) (by simp) ?_; (case hd => rfl); (case hg => rfl); (case hr => exact aH); (case hp => exact (Reps.one (show Kd.M (Kd.int .u32) _ _ _ (((bt a0 a1) - 48) % 256) [.int .u32 (((bt a0 a1) - 48) % 256)] from rfl) (Reps.none _ _)))
              intro b0 k5 b5 hb hg_ hnew_
              clear hg_ hnew_
              rw [← Ny152.out] at b5
              replace a3 := dV a3 (Kd.R_base b5) hb
              have a4 := mk0 (Kd.R_lower (Kd.R_newM (M := fun k_ => (w.heap.size ≤ k_)) b5 (below_size (aB)) (fun k_ h_ => h_)) (below_size (aB)))
              replace HB := uW hb
              clear hb b5
              refine hK.out _ _ trivial (fun a6 => ?_)
              clear hK K
              refine norm_ (a' := ?_) ?_ ?_
              rotate_left
              ·
               show Act.put _ (some 46) _ = _
               exact aP
              refine oN 1 39 HT_ (fun K hK => ?_)
              refine Kd.R_lit_step (Kd.int .u32) _ 107 ?hg (N := 39) ?hd (xs := ([10] : List Int)) (inner := [.int .u32 10]) (ok := fun _ => True) (okp := fun _ => True) ?hr ?hp (fun _ hk => hk) trivial (Below.refl _ _) (Nat.le_refl _) (by simp) ?_; (case hd => rfl); (case hg => rfl); (case hr => exact aH); (case hp => exact (Reps.one (show Kd.M (Kd.int .u32) _ _ _ 10 [.int .u32 10] from rfl) (Reps.none _ _)))
              intro b4 k6 b2 hb hg_ hnew_
              clear hg_ hnew_
              rw [← Ny146.out] at b2
              replace a3 := dV a3 (Kd.R_base b2) hb
              have a2 := mk0 (Kd.R_lower (Kd.R_new' (Kd.R_newM (M := fun k_ => (w.heap.size ≤ k_)) b2 (below_size (aB)) (fun k_ h_ => h_)) (Kd.R_lt (pR a4.out))) (below_size (aB)))
              replace a4 := dR a4 (Kd.R_base b2) hb
              replace HB := uW hb
              clear hb b2
              obtain ⟨b9, c6, e1⟩ := Kd.R_slice a2.out
              (first | subst e1 | (injection e1 with f1_ f2_ f3_; have f4_ := f1_.symm; have f5_ := f3_.symm; clear f1_ f2_ f3_; subst f4_; subst f5_))
              refine hK.out _ _ trivial (fun a6 => ?_)
              clear hK K
              refine norm_ (a' := ?_) ?_ ?_
              rotate_left
              ·
               show Act.put _ (some 39) _ = _
               exact aP
              refine oN 2 40 HT_ (fun K hK => ?_)
              refine gz Tryz.func43 #[.slice d7 a7.length d8, .slice b9 a8.length c6] ?_
              with_reducible refine (checker_natural_mul.calls kj9 _ _ a7 _ _ a8 a9 _ ?side1 ?side2 ?side3 ?side4 A17.out).mono ?_
              (case side1 => exact pC ((Kd.V_reads' a3.out).2.2))
              (case side2 => exact (Kd.V_reads' a3.out).2.1)
              (case side3 => exact pC ((Kd.R_reads' a2.out).2.2))
              (case side4 => exact (Kd.R_reads' a2.out).2.1)
              rintro e k7 ⟨b8, rfl, d2, hb⟩
              refine ⟨_, rfl, ?_⟩
              replace a3 := uV a3 hb
              have a5 := lV (ok' := fun k_ => (w.heap.size ≤ k_) ∧ some k_ ≠ (b0 : Value).ownBlock ∧ some k_ ≠ (.slice b9 a8.length c6 : Value).ownBlock) d2
              replace a4 := uR a4 hb
              replace a2 := uR a2 hb
              replace HB := uW hb
              (try clear hb)
              (try clear hb2)
              (try clear hk)
              (try clear hi)
              (try clear d2)
              refine hK.out _ _ trivial (fun a6 => ?_)
              clear hK K
              refine norm_ (a' := ?_) ?_ ?_
              rotate_left
              ·
               show Act.put _ (some 40) _ = _
               exact aP
              exact norm_ (by simp only [putAll, Act.put, List.setIfInBounds_toArray, List.set_cons_zero, List.set_cons_succ]) (d9 (.slice b9 a8.length c6, b8, b0) _ ⟨(sR a2.out), (sV a5.out), (sR a4.out), (sV a3.out), (aB)⟩)
            rintro ⟨b4, b8, b0⟩ g3 ⟨h0_, h1_, h2_, h3_, h4_⟩
            have j6 : Aside0 (Kd.R (Kd.int .u32) 107 g3 w.heap.size (fun k_ => (w.heap.size ≤ k_) ∧ some k_ ≠ (b0 : Value).ownBlock) b4 a8) := ⟨h0_⟩
            have j7 : Aside0 (Kd.V (Kd.int .u32) 107 g3 w.heap.size (fun k_ => (w.heap.size ≤ k_) ∧ some k_ ≠ (b4 : Value).ownBlock ∧ some k_ ≠ (b0 : Value).ownBlock) b8 a9) := ⟨h1_⟩
            have j8 : Aside0 (Kd.R (Kd.int .u32) 107 g3 w.heap.size (fun k_ => (w.heap.size ≤ k_) ∧ some k_ ≠ (b4 : Value).ownBlock) b0 b7) := ⟨h2_⟩
            have j9 : Aside0 (Kd.V (Kd.int .u32) 107 g3 w.heap.size (fun k_ => (w.heap.size ≤ k_) ∧ some k_ ≠ (b4 : Value).ownBlock ∧ some k_ ≠ (b0 : Value).ownBlock) (.slice d7 a7.length d8) a7) := ⟨h3_⟩
            have k0 : Aside0 (Below w.heap.size w g3) := ⟨h4_⟩
            clear a3
            clear HB
            clear h0_ h1_ h2_ h3_ h4_
            have a2 := j6
            have a5 := j7
            have a4 := j8
            have a3 := j9
            have HB := k0
            clear j6 j7 j8 j9 k0
            have a6 := trivial
            obtain ⟨f5, f6, g4⟩ := Kd.R_slice a4.out
            (first | subst g4 | (injection g4 with f1_ f2_ f3_; have f4_ := f1_.symm; have f5_ := f3_.symm; clear f1_ f2_ f3_; subst f4_; subst f5_))
            refine norm_ (a' := ?_) ?_ ?_
            rotate_left
            ·
             simp only [putAll, Act.put, List.setIfInBounds_toArray, List.set_cons_zero, List.set_cons_succ]
             rfl
            refine oN 9 47 HT_ (fun K hK => ?_)
            refine gz Tryz.func65 #[.slice f5 b7.length f6] ?_
            with_reducible refine (checker_natural_trim.calls kj9 (fun k_ => some k_ = (.slice f5 b7.length f6 : Value).ownBlock) _ _ b7 b1 _ ?side1 A21.out).mono ?_
            (case side1 => exact Kd.R_V (Kd.R_tight rfl (a4.out)))
            rintro e l4 ⟨k8, rfl, d2, hb⟩
            refine ⟨_, rfl, ?_⟩
            replace a3 := uV a3 hb
            replace a5 := uV a5 hb
            have d3 := lV (ok' := fun k_ => (w.heap.size ≤ k_) ∧ some k_ ≠ (b4 : Value).ownBlock) d2
            replace a2 := uR a2 hb
            replace a4 := uR a4 hb
            replace HB := uW hb
            (try clear hb)
            (try clear hb2)
            (try clear hk)
            (try clear hi)
            (try clear d2)
            obtain ⟨i6, i7, g5⟩ := Kd.V_slice a5.out
            (first | subst g5 | (injection g5 with f1_ f2_ f3_; have f4_ := f1_.symm; have f5_ := f3_.symm; clear f1_ f2_ f3_; subst f4_; subst f5_))
            obtain ⟨i8, i9, g6⟩ := Kd.V_slice d3.out
            (first | subst g6 | (injection g6 with f1_ f2_ f3_; have f4_ := f1_.symm; have f5_ := f3_.symm; clear f1_ f2_ f3_; subst f4_; subst f5_))
            refine hK.out _ _ trivial (fun a6 => ?_)
            clear hK K
            refine norm_ (a' := ?_) ?_ ?_
            rotate_left
            ·
             show Act.put _ (some 47) _ = _
             exact aP
            refine oN 10 48 HT_ (fun K hK => ?_)
            refine gz Tryz.func45 #[.slice i6 a9.length i7, .slice i8 b1.length i9] ?_
            with_reducible refine (checker_natural_add.calls kj9 (fun k_ => ((w.heap.size ≤ k_) ∧ (some k_ ≠ (b4 : Value).ownBlock ∧ some k_ ≠ (.slice f5 b7.length f6 : Value).ownBlock))) _ _ a9 (fun k_ => ((w.heap.size ≤ k_) ∧ some k_ ≠ (b4 : Value).ownBlock)) _ _ b1 b3 _ ?side1 ?side2 A22.out).mono ?_
            (case side1 => exact Kd.V_mono (Go.Proofs.YtbgmfgndldnmcaaGreatDoorMyWords.V_base (a5.out)) (fun k_ hk => by first | exact hk | (simp only [hk, ne_eq, not_false_eq_true, and_self]; done)))
            (case side2 => exact Kd.V_mono (Go.Proofs.YtbgmfgndldnmcaaGreatDoorMyWords.V_base (d3.out)) (fun k_ hk => by first | exact hk | (simp only [hk, ne_eq, not_false_eq_true, and_self]; done)))
            rintro e l5 ⟨k9, rfl, d2, hb⟩
            refine ⟨_, rfl, ?_⟩
            replace a3 := uV a3 hb
            replace a5 := uV a5 hb
            replace a4 := uR a4 hb
            replace d3 := uV d3 hb
            have g7 := lV (ok' := fun k_ => (w.heap.size ≤ k_) ∧ some k_ ≠ (b4 : Value).ownBlock) d2
            replace a2 := uR a2 hb
            replace HB := uW hb
            (try clear hb)
            (try clear hb2)
            (try clear hk)
            (try clear hi)
            (try clear d2)
            refine hK.out _ _ trivial (fun a6 => ?_)
            clear hK K
            refine norm_ (a' := ?_) ?_ ?_
            rotate_left
            ·
             show Act.put _ (some 48) _ = _
             exact aP
            refine pu 11 4 HT_ ?_
            refine done_ (done_of HT_.out (by kernel_rfl)) ?_
            try go_wp2
            go_roundg kj9
            case measure => have := HJ1.out; have := HK2.out; have := HJ9.out; omega
            case rel => exact ⟨(b3), (wrap64 (a1 + 1)), (by first | rfl | simp [*]), H', ⟨by have := HJ1.out; have := HK2.out; have := HJ9.out; omega⟩, ⟨sV g7.out⟩, ⟨aB⟩⟩
           ·
            rw [if_neg i3] at H
            exact absurd H (by simp)
          ·
           rw [if_neg i2] at H
           exact absurd H (by simp)
      ·
       rw [if_neg c9] at H
       have f7 : decide (a1 < (a0.size : Int)) = false := decide_eq_false c9
       clear c9
       simp only [Option.some.injEq, Prod.mk.injEq] at H
       obtain ⟨rfl, rfl⟩ := H
       go_wp2
       go_ret2
       exact ⟨_, by first | rfl | (simp [*] <;> rfl), pV a3.out, aB⟩
def checker_natural_compare.l0 : Nat → List Int → List Int → Int → Option (Int)
 | 0, _, _, _ => none
 | k + 1, x0, x1, x5 => if x5 ≥ 0 then (if 0 ≤ x5 then (if x5 < (x0.length : Int) then (if x5 < (x1.length : Int) then (if (rd x0 x5) < (rd x1 x5) then (some (-1)) else (if (rd x0 x5) > (rd x1 x5) then (some 1) else (checker_natural_compare.l0 k x0 x1 (wrap64 (x5 - 1))))) else (none)) else (none)) else (none)) else (some 0)
def checker_natural_compare.f (k : Nat) (l0 : List Int) (l1 : List Int) : Option (Int) := if (l0.length : Int) = (l1.length : Int) then (checker_natural_compare.l0 k l0 l1 (wrap64 ((l0.length : Int) - 1))) else (some (wrap64 ((l0.length : Int) - (l1.length : Int))))
theorem checker_natural_compare.mono_l : ∀ k, (∀ y0 y1 y2, LeO (checker_natural_compare.l0 k y0 y1 y2) (checker_natural_compare.l0 (k + 1) y0 y1 y2))
 | 0 => fun _ _ _ r h => by simp [checker_natural_compare.l0] at h
 | k + 1 => by
  have ih0 := checker_natural_compare.mono_l k
  ·
   intro y0 y1 y2
   unfold checker_natural_compare.l0
   repeat' first | (with_reducible first | exact ih0 .. | exact LeO.refl _ | exact LeO.none _ | refine LeO.ite ?_ ?_ | refine LeO.bind ?_ (fun _ => ?_))
theorem checker_natural_compare.mono : ∀ a0 a1 k, LeO (checker_natural_compare.f k a0 a1) (checker_natural_compare.f (k + 1) a0 a1) := by
 intro a0 a1 k
 have ih0 := checker_natural_compare.mono_l k
 unfold checker_natural_compare.f
 repeat' first | (with_reducible first | exact ih0 .. | exact LeO.refl _ | exact LeO.none _ | refine LeO.ite ?_ ?_ | refine LeO.bind ?_ (fun _ => ?_))
set_option maxHeartbeats 8000000 in
set_option maxRecDepth 100000 in
theorem checker_natural_compare.calls (k : Nat) (A0 : Option Addr) (c0 : Nat) (l0 : List Int) (A1 : Option Addr) (c1 : Nat) (l1 : List Int) (r : Int) (w : World) (hr0 : Kd.C (Kd.int .u32) w A0 l0.length l0) (hc0 : l0.length ≤ c0) (hr1 : Kd.C (Kd.int .u32) w A1 l1.length l1) (hc1 : l1.length ≤ c1) (h : checker_natural_compare.f k l0 l1 = some r) :
  Calls Tryz.prog 36 #[.slice A0 l0.length c0, .slice A1 l1.length c1] w fun e w' => e = .returned (.int .i64 r) ∧ Drawn0 w w' := by
 have HR0 := mk0 hr0
 have d8 := mk0 hc0
 clear hr0 hc0
 have HR1 := mk0 hr1
 have d9 := mk0 hc1
 clear hr1 hc1
 have H : (if (l0.length : Int) = (l1.length : Int) then (checker_natural_compare.l0 k l0 l1 (wrap64 ((l0.length : Int) - 1))) else (some (wrap64 ((l0.length : Int) - (l1.length : Int))))) = some r := h
 clear h
 by_cases c3 : (l0.length : Int) = (l1.length : Int)
 ·
  rw [if_pos c3] at H
  have b9 : ((l0.length : Int) == (l1.length : Int)) = true := beq_iff_eq.mpr c3
  have d0 : ((l0.length : Int) != (l1.length : Int)) = false := bne_eq_false_iff_eq.mpr c3
  have d1 : (l0.length == l1.length) = true := by first | simpa using c3 | (simp at c3 ⊢; omega)
  clear c3
  have H' := mk0 H
  clear H
  go_enter Tryz.func36, Tryz.ntmps36
  go_wp2
  repeat (go_quiet (fail); try go_wp2)
  go_loopg [5] k (fun kq v5 w' => ∃ (a2 : Int), v5 = .int .i64 a2 ∧ Aside0 (checker_natural_compare.l0 kq l0 l1 a2 = some r) ∧ Aside0 (kq ≤ k) ∧ Drawn0 w w')
  case atStart => exact ⟨(wrap64 ((l0.length : Int) - 1)), (by first | rfl | simp [*]), H', ⟨Nat.le_refl _⟩, by repeat (first | exact Drawn0.refl _ | apply Drawn0.step)⟩
  case round =>
   clear H'
   try clear c1
   try clear p2
   try clear c3
   try clear b9
   try clear d0
   try clear d1
   obtain ⟨a2, rfl, HA, HK1, ⟨m1, rfl⟩⟩ := hrel
   cases gk with
   | zero => exact absurd HA.out (by simp [checker_natural_compare.l0])
   | succ k1 =>
    have H := HA.out
    clear HA
    simp only [checker_natural_compare.l0] at H
    by_cases c4 : a2 ≥ 0
    ·
     rw [if_pos c4] at H
     have d2 : decide (0 ≤ a2) = true := decide_eq_true c4
     clear c4
     by_cases c5 : 0 ≤ a2
     ·
      rw [if_pos c5] at H
      have d5 : decide (0 ≤ a2) = true := decide_eq_true c5
      clear c5
      by_cases c6 : a2 < (l0.length : Int)
      ·
       rw [if_pos c6] at H
       have d6 : decide (a2 < (l0.length : Int)) = true := decide_eq_true c6
       clear c6
       by_cases c7 : a2 < (l1.length : Int)
       ·
        rw [if_pos c7] at H
        have d7 : decide (a2 < (l1.length : Int)) = true := decide_eq_true c7
        clear c7
        by_cases c8 : (rd l0 a2) < (rd l1 a2)
        ·
         rw [if_pos c8] at H
         have d3 : decide ((rd l0 a2) < (rd l1 a2)) = true := decide_eq_true c8
         clear c8
         obtain rfl := Option.some.inj H
         have a3 : 0 ≤ (a2 : Int) := aD
         have a4 : a2 < (l0.length : Int) := aD
         obtain ⟨b1, e161, b2⟩ := Kd.at_int HR0.out a2 a3 a4
         cases e161
         replace a3 := eq_true a3
         replace a4 := eq_true a4
         have a5 : 0 ≤ (a2 : Int) := aD
         have a6 : a2 < (l1.length : Int) := aD
         obtain ⟨b3, e162, b4⟩ := Kd.at_int HR1.out a2 a5 a6
         cases e162
         replace a5 := eq_true a5
         replace a6 := eq_true a6
         go_wp2
         repeat (go_quiet (fail); try go_wp2)
         go_ret
         exact ⟨by first | rfl | simp [*], by repeat (first | exact Drawn0.refl _ | apply Drawn0.step)⟩
        ·
         rw [if_neg c8] at H
         have d3 : decide ((rd l0 a2) < (rd l1 a2)) = false := decide_eq_false c8
         clear c8
         by_cases c9 : (rd l0 a2) > (rd l1 a2)
         ·
          rw [if_pos c9] at H
          have d4 : decide ((rd l1 a2) < (rd l0 a2)) = true := decide_eq_true c9
          clear c9
          obtain rfl := Option.some.inj H
          have a3 : 0 ≤ (a2 : Int) := aD
          have a4 : a2 < (l0.length : Int) := aD
          obtain ⟨b1, e161, b2⟩ := Kd.at_int HR0.out a2 a3 a4
          cases e161
          replace a3 := eq_true a3
          replace a4 := eq_true a4
          have a5 : 0 ≤ (a2 : Int) := aD
          have a6 : a2 < (l1.length : Int) := aD
          obtain ⟨b3, e162, b4⟩ := Kd.at_int HR1.out a2 a5 a6
          cases e162
          replace a5 := eq_true a5
          replace a6 := eq_true a6
          have a7 : 0 ≤ (a2 : Int) := aD
          have a8 : a2 < (l0.length : Int) := aD
          obtain ⟨b5, e163, b7⟩ := Kd.at_int HR0.out a2 a7 a8
          obtain rfl : b1 = b5 := (by injection e163)
          replace a7 := eq_true a7
          replace a8 := eq_true a8
          have a9 : 0 ≤ (a2 : Int) := aD
          have b0 : a2 < (l1.length : Int) := aD
          obtain ⟨b6, e164, b8⟩ := Kd.at_int HR1.out a2 a9 b0
          obtain rfl : b3 = b6 := (by injection e164)
          replace a9 := eq_true a9
          replace b0 := eq_true b0
          go_wp2
          repeat (go_quiet (fail); try go_wp2)
          go_ret
          exact ⟨by first | rfl | simp [*], by repeat (first | exact Drawn0.refl _ | apply Drawn0.step)⟩
         ·
          rw [if_neg c9] at H
          have d4 : decide ((rd l1 a2) < (rd l0 a2)) = false := decide_eq_false c9
          clear c9
          have H' := mk0 H
          clear H
          have a3 : 0 ≤ (a2 : Int) := aD
          have a4 : a2 < (l0.length : Int) := aD
          obtain ⟨b1, e161, b2⟩ := Kd.at_int HR0.out a2 a3 a4
          cases e161
          replace a3 := eq_true a3
          replace a4 := eq_true a4
          have a5 : 0 ≤ (a2 : Int) := aD
          have a6 : a2 < (l1.length : Int) := aD
          obtain ⟨b3, e162, b4⟩ := Kd.at_int HR1.out a2 a5 a6
          cases e162
          replace a5 := eq_true a5
          replace a6 := eq_true a6
          have a7 : 0 ≤ (a2 : Int) := aD
          have a8 : a2 < (l0.length : Int) := aD
          obtain ⟨b5, e163, b7⟩ := Kd.at_int HR0.out a2 a7 a8
          obtain rfl : b1 = b5 := (by injection e163)
          replace a7 := eq_true a7
          replace a8 := eq_true a8
          have a9 : 0 ≤ (a2 : Int) := aD
          have b0 : a2 < (l1.length : Int) := aD
          obtain ⟨b6, e164, b8⟩ := Kd.at_int HR1.out a2 a9 b0
          obtain rfl : b3 = b6 := (by injection e164)
          replace a9 := eq_true a9
          replace b0 := eq_true b0
          go_wp2
          repeat (go_quiet (fail); try go_wp2)
          go_roundg k1
          case measure => have := HK1.out; omega
          case rel => exact ⟨(wrap64 (a2 - 1)), (by first | rfl | simp [*]), H', ⟨by have := HK1.out; omega⟩, by repeat (first | exact Drawn0.refl _ | apply Drawn0.step)⟩
       ·
        rw [if_neg c7] at H
        exact absurd H (by simp)
      ·
       rw [if_neg c6] at H
       exact absurd H (by simp)
     ·
      rw [if_neg c5] at H
      exact absurd H (by simp)
    ·
     rw [if_neg c4] at H
     have d2 : decide (0 ≤ a2) = false := decide_eq_false c4
     clear c4
     obtain rfl := Option.some.inj H
     go_wp2
     repeat (go_quiet (fail); try go_wp2)
     go_ret
     exact ⟨by first | rfl | simp [*], by repeat (first | exact Drawn0.refl _ | apply Drawn0.step)⟩
 ·
  rw [if_neg c3] at H
  have b9 : ((l0.length : Int) == (l1.length : Int)) = false := beq_eq_false_iff_ne.mpr c3
  have d0 : ((l0.length : Int) != (l1.length : Int)) = true := bne_iff_ne.mpr c3
  have d1 : (l0.length == l1.length) = false := by first | simpa using c3 | (simp at c3 ⊢; omega)
  obtain rfl := Option.some.inj H
  go_enter Tryz.func36, Tryz.ntmps36
  go_wp2
  repeat (go_quiet (fail); try go_wp2)
  go_ret
  exact ⟨by first | rfl | simp [*], by repeat (first | exact Drawn0.refl _ | apply Drawn0.step)⟩
def bits_Sub32.f (a0 : Int) (a1 : Int) (a2 : Int) : Option (Int × Int) := some ((((a0 - a1) % 4294967296) - a2) % 4294967296, (Go.bits .or .u32 (Go.bits .and .u32 (Go.bits .xor .u32 4294967295 a0) a1) (Go.bits .and .u32 (Go.bits .xor .u32 4294967295 (Go.bits .xor .u32 a0 a1)) ((((a0 - a1) % 4294967296) - a2) % 4294967296))) / 2147483648)
set_option maxHeartbeats 8000000 in
set_option maxRecDepth 100000 in
theorem bits_Sub32.calls (a0 : Int) (a1 : Int) (a2 : Int) (r1 : Int) (r2 : Int) (w : World) (h : bits_Sub32.f a0 a1 a2 = some (r1, r2)) :
  Calls Tryz.prog 73 #[.int .u32 a0, .int .u32 a1, .int .u32 a2] w fun e w' => e = .returned (.tuple #[.int .u32 r1, .int .u32 r2]) ∧ Drawn0 w w' := by
 have H : (some ((((a0 - a1) % 4294967296) - a2) % 4294967296, (Go.bits .or .u32 (Go.bits .and .u32 (Go.bits .xor .u32 4294967295 a0) a1) (Go.bits .and .u32 (Go.bits .xor .u32 4294967295 (Go.bits .xor .u32 a0 a1)) ((((a0 - a1) % 4294967296) - a2) % 4294967296))) / 2147483648)) = some (r1, r2) := h
 clear h
 simp only [Option.some.injEq, Prod.mk.injEq] at H
 obtain ⟨rfl, rfl⟩ := H
 go_enter Tryz.func73, Tryz.ntmps73
 go_wp2
 go_ret2
 exact ⟨by first | rfl | simp [*], by repeat (first | exact Drawn0.refl _ | apply Drawn0.step)⟩
def checker_natural_sub.l0 : Nat → List Int → List Int → Int → List Int → Int → Int → Option (List Int)
 | 0, _, _, _, _, _, _ => none
 | k + 1, x1, x5, x6, x14, x15, x16 => if x16 < x15 then (if 0 ≤ x16 then (if x16 < (x14.length : Int) then (if x16 < (x1.length : Int) then ((bits_Sub32.f (rd x14 x16) (rd x1 x16) x6).bind fun b2 => (if x5.length < 35184372088832 then (checker_natural_sub.l0 k x1 (x5 ++ [b2.1]) b2.2 x14 x15 (wrap64 (x16 + 1))) else (none))) else ((bits_Sub32.f (rd x14 x16) 0 x6).bind fun b3 => (if x5.length < 35184372088832 then (checker_natural_sub.l0 k x1 (x5 ++ [b3.1]) b3.2 x14 x15 (wrap64 (x16 + 1))) else (none)))) else (none)) else (none)) else ((checker_natural_trim.f k x5).bind fun b4 => (some b4))
def checker_natural_sub.f (k : Nat) (l0 : List Int) (l1 : List Int) : Option (List Int) := if 0 ≤ (l0.length : Int) then (if ((l0.length : Int) : Int).toNat ≤ 70368744177664 then (checker_natural_sub.l0 k l1 ([] : List Int) 0 l0 (l0.length : Int) 0) else (none)) else (none)
theorem checker_natural_sub.mono_l : ∀ k, (∀ y0 y1 y2 y3 y4 y5, LeO (checker_natural_sub.l0 k y0 y1 y2 y3 y4 y5) (checker_natural_sub.l0 (k + 1) y0 y1 y2 y3 y4 y5))
 | 0 => fun _ _ _ _ _ _ r h => by simp [checker_natural_sub.l0] at h
 | k + 1 => by
  have ih0 := checker_natural_sub.mono_l k
  ·
   intro y0 y1 y2 y3 y4 y5
   unfold checker_natural_sub.l0
   repeat' first | (with_reducible first | exact ih0 .. | exact checker_natural_trim.mono .. | exact LeO.refl _ | exact LeO.none _ | refine LeO.ite ?_ ?_ | refine LeO.bind ?_ (fun _ => ?_))
theorem checker_natural_sub.mono : ∀ a0 a1 k, LeO (checker_natural_sub.f k a0 a1) (checker_natural_sub.f (k + 1) a0 a1) := by
 intro a0 a1 k
 have ih0 := checker_natural_sub.mono_l k
 unfold checker_natural_sub.f
 repeat' first | (with_reducible first | exact ih0 .. | exact checker_natural_trim.mono .. | exact LeO.refl _ | exact LeO.none _ | refine LeO.ite ?_ ?_ | refine LeO.bind ?_ (fun _ => ?_))
set_option maxHeartbeats 8000000 in
set_option maxRecDepth 100000 in
theorem checker_natural_sub.calls (k : Nat) (A0 : Option Addr) (c0 : Nat) (l0 : List Int) (A1 : Option Addr) (c1 : Nat) (l1 : List Int) (r : List Int) (w : World) (hr0 : Kd.C (Kd.int .u32) w A0 l0.length l0) (hc0 : l0.length ≤ c0) (hr1 : Kd.C (Kd.int .u32) w A1 l1.length l1) (hc1 : l1.length ≤ c1) (h : checker_natural_sub.f k l0 l1 = some r) :
  Calls Tryz.prog 46 #[.slice A0 l0.length c0, .slice A1 l1.length c1] w fun e w' => ∃ v0_ : Value, e = .returned (v0_) ∧ Kd.V (Kd.int .u32) 107 w' w.heap.size (fun k_ => (w.heap.size ≤ k_)) v0_ r ∧ Below w.heap.size w w' := by
 have HR0 := mk0 hr0
 have g0 := mk0 hc0
 clear hr0 hc0
 have HR1 := mk0 hr1
 have g1 := mk0 hc1
 clear hr1 hc1
 have HB := mk0 (Below.refl w.heap.size w)
 have H : (if 0 ≤ (l0.length : Int) then (if ((l0.length : Int) : Int).toNat ≤ 70368744177664 then (checker_natural_sub.l0 k l1 ([] : List Int) 0 l0 (l0.length : Int) 0) else (none)) else (none)) = some r := h
 clear h
 by_cases c3 : 0 ≤ (l0.length : Int)
 ·
  rw [if_pos c3] at H
  have e4 := eq_true c3
  have e5 : decide (0 ≤ (l0.length : Int)) = true := decide_eq_true c3
  clear c3
  by_cases c4 : ((l0.length : Int) : Int).toNat ≤ 70368744177664
  ·
   rw [if_pos c4] at H
   have e6 := eq_true c4
   have e7 : decide (((l0.length : Int) : Int).toNat ≤ 70368744177664) = true := decide_eq_true c4
   clear c4
   obtain ⟨c5, hy165⟩ : ∃ y_ : List Int, y_ = ([] : List Int) := ⟨_, rfl⟩
   replace H : (checker_natural_sub.l0 k l1 c5 0 l0 (l0.length : Int) 0) = some r := by first | (rw [hy165]; exact H) | (rw [hy165]; exact (Option.bind_some _ _).symm.trans H) | exact (Option.bind_some _ _).symm.trans H
   have Ny165 := mk0 hy165
   clear hy165
   have H' := mk0 H
   clear H
   go_enter Tryz.func46, Tryz.ntmps46
   go_wp2_with (first | (refine gd 13 ?_; refine Go.Proofs.YtbgmfgndldnmcaaGreatDoorMyWords.R_make_cap (Kd.int .u32) _ 107 rfl (N := 13) rfl 59 _ _ rfl (l0.length : Int) rfl rfl Tryz.underlying59 (.int .u32 0) 4 info107 rfl (by decide) (by omega) 0 (ok := fun _ => True) (okp := fun _ => True) rfl (fun _ hk => hk) trivial (aD) (Nat.le_trans (Nat.mul_le_mul_right _ (aD : (l0.length : Int).toNat ≤ 70368744177664)) (by omega)) (Below.refl _ _) (Nat.le_refl _) ?_; intro f3 w5 e8 hb hg_ hnew_; clear hg_ hnew_; rw [← Ny165.out] at e8; have c6 := mk0 (Kd.R_lower (Kd.R_newM (M := fun k_ => (w.heap.size ≤ k_)) e8 (below_size (aB)) (fun k_ h_ => h_)) (below_size (aB)));replace HB := uW hb; clear hb e8))
   go_loopg [5, 6, 16] k (fun kq v5 v6 f4 w' => ∃ (a4 : List Int) (a7 : Int) (a2 : Int), v6 = .int .u32 a7 ∧ f4 = .int .i64 a2 ∧ Aside0 (checker_natural_sub.l0 kq l1 a4 a7 l0 (l0.length : Int) a2 = some r) ∧ Aside0 (kq ≤ k) ∧ Aside0 (Kd.R (Kd.int .u32) 107 w' w.heap.size (fun k_ => (w.heap.size ≤ k_)) v5 a4) ∧ Aside0 (Below w.heap.size w w'))
   case atStart => exact ⟨(c5), (0), (0), (by first | rfl | simp [*]), (by first | rfl | simp [*]), H', ⟨Nat.le_refl _⟩, ⟨sR c6.out⟩, ⟨aB⟩⟩
   case round =>
    clear H'
    try clear c1
    try clear p2
    try clear c3
    try clear e4
    try clear e5
    try clear c4
    try clear e6
    try clear e7
    obtain ⟨a4, a7, a2, rfl, rfl, HA, HK1, a6, HB⟩ := hrel
    cases gk with
    | zero => exact absurd HA.out (by simp [checker_natural_sub.l0])
    | succ k1 =>
     have H := HA.out
     clear HA
     simp only [checker_natural_sub.l0] at H
     by_cases c7 : a2 < (l0.length : Int)
     ·
      rw [if_pos c7] at H
      have e9 : decide (a2 < (l0.length : Int)) = true := decide_eq_true c7
      clear c7
      by_cases c8 : 0 ≤ a2
      ·
       rw [if_pos c8] at H
       have f5 : decide (0 ≤ a2) = true := decide_eq_true c8
       clear c8
       by_cases c9 : a2 < (l0.length : Int)
       ·
        rw [if_pos c9] at H
        have f6 : decide (a2 < (l0.length : Int)) = true := decide_eq_true c9
        clear c9
        by_cases b9 : a2 < (l1.length : Int)
        ·
         rw [if_pos b9] at H
         have d0 : decide (a2 < (l1.length : Int)) = true := decide_eq_true b9
         clear b9
         obtain ⟨⟨b0, b5⟩, A11, H⟩ := bS H
         (try dsimp only at H)
         by_cases e2 : a4.length < 35184372088832
         ·
          rw [if_pos e2] at H
          have d1 := mk0 e2
          clear e2
          obtain ⟨d2, hy172⟩ : ∃ y_ : List Int, y_ = (a4 ++ [b0]) := ⟨_, rfl⟩
          replace H : (checker_natural_sub.l0 k1 l1 d2 b5 l0 (l0.length : Int) (wrap64 (a2 + 1))) = some r := by first | (rw [hy172]; exact H) | (rw [hy172]; exact (Option.bind_some _ _).symm.trans H) | exact (Option.bind_some _ _).symm.trans H
          have Ny172 := mk0 hy172
          clear hy172
          have H' := mk0 H
          clear H
          have a8 : 0 ≤ (a2 : Int) := aD
          have a9 : a2 < (l0.length : Int) := aD
          obtain ⟨d3, e168, a3⟩ := Kd.at_int HR0.out a2 a8 a9
          cases e168
          replace a3 := (HB.out.cell (World.block_lt_of_cell? w _ a3)).trans a3
          replace a8 := eq_true a8
          replace a9 := eq_true a9
          have b6 : 0 ≤ (a2 : Int) := aD
          have b7 : a2 < (l1.length : Int) := aD
          obtain ⟨f1, e169, a5⟩ := Kd.at_int HR1.out a2 b6 b7
          cases e169
          replace a5 := (HB.out.cell (World.block_lt_of_cell? w _ a5)).trans a5
          replace b6 := eq_true b6
          replace b7 := eq_true b7
          go_wp2_with (first | (refine gc 73 ?_; refine gl 33 Tryz.func73 #[.int .u32 (rd l0 a2), .int .u32 (rd l1 a2), .int .u32 a7] ?_; (with_reducible refine (bits_Sub32.calls (rd l0 a2) (rd l1 a2) a7 b0 b5 _ A11.out).mono ?_); rintro e w' ⟨rfl, ⟨nd, rfl⟩⟩; refine ⟨_, rfl, ?_⟩) | ((with_reducible refine gate_builtin (b := .append) (xs := #[.tmp 36, .tmp 38]) rfl ?_); at_builtin; refine Kd.R_append (Kd.int .u32) (w0 := w) w.heap.size rfl (.tmp 36) (.tmp 38) 59 107 (.int .u32 0) 4 rfl Tryz.underlying59 info107 rfl (by decide) (by omega) u5 a4 b0 [.int .u32 b0] (fun k_ => (w.heap.size ≤ k_)) (fun _ => False) rfl rfl ?aP (fun _ hk => hk.elim) ?aF ?aO ?aB ?aS ?aL ?_; (case aP => exact rfl); (case aB => exact (aB)); (case aF => exact (fun k_ hk => (Nat.le_trans (below_size (aB)) hk))); (case aO => exact (pR a6.out)); (case aS => exact (below_size (aB))); (case aL => have := d1.out; omega); intro f7 g2 ho hb hg hat; rw [← Ny172.out] at ho; replace HB := mk0 (hb);have d4 := mk0 (ho);clear a6; clear ho hb hg hat))
          go_roundg k1
          case measure => have := HK1.out; omega
          case rel => exact ⟨(d2), (b5), (wrap64 (a2 + 1)), (by first | rfl | simp [*]), (by first | rfl | simp [*]), H', ⟨by have := HK1.out; omega⟩, ⟨pR d4.out⟩, ⟨aB⟩⟩
         ·
          rw [if_neg e2] at H
          exact absurd H (by simp)
        ·
         rw [if_neg b9] at H
         have d0 : decide (a2 < (l1.length : Int)) = false := decide_eq_false b9
         clear b9
         obtain ⟨⟨b1, b8⟩, A14, H⟩ := bS H
         (try dsimp only at H)
         by_cases e3 : a4.length < 35184372088832
         ·
          rw [if_pos e3] at H
          have d5 := mk0 e3
          clear e3
          obtain ⟨d6, hy177⟩ : ∃ y_ : List Int, y_ = (a4 ++ [b1]) := ⟨_, rfl⟩
          replace H : (checker_natural_sub.l0 k1 l1 d6 b8 l0 (l0.length : Int) (wrap64 (a2 + 1))) = some r := by first | (rw [hy177]; exact H) | (rw [hy177]; exact (Option.bind_some _ _).symm.trans H) | exact (Option.bind_some _ _).symm.trans H
          have Ny177 := mk0 hy177
          clear hy177
          have H' := mk0 H
          clear H
          have a8 : 0 ≤ (a2 : Int) := aD
          have a9 : a2 < (l0.length : Int) := aD
          obtain ⟨d3, e168, a3⟩ := Kd.at_int HR0.out a2 a8 a9
          cases e168
          replace a3 := (HB.out.cell (World.block_lt_of_cell? w _ a3)).trans a3
          replace a8 := eq_true a8
          replace a9 := eq_true a9
          go_wp2_with (first | (refine gc 73 ?_; refine gl 33 Tryz.func73 #[.int .u32 (rd l0 a2), .int .u32 0, .int .u32 a7] ?_; (with_reducible refine (bits_Sub32.calls (rd l0 a2) 0 a7 b1 b8 _ A14.out).mono ?_); rintro e w' ⟨rfl, ⟨nd, rfl⟩⟩; refine ⟨_, rfl, ?_⟩) | ((with_reducible refine gate_builtin (b := .append) (xs := #[.tmp 36, .tmp 38]) rfl ?_); at_builtin; refine Kd.R_append (Kd.int .u32) (w0 := w) w.heap.size rfl (.tmp 36) (.tmp 38) 59 107 (.int .u32 0) 4 rfl Tryz.underlying59 info107 rfl (by decide) (by omega) u5 a4 b1 [.int .u32 b1] (fun k_ => (w.heap.size ≤ k_)) (fun _ => False) rfl rfl ?aP (fun _ hk => hk.elim) ?aF ?aO ?aB ?aS ?aL ?_; (case aP => exact rfl); (case aB => exact (aB)); (case aF => exact (fun k_ hk => (Nat.le_trans (below_size (aB)) hk))); (case aO => exact (pR a6.out)); (case aS => exact (below_size (aB))); (case aL => have := d5.out; omega); intro f8 g3 ho hb hg hat; rw [← Ny177.out] at ho; replace HB := mk0 (hb);have d7 := mk0 (ho);clear a6; clear ho hb hg hat))
          go_roundg k1
          case measure => have := HK1.out; omega
          case rel => exact ⟨(d6), (b8), (wrap64 (a2 + 1)), (by first | rfl | simp [*]), (by first | rfl | simp [*]), H', ⟨by have := HK1.out; omega⟩, ⟨pR d7.out⟩, ⟨aB⟩⟩
         ·
          rw [if_neg e3] at H
          exact absurd H (by simp)
       ·
        rw [if_neg c9] at H
        exact absurd H (by simp)
      ·
       rw [if_neg c8] at H
       exact absurd H (by simp)
     ·
      rw [if_neg c7] at H
      have e9 : decide (a2 < (l0.length : Int)) = false := decide_eq_false c7
      clear c7
      obtain ⟨b4, A17, H⟩ := bS H
      obtain rfl := Option.some.inj H
      obtain ⟨d8, d9, f0⟩ := Kd.R_slice a6.out
      subst f0
      go_wp2_with (first | (refine gc 65 ?_; refine gl 42 Tryz.func65 #[.slice d8 a4.length d9] ?_; (with_reducible refine (checker_natural_trim.calls k1 (fun k_ => some k_ = (.slice d8 a4.length d9 : Value).ownBlock) _ _ a4 b4 _ ?side1 A17.out).mono ?_); (case side1 => exact Kd.R_V (Kd.R_tight rfl (a6.out))); rintro e g4 ⟨f9, rfl, f2, hb⟩; refine ⟨_, rfl, ?_⟩; have e1 := lV (ok' := fun k_ => (w.heap.size ≤ k_)) f2;replace a6 := uR a6 hb;replace HB := uW hb; (try clear hb); (try clear f2)))
      go_ret
      exact ⟨_, by first | rfl | (simp [*] <;> rfl), pV e1.out, aB⟩
  ·
   rw [if_neg c4] at H
   exact absurd H (by simp)
 ·
  rw [if_neg c3] at H
  exact absurd H (by simp)
def checker_natural_odd.f (l0 : List Int) : Option (Bool) := if (l0.length : Int) > 0 then (if 0 < (l0.length : Int) then (some ((Go.bits .and .u32 (rd l0 0) 1) == 1)) else (none)) else (some false)
set_option maxHeartbeats 8000000 in
set_option maxRecDepth 100000 in
theorem checker_natural_odd.calls (A0 : Option Addr) (c0 : Nat) (l0 : List Int) (r : Bool) (w : World) (hr0 : Kd.C (Kd.int .u32) w A0 l0.length l0) (hc0 : l0.length ≤ c0) (h : checker_natural_odd.f l0 = some r) :
  Calls Tryz.prog 66 #[.slice A0 l0.length c0] w fun e w' => e = .returned (.bool r) ∧ Drawn0 w w' := by
 have HR0 := mk0 hr0
 have a8 := mk0 hc0
 clear hr0 hc0
 have H : (if (l0.length : Int) > 0 then (if 0 < (l0.length : Int) then (some ((Go.bits .and .u32 (rd l0 0) 1) == 1)) else (none)) else (some false)) = some r := h
 clear h
 by_cases c2 : (l0.length : Int) > 0
 ·
  rw [if_pos c2] at H
  have a3 : decide (0 < (l0.length : Int)) = true := decide_eq_true c2
  have a4 : decide (0 < l0.length) = true := decide_eq_true (by omega)
  clear c2
  by_cases c3 : 0 < (l0.length : Int)
  ·
   rw [if_pos c3] at H
   have a6 : decide (0 < (l0.length : Int)) = true := decide_eq_true c3
   have a7 : decide (0 < l0.length) = true := decide_eq_true (by omega)
   clear c3
   obtain rfl := Option.some.inj H
   have a1 : 0 ≤ (0 : Int) := (by omega)
   have a2 : 0 < (l0.length : Int) := aD
   obtain ⟨a5, e183, a0⟩ := Kd.at_int HR0.out 0 a1 a2
   cases e183
   have qi183 : (0 < l0.length) = True := eq_true (by omega)
   (try rw [show ((0 : Int)).toNat = 0 from rfl] at a0)
   (try rw [Addr.add_zero'] at a0)
   replace a1 := eq_true a1
   replace a2 := eq_true a2
   go_enter Tryz.func66, Tryz.ntmps66
   go_wp2
   go_ret
   exact ⟨by first | rfl | simp [*], by repeat (first | exact Drawn0.refl _ | apply Drawn0.step)⟩
  ·
   rw [if_neg c3] at H
   exact absurd H (by simp)
 ·
  rw [if_neg c2] at H
  have a3 : decide (0 < (l0.length : Int)) = false := decide_eq_false c2
  have a4 : decide (0 < l0.length) = false := decide_eq_false (by omega)
  clear c2
  obtain rfl := Option.some.inj H
  go_enter Tryz.func66, Tryz.ntmps66
  go_wp2
  go_ret
  exact ⟨by first | rfl | simp [*], by repeat (first | exact Drawn0.refl _ | apply Drawn0.step)⟩
def checker_natural_half.l0 : Nat → List Int → List Int → List Int → Int → Int → Option (List Int)
 | 0, _, _, _, _, _ => none
 | k + 1, x0, x3, x9, x10, x11 => if x11 < x10 then (if 0 ≤ x11 then (if x11 < (x9.length : Int) then (if x11 < (x3.length : Int) then ((some (x3.set (x11 : Int).toNat ((rd x9 x11) / 2) : List Int)).bind fun a4 => (if (wrap64 (x11 + 1)) < (x0.length : Int) then (if 0 ≤ (wrap64 (x11 + 1)) then (checker_natural_half.l0 k x0 (a4.set (x11 : Int).toNat (Go.bits .or .u32 (rd a4 x11) (((rd x0 (wrap64 (x11 + 1))) * 2147483648) % 4294967296))) x9 x10 (wrap64 (x11 + 1))) else (none)) else (checker_natural_half.l0 k x0 a4 x9 x10 (wrap64 (x11 + 1))))) else (none)) else (none)) else (none)) else ((checker_natural_trim.f k x3).bind fun b6 => (some b6))
def checker_natural_half.f (k : Nat) (l0 : List Int) : Option (List Int) := if 0 ≤ (l0.length : Int) then (if ((l0.length : Int) : Int).toNat ≤ 70368744177664 then (checker_natural_half.l0 k l0 (List.replicate ((l0.length : Int) : Int).toNat 0) l0 (l0.length : Int) 0) else (none)) else (none)
theorem checker_natural_half.mono_l : ∀ k, (∀ y0 y1 y2 y3 y4, LeO (checker_natural_half.l0 k y0 y1 y2 y3 y4) (checker_natural_half.l0 (k + 1) y0 y1 y2 y3 y4))
 | 0 => fun _ _ _ _ _ r h => by simp [checker_natural_half.l0] at h
 | k + 1 => by
  have ih0 := checker_natural_half.mono_l k
  ·
   intro y0 y1 y2 y3 y4
   unfold checker_natural_half.l0
   repeat' first | (with_reducible first | exact ih0 .. | exact checker_natural_trim.mono .. | exact LeO.refl _ | exact LeO.none _ | refine LeO.ite ?_ ?_ | refine LeO.bind ?_ (fun _ => ?_))
theorem checker_natural_half.mono : ∀ a0 k, LeO (checker_natural_half.f k a0) (checker_natural_half.f (k + 1) a0) := by
 intro a0 k
 have ih0 := checker_natural_half.mono_l k
 unfold checker_natural_half.f
 repeat' first | (with_reducible first | exact ih0 .. | exact checker_natural_trim.mono .. | exact LeO.refl _ | exact LeO.none _ | refine LeO.ite ?_ ?_ | refine LeO.bind ?_ (fun _ => ?_))
def checker_natural_half.T7 : Bool × List (List Nat × List Nat) := (true, [([], []), ([], []), ([0, 1], [0, 1]), ([2], [2]), ([], []), ([], []), ([5], [5]), ([4, 6], [4, 6]), ([7], [7]), ([8], [8]), ([3, 9], [3, 9]), ([0, 1, 0, 1, 2, 3, 4, 5, 6, 7, 8, 9, 10], [0, 1]), ([11, 10, 0, 1, 2, 3, 4, 5, 6, 7, 8, 9, 10], [10, 11])])
def checker_natural_half.B7 : List Nat := [0, 0, 3, 7, 0, 0, 32, 112, 240, 496, 1023, 2047, 4095]
theorem checker_natural_half.tab7 : rtab .any (opsOf Tryz.f67 7) = checker_natural_half.T7 := by kernel_rfl
theorem checker_natural_half.bits7 : waitsOk checker_natural_half.T7.2 checker_natural_half.B7 = true := by kernel_rfl
set_option maxHeartbeats 8000000 in
set_option maxRecDepth 100000 in
theorem checker_natural_half.calls (k : Nat) (A0 : Option Addr) (c0 : Nat) (l0 : List Int) (r : List Int) (w : World) (hr0 : Kd.C (Kd.int .u32) w A0 l0.length l0) (hc0 : l0.length ≤ c0) (h : checker_natural_half.f k l0 = some r) :
  Calls Tryz.prog 67 #[.slice A0 l0.length c0] w fun e w' => ∃ v0_ : Value, e = .returned (v0_) ∧ Kd.V (Kd.int .u32) 107 w' w.heap.size (fun k_ => (w.heap.size ≤ k_)) v0_ r ∧ Below w.heap.size w w' := by
 have HR0 := mk0 hr0
 have g4 := mk0 hc0
 clear hr0 hc0
 have HB := mk0 (Below.refl w.heap.size w)
 have H : (if 0 ≤ (l0.length : Int) then (if ((l0.length : Int) : Int).toNat ≤ 70368744177664 then (checker_natural_half.l0 k l0 (List.replicate ((l0.length : Int) : Int).toNat 0) l0 (l0.length : Int) 0) else (none)) else (none)) = some r := h
 clear h
 by_cases c2 : 0 ≤ (l0.length : Int)
 ·
  rw [if_pos c2] at H
  have e6 := eq_true c2
  have e7 : decide (0 ≤ (l0.length : Int)) = true := decide_eq_true c2
  clear c2
  by_cases c3 : ((l0.length : Int) : Int).toNat ≤ 70368744177664
  ·
   rw [if_pos c3] at H
   have e8 := eq_true c3
   have e9 : decide (((l0.length : Int) : Int).toNat ≤ 70368744177664) = true := decide_eq_true c3
   clear c3
   obtain ⟨d5, hy184⟩ : ∃ y_ : List Int, y_ = (List.replicate ((l0.length : Int) : Int).toNat 0) := ⟨_, rfl⟩
   replace H : (checker_natural_half.l0 k l0 d5 l0 (l0.length : Int) 0) = some r := by first | (rw [hy184]; exact H) | (rw [hy184]; exact (Option.bind_some _ _).symm.trans H) | exact (Option.bind_some _ _).symm.trans H
   have Ny184 := mk0 hy184
   clear hy184
   have H' := mk0 H
   clear H
   go_enter Tryz.func67, Tryz.ntmps67
   go_wp2_with (first | (refine gd 8 ?_; refine Kd.R_make (Kd.int .u32) _ 107 rfl (N := 8) rfl 59 _ _ rfl (l0.length : Int) rfl rfl Tryz.underlying59 (.int .u32 0) 4 info107 rfl (by decide) (by omega) 0 (ok := fun _ => True) (okp := fun _ => True) rfl (fun _ hk => hk) trivial (aD) (Nat.le_trans (Nat.mul_le_mul_right _ (aD : (l0.length : Int).toNat ≤ 70368744177664)) (by omega)) (Below.refl _ _) (Nat.le_refl _) ?_; intro f0 w4 f1 hb hg_ hnew_; clear hg_ hnew_; rw [← Ny184.out] at f1; have d6 := mk0 (Kd.R_lower (Kd.R_newM (M := fun k_ => (w.heap.size ≤ k_)) f1 (below_size (aB)) (fun k_ h_ => h_)) (below_size (aB)));replace HB := uW hb; clear hb f1))
   go_loopg [11] k (fun kq f9 w' => ∃ (a5 : List Int) (a1 : Int), f9 = .int .i64 a1 ∧ Aside0 (checker_natural_half.l0 kq l0 a5 l0 (l0.length : Int) a1 = some r) ∧ Aside0 (kq ≤ k) ∧ Aside0 (Kd.R (Kd.int .u32) 107 w' w.heap.size (fun k_ => (w.heap.size ≤ k_)) f0 a5) ∧ Aside0 (Below w.heap.size w w'))
   case atStart => exact ⟨(d5), (0), (by first | rfl | simp [*]), H', ⟨Nat.le_refl _⟩, ⟨sR d6.out⟩, ⟨aB⟩⟩
   case round =>
    clear H'
    try clear c2
    try clear e6
    try clear e7
    try clear p2
    try clear c3
    try clear e8
    try clear e9
    obtain ⟨a5, a1, rfl, HA, HK1, a2, HB⟩ := hrel
    cases gk with
    | zero => exact absurd HA.out (by simp [checker_natural_half.l0])
    | succ k1 =>
     have H := HA.out
     clear HA
     simp only [checker_natural_half.l0] at H
     by_cases c6 : a1 < (l0.length : Int)
     ·
      rw [if_pos c6] at H
      have f2 : decide (a1 < (l0.length : Int)) = true := decide_eq_true c6
      clear c6
      by_cases c7 : 0 ≤ a1
      ·
       rw [if_pos c7] at H
       have g0 : decide (0 ≤ a1) = true := decide_eq_true c7
       clear c7
       by_cases c8 : a1 < (l0.length : Int)
       ·
        rw [if_pos c8] at H
        have g1 : decide (a1 < (l0.length : Int)) = true := decide_eq_true c8
        clear c8
        by_cases c9 : a1 < (a5.length : Int)
        ·
         rw [if_pos c9] at H
         have g2 : decide (a1 < (a5.length : Int)) = true := decide_eq_true c9
         clear c9
         obtain ⟨a4, hy188⟩ : ∃ y_ : List Int, y_ = (a5.set (a1 : Int).toNat ((rd l0 a1) / 2)) := ⟨_, rfl⟩
         replace H : (if (wrap64 (a1 + 1)) < (l0.length : Int) then (if 0 ≤ (wrap64 (a1 + 1)) then (checker_natural_half.l0 k1 l0 (a4.set (a1 : Int).toNat (Go.bits .or .u32 (rd a4 a1) (((rd l0 (wrap64 (a1 + 1))) * 2147483648) % 4294967296))) l0 (l0.length : Int) (wrap64 (a1 + 1))) else (none)) else (checker_natural_half.l0 k1 l0 a4 l0 (l0.length : Int) (wrap64 (a1 + 1)))) = some r := by first | (rw [hy188]; exact H) | (rw [hy188]; exact (Option.bind_some _ _).symm.trans H) | exact (Option.bind_some _ _).symm.trans H
         have Ny188 := mk0 hy188
         clear hy188
         by_cases d4 : (wrap64 (a1 + 1)) < (l0.length : Int)
         ·
          rw [if_pos d4] at H
          have b5 : decide ((wrap64 (a1 + 1)) < (l0.length : Int)) = true := decide_eq_true d4
          clear d4
          obtain ⟨ji12, hji12⟩ : ∃ j_ : Int, (wrap64 (a1 + 1)) = j_ := ⟨_, rfl⟩
          replace H : (if 0 ≤ (ji12) then (checker_natural_half.l0 k1 l0 (a4.set (a1 : Int).toNat (Go.bits .or .u32 (rd a4 a1) (((rd l0 (ji12)) * 2147483648) % 4294967296))) l0 (l0.length : Int) ji12) else (none)) = some r := by first | (rw [hji12] at H; exact H) | (simp only [hji12] at H ⊢; exact H)
          (try rw [hji12] at b5)
          have hji12w : (IntKind.i64.wrap (a1 + 1)) = ji12 := (i64_w _).trans hji12
          by_cases e4 : 0 ≤ (ji12)
          ·
           rw [if_pos e4] at H
           have f7 : decide (0 ≤ (ji12)) = true := decide_eq_true e4
           clear e4
           obtain ⟨d7, hy191⟩ : ∃ y_ : List Int, y_ = (a4.set (a1 : Int).toNat (Go.bits .or .u32 (rd a4 a1) (((rd l0 (ji12)) * 2147483648) % 4294967296))) := ⟨_, rfl⟩
           replace H : (checker_natural_half.l0 k1 l0 d7 l0 (l0.length : Int) ji12) = some r := by first | (rw [hy191]; exact H) | (rw [hy191]; exact (Option.bind_some _ _).symm.trans H) | exact (Option.bind_some _ _).symm.trans H
           have Ny191 := mk0 hy191
           clear hy191
           have H' := mk0 H
           clear H
           have a9 : 0 ≤ (a1 : Int) := aD
           have b0 : a1 < (l0.length : Int) := aD
           obtain ⟨b1, e187, a3⟩ := Kd.at_int HR0.out a1 a9 b0
           cases e187
           replace a3 := (HB.out.cell (World.block_lt_of_cell? w _ a3)).trans a3
           replace a9 := eq_true a9
           replace b0 := eq_true b0
           have b7 : 0 ≤ (a1 : Int) := aD
           have b8 : (a1 : Int) < ((a5.length : Int) : Int) := aD
           obtain ⟨a8, b9, b2, b3, gl10, cl10, HG10⟩ := Kd.R_form a2.out (by omega)
           (first | cases b2 | (injection b2 with ea_ en_ ec_; (first | subst ea_ | (injection ea_ with ea_; subst ea_)); subst ec_; clear en_))
           have GB10 := mk0 b3
           have GG10 := mk0 HG10
           clear b3 gl10 HG10
           obtain ⟨c4, hf10_0⟩ := Kd.R_celln 0 a2.out (a1 : Int) b7 b8
           replace b7 := eq_true b7
           replace b8 := eq_true b8
           have HP15 := Kd.R_putg a2.out (a1 : Int) ((rd l0 a1) / 2)
           try go_wp2_with (first | ((with_reducible refine gate_store (t := 107) (p := 20) rfl ?_); refine store_event (t := 107) (p := 20) (v := ?vo_w16) (w1 := (wr.setCell ⟨a8, (a1 : Int).toNat, none⟩ (.int .u32 ((rd l0 a1) / 2)))) ?hg ?ho ?hn ?hr ?_; (case ho => rfl); (case hg => rfl); (case hn => rfl); (case hr => exact aH); intro e5 hw; have hg : wr.grownBy e5 (some a8) := (by rw [hw]; exact HP15.2); have hp_ : Kd.R (Kd.int .u32) 107 e5 w.heap.size (fun k_ => (w.heap.size ≤ k_)) (.slice (some ⟨a8, 0, none⟩) a5.length b9) a4 := (by rw [hw, Ny188.out]; exact HP15.1); clear HP15; replace a2 := mk0 (hp_);replace HB := mk0 ((by rw [hw]; exact below_set (HB.out) GB10.out : Below w.heap.size w e5)); clear hg hw hp_))
           replace a2 := mk0 (Kd.R_drew a2.out)
           replace HB := mk0 (below_drew1 HB.out)
           have c5 : 0 ≤ (a1 : Int) := aD
           have d0 : a1 < (a4.length : Int) := (by have h_ : (a1 : Int) < ((a5.length : Int) : Int) := aD; first | (have e_ := (Kd.R_reads' a2.out).1; omega) | simpa only [Ny188.out, List.length_set] using h_)
           have ql189 : ((a1 : Int) < ((a5.length : Int) : Int)) = True := eq_true (aD)
           obtain ⟨d8, e189, a6⟩ := Kd.at_int (Kd.R_reads' a2.out).2.2 a1 c5 d0
           obtain rfl : (⟨a8, 0, none⟩ : Addr) = d8 := (by injection e189)
           (first | simp only [add_plain] at a6 | simp only [add_at] at a6 | simp only [Addr.add, Nat.zero_add] at a6 | skip)
           replace c5 := eq_true c5
           replace d0 := eq_true d0
           have d1 : 0 ≤ ((ji12) : Int) := aD
           have d2 : (ji12) < (l0.length : Int) := aD
           obtain ⟨d9, e190, a7⟩ := Kd.at_int HR0.out (ji12) d1 d2
           have hw190_0 := a7
           obtain rfl : b1 = d9 := (by injection e190)
           replace a7 := (HB.out.cell (World.block_lt_of_cell? w _ a7)).trans a7
           replace d1 := eq_true d1
           replace d2 := eq_true d2
           have f3 : 0 ≤ (a1 : Int) := aD
           have f4 : (a1 : Int) < ((a5.length : Int) : Int) := aD
           obtain ⟨d3, hf14_0⟩ := Kd.R_celln 0 a2.out (a1 : Int) f3 f4
           replace f3 := eq_true f3
           replace f4 := eq_true f4
           have HP18 := Kd.R_putn a2.out (a1 : Int) (Go.bits .or .u32 (rd a4 a1) (((rd l0 (ji12)) * 2147483648) % 4294967296))
           rw [← Ny191.out] at HP18
           have HQ18 := mk0 HP18
           clear HP18
           refine start_ (n := 13) (S := fun w' => w'.cell? ⟨a8, (a1).toNat, none⟩ = some (.int .u32 (rd a4 a1)) ∧ w'.cell? (b1.add ((ji12)).toNat) = some (.int .u32 (rd l0 (ji12)))) (ds := [12]) #[false, false, false, false, false, false, false, false, false, false, false, false, false] (by kernel_rfl) rfl rfl ⟨a6, ((HB.out.cell (World.block_lt_of_cell? w _ hw190_0)).trans hw190_0)⟩ (fun b4 => ?_); refine with_tabW checker_natural_half.tab7 checker_natural_half.bits7 (fun HT_ HW_ => ?_)
           generalize e5.drew = g5 at a2 HB HQ18 hf14_0 d3 a6 a7 b4 ⊢
           refine pu 0 26 HT_ ?_
           refine pu 1 27 HT_ ?_
           refine pu 2 28 HT_ ?_
           refine pu 4 30 HT_ ?_
           refine pu 5 31 HT_ ?_
           refine pu 6 32 HT_ ?_
           refine pu 7 33 HT_ ?_
           refine tk 3 29 HT_ HW_ b4 ?_
           refine tk 8 34 HT_ HW_ b4 ?_
           refine pu 9 35 HT_ ?_
           refine pu 10 36 HT_ ?_
           refine pu 11 37 HT_ ?_
           refine last_ (i := 12) (N := none) #[true, true, true, true, true, true, true, true, true, true, true, true, true] rfl rfl (one_of HT_.out (by kernel_rfl)) (by decide) (fun K hK => ?_)
           refine skip_ (w1 := ?_) (by rfl) rfl ?_ ?_
           rotate_left
           ·
            go_simp
            rfl
           refine hK.out _ _ ?_
           clear hK K
           refine done_ (done_of HT_.out (by kernel_rfl)) ?_
           try go_wp2
           go_roundg k1
           case measure => have := HK1.out; omega
           case rel => exact ⟨(d7), (ji12), (by first | rfl | (simp; done) | (simp only [← hji12] <;> (first | rfl | simp)) | (simp [*]; done)), H', ⟨by have := HK1.out; omega⟩, ⟨pR HQ18.out⟩, ⟨aB⟩⟩
          ·
           rw [if_neg e4] at H
           exact absurd H (by simp)
         ·
          rw [if_neg d4] at H
          have b5 : decide ((wrap64 (a1 + 1)) < (l0.length : Int)) = false := decide_eq_false d4
          clear d4
          have H' := mk0 H
          clear H
          have a9 : 0 ≤ (a1 : Int) := aD
          have b0 : a1 < (l0.length : Int) := aD
          obtain ⟨b1, e187, a3⟩ := Kd.at_int HR0.out a1 a9 b0
          cases e187
          replace a3 := (HB.out.cell (World.block_lt_of_cell? w _ a3)).trans a3
          replace a9 := eq_true a9
          replace b0 := eq_true b0
          have b7 : 0 ≤ (a1 : Int) := aD
          have b8 : (a1 : Int) < ((a5.length : Int) : Int) := aD
          obtain ⟨a8, b9, b2, b3, gl10, cl10, HG10⟩ := Kd.R_form a2.out (by omega)
          (first | cases b2 | (injection b2 with ea_ en_ ec_; (first | subst ea_ | (injection ea_ with ea_; subst ea_)); subst ec_; clear en_))
          have GB10 := mk0 b3
          have GG10 := mk0 HG10
          clear b3 gl10 HG10
          obtain ⟨c4, hf10_0⟩ := Kd.R_celln 0 a2.out (a1 : Int) b7 b8
          replace b7 := eq_true b7
          replace b8 := eq_true b8
          have HP19 := Kd.R_putg a2.out (a1 : Int) ((rd l0 a1) / 2)
          go_wp2_with (first | ((with_reducible refine gate_store (t := 107) (p := 20) rfl ?_); refine store_event (t := 107) (p := 20) (v := ?vo_w20) (w1 := (wr.setCell ⟨a8, (a1 : Int).toNat, none⟩ (.int .u32 ((rd l0 a1) / 2)))) ?hg ?ho ?hn ?hr ?_; (case ho => rfl); (case hg => rfl); (case hn => rfl); (case hr => exact aH); intro f5 hw; have hg : wr.grownBy f5 (some a8) := (by rw [hw]; exact HP19.2); have hp_ : Kd.R (Kd.int .u32) 107 f5 w.heap.size (fun k_ => (w.heap.size ≤ k_)) (.slice (some ⟨a8, 0, none⟩) a5.length b9) a4 := (by rw [hw, Ny188.out]; exact HP19.1); clear HP19; replace a2 := mk0 (hp_);replace HB := mk0 ((by rw [hw]; exact below_set (HB.out) GB10.out : Below w.heap.size w f5)); clear hg hw hp_))
          go_roundg k1
          case measure => have := HK1.out; omega
          case rel => exact ⟨(a4), (wrap64 (a1 + 1)), (by first | rfl | simp [*]), H', ⟨by have := HK1.out; omega⟩, ⟨pR a2.out⟩, ⟨aB⟩⟩
        ·
         rw [if_neg c9] at H
         exact absurd H (by simp)
       ·
        rw [if_neg c8] at H
        exact absurd H (by simp)
      ·
       rw [if_neg c7] at H
       exact absurd H (by simp)
     ·
      rw [if_neg c6] at H
      have f2 : decide (a1 < (l0.length : Int)) = false := decide_eq_false c6
      clear c6
      obtain ⟨b6, A21, H⟩ := bS H
      obtain rfl := Option.some.inj H
      obtain ⟨e1, e2, f6⟩ := Kd.R_slice a2.out
      subst f6
      go_wp2_with (first | (refine gc 65 ?_; refine gl 40 Tryz.func65 #[.slice e1 a5.length e2] ?_; (with_reducible refine (checker_natural_trim.calls k1 (fun k_ => some k_ = (.slice e1 a5.length e2 : Value).ownBlock) _ _ a5 b6 _ ?side1 A21.out).mono ?_); (case side1 => exact Kd.R_V (Kd.R_tight rfl (a2.out))); rintro e g6 ⟨g3, rfl, f8, hb⟩; refine ⟨_, rfl, ?_⟩; have e3 := lV (ok' := fun k_ => (w.heap.size ≤ k_)) f8;replace a2 := uR a2 hb;replace HB := uW hb; (try clear hb); (try clear f8)))
      go_ret
      exact ⟨_, by first | rfl | (simp [*] <;> rfl), pV e3.out, aB⟩
  ·
   rw [if_neg c3] at H
   exact absurd H (by simp)
 ·
  rw [if_neg c2] at H
  exact absurd H (by simp)
mutual
def checker_natural_gcd.l0 : Nat → List Int → List Int → Int → Option (List Int)
 | 0, _, _, _ => none
 | k + 1, x0, x1, x5 => (checker_natural_odd.f x0).bind fun e2 => (if e2 = true then (checker_natural_gcd.j1 k x0 x1 x5 false) else ((checker_natural_odd.f x1).bind fun c7 => (checker_natural_gcd.j1 k x0 x1 x5 (!c7))))
def checker_natural_gcd.j1 : Nat → List Int → List Int → Int → Bool → Option (List Int)
 | 0, _, _, _, _ => none
 | k + 1, x0, x1, x5, x13 => if x13 = true then ((checker_natural_half.f k x0).bind fun c8 => ((checker_natural_half.f k x1).bind fun c9 => (checker_natural_gcd.l0 k c8 c9 (wrap64 (x5 + 1))))) else (checker_natural_gcd.l1 k x0 x1 x5)
def checker_natural_gcd.l1 : Nat → List Int → List Int → Int → Option (List Int)
 | 0, _, _, _ => none
 | k + 1, x0, x1, x5 => if (x0.length : Int) > 0 then (checker_natural_gcd.l2 k x0 x1 x5) else (checker_natural_gcd.l4 k x1 x5 0)
def checker_natural_gcd.l2 : Nat → List Int → List Int → Int → Option (List Int)
 | 0, _, _, _ => none
 | k + 1, x0, x1, x5 => (checker_natural_odd.f x0).bind fun e3 => (if e3 = true then (checker_natural_gcd.l3 k x0 x1 x5) else ((checker_natural_half.f k x0).bind fun d0 => (checker_natural_gcd.l2 k d0 x1 x5)))
def checker_natural_gcd.l3 : Nat → List Int → List Int → Int → Option (List Int)
 | 0, _, _, _ => none
 | k + 1, x0, x1, x5 => (checker_natural_odd.f x1).bind fun e4 => (if e4 = true then ((checker_natural_compare.f k x0 x1).bind fun b3 => (if b3 < 0 then ((checker_natural_sub.f k x1 x0).bind fun d1 => (checker_natural_gcd.l1 k d1 x0 x5)) else ((checker_natural_sub.f k x0 x1).bind fun d2 => (checker_natural_gcd.l1 k d2 x1 x5)))) else ((checker_natural_half.f k x1).bind fun d3 => (checker_natural_gcd.l3 k x0 d3 x5)))
def checker_natural_gcd.l4 : Nat → List Int → Int → Int → Option (List Int)
 | 0, _, _, _ => none
 | k + 1, x1, x42, x43 => if x43 < x42 then ((checker_natural_add.f k x1 x1).bind fun d7 => (checker_natural_gcd.l4 k d7 x42 (wrap64 (x43 + 1)))) else (some x1)
end
def checker_natural_gcd.f (k : Nat) (l0 : List Int) (l1 : List Int) : Option (List Int) := checker_natural_gcd.l0 k l0 l1 0
theorem checker_natural_gcd.mono_l : ∀ k, (∀ y0 y1 y2, LeO (checker_natural_gcd.l0 k y0 y1 y2) (checker_natural_gcd.l0 (k + 1) y0 y1 y2)) ∧ (∀ y0 y1 y2 y3, LeO (checker_natural_gcd.j1 k y0 y1 y2 y3) (checker_natural_gcd.j1 (k + 1) y0 y1 y2 y3)) ∧ (∀ y0 y1 y2, LeO (checker_natural_gcd.l1 k y0 y1 y2) (checker_natural_gcd.l1 (k + 1) y0 y1 y2)) ∧ (∀ y0 y1 y2, LeO (checker_natural_gcd.l2 k y0 y1 y2) (checker_natural_gcd.l2 (k + 1) y0 y1 y2)) ∧ (∀ y0 y1 y2, LeO (checker_natural_gcd.l3 k y0 y1 y2) (checker_natural_gcd.l3 (k + 1) y0 y1 y2)) ∧ (∀ y0 y1 y2, LeO (checker_natural_gcd.l4 k y0 y1 y2) (checker_natural_gcd.l4 (k + 1) y0 y1 y2))
 | 0 => ⟨fun _ _ _ r h => by simp [checker_natural_gcd.l0] at h, fun _ _ _ _ r h => by simp [checker_natural_gcd.j1] at h, fun _ _ _ r h => by simp [checker_natural_gcd.l1] at h, fun _ _ _ r h => by simp [checker_natural_gcd.l2] at h, fun _ _ _ r h => by simp [checker_natural_gcd.l3] at h, fun _ _ _ r h => by simp [checker_natural_gcd.l4] at h⟩
 | k + 1 => by
  obtain ⟨ih0, ih1, ih2, ih3, ih4, ih5⟩ := checker_natural_gcd.mono_l k
  refine ⟨?_, ?_, ?_, ?_, ?_, ?_⟩
  ·
   intro y0 y1 y2
   unfold checker_natural_gcd.l0
   repeat' first | (with_reducible first | exact ih0 .. | exact ih1 .. | exact ih2 .. | exact ih3 .. | exact ih4 .. | exact ih5 .. | exact checker_natural_add.mono .. | exact checker_natural_compare.mono .. | exact checker_natural_half.mono .. | exact checker_natural_sub.mono .. | exact LeO.refl _ | exact LeO.none _ | refine LeO.ite ?_ ?_ | refine LeO.bind ?_ (fun _ => ?_))
  ·
   intro y0 y1 y2 y3
   unfold checker_natural_gcd.j1
   repeat' first | (with_reducible first | exact ih0 .. | exact ih1 .. | exact ih2 .. | exact ih3 .. | exact ih4 .. | exact ih5 .. | exact checker_natural_add.mono .. | exact checker_natural_compare.mono .. | exact checker_natural_half.mono .. | exact checker_natural_sub.mono .. | exact LeO.refl _ | exact LeO.none _ | refine LeO.ite ?_ ?_ | refine LeO.bind ?_ (fun _ => ?_))
  ·
   intro y0 y1 y2
   unfold checker_natural_gcd.l1
   repeat' first | (with_reducible first | exact ih0 .. | exact ih1 .. | exact ih2 .. | exact ih3 .. | exact ih4 .. | exact ih5 .. | exact checker_natural_add.mono .. | exact checker_natural_compare.mono .. | exact checker_natural_half.mono .. | exact checker_natural_sub.mono .. | exact LeO.refl _ | exact LeO.none _ | refine LeO.ite ?_ ?_ | refine LeO.bind ?_ (fun _ => ?_))
  ·
   intro y0 y1 y2
   unfold checker_natural_gcd.l2
   repeat' first | (with_reducible first | exact ih0 .. | exact ih1 .. | exact ih2 .. | exact ih3 .. | exact ih4 .. | exact ih5 .. | exact checker_natural_add.mono .. | exact checker_natural_compare.mono .. | exact checker_natural_half.mono .. | exact checker_natural_sub.mono .. | exact LeO.refl _ | exact LeO.none _ | refine LeO.ite ?_ ?_ | refine LeO.bind ?_ (fun _ => ?_))
  ·
   intro y0 y1 y2
   unfold checker_natural_gcd.l3
   repeat' first | (with_reducible first | exact ih0 .. | exact ih1 .. | exact ih2 .. | exact ih3 .. | exact ih4 .. | exact ih5 .. | exact checker_natural_add.mono .. | exact checker_natural_compare.mono .. | exact checker_natural_half.mono .. | exact checker_natural_sub.mono .. | exact LeO.refl _ | exact LeO.none _ | refine LeO.ite ?_ ?_ | refine LeO.bind ?_ (fun _ => ?_))
  ·
   intro y0 y1 y2
   unfold checker_natural_gcd.l4
   repeat' first | (with_reducible first | exact ih0 .. | exact ih1 .. | exact ih2 .. | exact ih3 .. | exact ih4 .. | exact ih5 .. | exact checker_natural_add.mono .. | exact checker_natural_compare.mono .. | exact checker_natural_half.mono .. | exact checker_natural_sub.mono .. | exact LeO.refl _ | exact LeO.none _ | refine LeO.ite ?_ ?_ | refine LeO.bind ?_ (fun _ => ?_))
theorem checker_natural_gcd.mono : ∀ a0 a1 k, LeO (checker_natural_gcd.f k a0 a1) (checker_natural_gcd.f (k + 1) a0 a1) := by
 intro a0 a1 k
 obtain ⟨ih0, ih1, ih2, ih3, ih4, ih5⟩ := checker_natural_gcd.mono_l k
 unfold checker_natural_gcd.f
 repeat' first | (with_reducible first | exact ih0 .. | exact ih1 .. | exact ih2 .. | exact ih3 .. | exact ih4 .. | exact ih5 .. | exact checker_natural_add.mono .. | exact checker_natural_compare.mono .. | exact checker_natural_half.mono .. | exact checker_natural_sub.mono .. | exact LeO.refl _ | exact LeO.none _ | refine LeO.ite ?_ ?_ | refine LeO.bind ?_ (fun _ => ?_))
set_option maxHeartbeats 8000000 in
set_option maxRecDepth 100000 in
theorem checker_natural_gcd.calls (k : Nat) (a9 : Nat → Prop) (A0 : Option Addr) (c0 : Nat) (l0 : List Int) (b0 : Nat → Prop) (A1 : Option Addr) (c1 : Nat) (l1 : List Int) (r : List Int) (w : World) (hs0 : Kd.V (Kd.int .u32) 107 w w.heap.size (fun k_ => a9 k_) (.slice A0 l0.length c0) l0) (hs1 : Kd.V (Kd.int .u32) 107 w w.heap.size (fun k_ => b0 k_) (.slice A1 l1.length c1) l1) (h : checker_natural_gcd.f k l0 l1 = some r) :
  Calls Tryz.prog 37 #[.slice A0 l0.length c0, .slice A1 l1.length c1] w fun e w' => ∃ v0_ : Value, e = .returned (v0_) ∧ Kd.V (Kd.int .u32) 107 w' w.heap.size (fun k_ => ((a9 k_ ∨ b0 k_) ∨ w.heap.size ≤ k_)) v0_ r ∧ Below w.heap.size w w' := by
 have j3 := mk0 (show Kd.V (Kd.int .u32) 107 w w.heap.size (fun k_ => ((a9 k_ ∨ b0 k_) ∨ w.heap.size ≤ k_)) (.slice A0 l0.length c0) l0 from Kd.V_mono hs0 (fun k_ hk => .inl (.inl hk)))
 have j4 := mk0 (show Kd.V (Kd.int .u32) 107 w w.heap.size (fun k_ => ((a9 k_ ∨ b0 k_) ∨ w.heap.size ≤ k_)) (.slice A1 l1.length c1) l1 from Kd.V_mono hs1 (fun k_ hk => .inl (.inr hk)))
 have HB := mk0 (Below.refl w.heap.size w)
 have H : (checker_natural_gcd.l0 k l0 l1 0) = some r := h
 clear h
 have H' := mk0 H
 clear H
 go_enter Tryz.func37, Tryz.ntmps37
 go_wp2
 go_loopg [0, 1, 5] k (fun kq v0 v1 v5 w' => ∃ (a7 : List Int) (a8 : List Int) (a6 : Int), v5 = .int .i64 a6 ∧ Aside0 (checker_natural_gcd.l0 kq a7 a8 a6 = some r) ∧ Aside0 (kq ≤ k) ∧ Aside0 (Kd.V (Kd.int .u32) 107 w' w.heap.size (fun k_ => ((a9 k_ ∨ b0 k_) ∨ w.heap.size ≤ k_)) v0 a7) ∧ Aside0 (Kd.V (Kd.int .u32) 107 w' w.heap.size (fun k_ => ((a9 k_ ∨ b0 k_) ∨ w.heap.size ≤ k_)) v1 a8) ∧ Aside0 (Below w.heap.size w w'))
 case atStart => exact ⟨(l0), (l1), (0), (by first | rfl | simp [*]), H', ⟨Nat.le_refl _⟩, ⟨pV j3.out⟩, ⟨pV j4.out⟩, ⟨aB⟩⟩
 case round =>
  clear H'
  try clear c1
  try clear p2
  obtain ⟨a7, a8, a6, rfl, HA, HK1, a3, a2, HB⟩ := hrel
  cases gk with
  | zero => exact absurd HA.out (by simp [checker_natural_gcd.l0])
  | succ k1 =>
   have H := HA.out
   clear HA
   simp only [checker_natural_gcd.l0] at H
   have g6 := mk0 H
   clear H
   go_upto_region 2 with (fail)
   go_cut [13] (fun j5 wc => ∃ (kq : Nat) (b7 : Bool), j5 = .bool b7 ∧ Aside0 (checker_natural_gcd.j1 kq a7 a8 a6 b7 = some r) ∧ Aside0 (kq ≤ k1) ∧ Aside0 (Kd.V (Kd.int .u32) 107 wc w.heap.size (fun k_ => ((a9 k_ ∨ b0 k_) ∨ w.heap.size ≤ k_)) u0 a7) ∧ Aside0 (Kd.V (Kd.int .u32) 107 wc w.heap.size (fun k_ => ((a9 k_ ∨ b0 k_) ∨ w.heap.size ≤ k_)) u1 a8) ∧ Aside0 (Below w.heap.size w wc))
   case first =>
    have H := g6.out
    clear g6
    obtain ⟨e2, A4, H⟩ := bS H
    by_cases c5 : e2 = true
    ·
     subst c5
     have H1 : (checker_natural_gcd.j1 k1 a7 a8 a6 false) = some r := by rw [if_pos rfl] at H; exact H
     clear H
     have H := H1
     clear H1
     have H' := mk0 H
     clear H
     obtain ⟨j6, j7, j8⟩ := Kd.V_slice a3.out
     subst j8
     go_wp2_with (first | (refine gc 66 ?_; refine gl 7 Tryz.func66 #[.slice j6 a7.length j7] ?_; (with_reducible refine (checker_natural_odd.calls _ _ a7 true _ ?side1 ?side2 A4.out).mono ?_); (case side1 => exact pC ((Kd.V_reads' a3.out).2.2)); (case side2 => exact (Kd.V_reads' a3.out).2.1); rintro e w' ⟨rfl, ⟨nd, rfl⟩⟩; refine ⟨_, rfl, ?_⟩))
     go_meet
     case rel => exact ⟨_, (false), (by first | rfl | simp [*]), H', ⟨by have := HK1.out; omega⟩, ⟨pV a3.out⟩, ⟨pV a2.out⟩, ⟨aB⟩⟩
    ·
     replace c5 := Bool.eq_false_iff.mpr c5
     subst c5
     have H1 : ((checker_natural_odd.f a8).bind fun c7 => (checker_natural_gcd.j1 k1 a7 a8 a6 (!c7))) = some r := by rw [if_neg (show ¬ (false = true) by decide)] at H; exact H
     clear H
     have H := H1
     clear H1
     obtain ⟨c7, A7, H⟩ := bS H
     have H' := mk0 H
     clear H
     obtain ⟨j9, k0, k2⟩ := Kd.V_slice a3.out
     subst k2
     go_wp2_with (first | (refine gc 66 ?_; refine gl 7 Tryz.func66 #[.slice j9 a7.length k0] ?_; (with_reducible refine (checker_natural_odd.calls _ _ a7 false _ ?side1 ?side2 A4.out).mono ?_); (case side1 => exact pC ((Kd.V_reads' a3.out).2.2)); (case side2 => exact (Kd.V_reads' a3.out).2.1); rintro e w' ⟨rfl, ⟨nd, rfl⟩⟩; refine ⟨_, rfl, ?_⟩; obtain ⟨m4, m5, k6⟩ := Kd.V_slice a2.out; subst k6) | (go_at_call 66; (with_reducible refine (checker_natural_odd.calls _ _ a8 c7 _ ?side1 ?side2 A7.out).mono ?_); (case side1 => exact pC ((Kd.V_reads' a2.out).2.2)); (case side2 => exact (Kd.V_reads' a2.out).2.1); rintro e w' ⟨rfl, ⟨nd, rfl⟩⟩))
     go_meet
     case rel => exact ⟨_, (!c7), (by first | rfl | simp [*]), H', ⟨by have := HK1.out; omega⟩, ⟨pV a3.out⟩, ⟨pV a2.out⟩, ⟨aB⟩⟩
   case rest =>
    clear g6
    try clear c1
    try clear p2
    try clear c3
    try clear c5
    try clear c6
    try clear p2
    obtain ⟨kq, b7, rfl, HA, HJ2, a3, a2, HB⟩ := hcut
    cases kq with
    | zero => exact absurd HA.out (by simp [checker_natural_gcd.j1])
    | succ kj2 =>
     have H := HA.out
     clear HA
     simp only [checker_natural_gcd.j1] at H
     by_cases d9 : b7 = true
     ·
      subst d9
      have H1 : ((checker_natural_half.f kj2 a7).bind fun c8 => ((checker_natural_half.f kj2 a8).bind fun c9 => (checker_natural_gcd.l0 kj2 c8 c9 (wrap64 (a6 + 1))))) = some r := by rw [if_pos rfl] at H; exact H
      clear H
      have H := H1
      clear H1
      obtain ⟨c8, A11, H⟩ := bS H
      obtain ⟨c9, A12, H⟩ := bS H
      have H' := mk0 H
      clear H
      obtain ⟨g7, g8, g9⟩ := Kd.V_slice a3.out
      subst g9
      go_wp2_with (first | (refine gc 67 ?_; refine gl 15 Tryz.func67 #[.slice g7 a7.length g8] ?_; (with_reducible refine (checker_natural_half.calls kj2 _ _ a7 c8 _ ?side1 ?side2 A11.out).mono ?_); (case side1 => exact pC ((Kd.V_reads' a3.out).2.2)); (case side2 => exact (Kd.V_reads' a3.out).2.1); rintro e m6 ⟨k7, rfl, b2, hb⟩; refine ⟨_, rfl, ?_⟩; replace a3 := uV a3 hb;replace a2 := uV a2 hb;have d6 := lV (ok' := fun k_ => ((a9 k_ ∨ b0 k_) ∨ w.heap.size ≤ k_)) b2;replace HB := uW hb; (try clear hb); (try clear b2); obtain ⟨i1, i2, i3⟩ := Kd.V_slice a2.out; subst i3) | (refine gc 67 ?_; refine gl 17 Tryz.func67 #[.slice i1 a8.length i2] ?_; (with_reducible refine (checker_natural_half.calls kj2 _ _ a8 c9 _ ?side1 ?side2 A12.out).mono ?_); (case side1 => exact pC ((Kd.V_reads' a2.out).2.2)); (case side2 => exact (Kd.V_reads' a2.out).2.1); rintro e m7 ⟨k8, rfl, b2, hb⟩; refine ⟨_, rfl, ?_⟩; replace a3 := uV a3 hb;replace a2 := uV a2 hb;replace d6 := uV d6 hb;have f2 := lV (ok' := fun k_ => ((a9 k_ ∨ b0 k_) ∨ w.heap.size ≤ k_)) b2;replace HB := uW hb; (try clear hb); (try clear b2)))
      go_roundg kj2
      case measure => have := HK1.out; have := HJ2.out; omega
      case rel => exact ⟨(c8), (c9), (wrap64 (a6 + 1)), (by first | rfl | simp [*]), H', ⟨by have := HK1.out; have := HJ2.out; omega⟩, ⟨pV d6.out⟩, ⟨pV f2.out⟩, ⟨aB⟩⟩
     ·
      replace d9 := Bool.eq_false_iff.mpr d9
      subst d9
      have H1 : (checker_natural_gcd.l1 kj2 a7 a8 a6) = some r := by rw [if_neg (show ¬ (false = true) by decide)] at H; exact H
      clear H
      have H := H1
      clear H1
      have H' := mk0 H
      clear H
      go_wp2
      go_loopg [0, 1] kj2 (fun kq v0 v1 w' => ∃ (b4 : List Int) (b5 : List Int), Aside0 (checker_natural_gcd.l1 kq b4 b5 a6 = some r) ∧ Aside0 (kq ≤ kj2) ∧ Aside0 (Kd.V (Kd.int .u32) 107 w' w.heap.size (fun k_ => ((a9 k_ ∨ b0 k_) ∨ w.heap.size ≤ k_)) v0 b4) ∧ Aside0 (Kd.V (Kd.int .u32) 107 w' w.heap.size (fun k_ => ((a9 k_ ∨ b0 k_) ∨ w.heap.size ≤ k_)) v1 b5) ∧ Aside0 (Below w.heap.size w w'))
      case atStart => exact ⟨(a7), (a8), H', ⟨Nat.le_refl _⟩, ⟨pV a3.out⟩, ⟨pV a2.out⟩, ⟨aB⟩⟩
      case round =>
       clear H'
       try clear c1
       try clear p2
       try clear c3
       try clear c5
       try clear c6
       try clear p6
       try clear d9
       try clear p2
       obtain ⟨b4, b5, HA, HK3, a3, a2, HB⟩ := hrel
       cases gk with
       | zero => exact absurd HA.out (by simp [checker_natural_gcd.l1])
       | succ k3 =>
        have H := HA.out
        clear HA
        simp only [checker_natural_gcd.l1] at H
        by_cases d8 : (b4.length : Int) > 0
        ·
         rw [if_pos d8] at H
         have b8 : decide (0 < (b4.length : Int)) = true := decide_eq_true d8
         have b9 : decide (0 < b4.length) = true := decide_eq_true (by omega)
         clear d8
         have H' := mk0 H
         clear H
         obtain ⟨k9, l5, i4⟩ := Kd.V_slice a3.out
         subst i4
         go_wp2
         go_loopg [0] k3 (fun kq v0 w' => ∃ (a4 : List Int), Aside0 (checker_natural_gcd.l2 kq a4 b5 a6 = some r) ∧ Aside0 (kq ≤ k3) ∧ Aside0 (Kd.V (Kd.int .u32) 107 w' w.heap.size (fun k_ => ((a9 k_ ∨ b0 k_) ∨ w.heap.size ≤ k_)) v0 a4) ∧ Aside0 (Kd.V (Kd.int .u32) 107 w' w.heap.size (fun k_ => ((a9 k_ ∨ b0 k_) ∨ w.heap.size ≤ k_)) u1 b5) ∧ Aside0 (Below w.heap.size w w'))
         case atStart => exact ⟨(b4), H', ⟨Nat.le_refl _⟩, ⟨pV a3.out⟩, ⟨pV a2.out⟩, ⟨aB⟩⟩
         case round =>
          clear H'
          try clear c1
          try clear p2
          try clear c3
          try clear c5
          try clear c6
          try clear p6
          try clear d9
          try clear d8
          try clear b8
          try clear b9
          try clear p2
          try clear p6
          obtain ⟨a4, HA, HK4, a3, a2, HB⟩ := hrel
          cases gk with
          | zero => exact absurd HA.out (by simp [checker_natural_gcd.l2])
          | succ k4 =>
           have H := HA.out
           clear HA
           simp only [checker_natural_gcd.l2] at H
           obtain ⟨e3, A19, H⟩ := bS H
           by_cases f0 : e3 = true
           ·
            subst f0
            have H1 : (checker_natural_gcd.l3 k4 a4 b5 a6) = some r := by rw [if_pos rfl] at H; exact H
            clear H
            have H := H1
            clear H1
            have H' := mk0 H
            clear H
            obtain ⟨d4, d5, i5⟩ := Kd.V_slice a3.out
            subst i5
            go_wp2_with (first | (refine gc 66 ?_; refine gl 24 Tryz.func66 #[.slice d4 a4.length d5] ?_; (with_reducible refine (checker_natural_odd.calls _ _ a4 true _ ?side1 ?side2 A19.out).mono ?_); (case side1 => exact pC ((Kd.V_reads' a3.out).2.2)); (case side2 => exact (Kd.V_reads' a3.out).2.1); rintro e w' ⟨rfl, ⟨nd, rfl⟩⟩; refine ⟨_, rfl, ?_⟩))
            go_loopg [1] k4 (fun kq v1 w' => ∃ (a5 : List Int), Aside0 (checker_natural_gcd.l3 kq a4 a5 a6 = some r) ∧ Aside0 (kq ≤ k4) ∧ Aside0 (Kd.V (Kd.int .u32) 107 w' w.heap.size (fun k_ => ((a9 k_ ∨ b0 k_) ∨ w.heap.size ≤ k_)) (.slice d4 a4.length d5) a4) ∧ Aside0 (Kd.V (Kd.int .u32) 107 w' w.heap.size (fun k_ => ((a9 k_ ∨ b0 k_) ∨ w.heap.size ≤ k_)) v1 a5) ∧ Aside0 (Below w.heap.size w w'))
            case atStart => exact ⟨(b5), H', ⟨Nat.le_refl _⟩, ⟨pV a3.out⟩, ⟨pV a2.out⟩, ⟨aB⟩⟩
            case round =>
             clear H'
             try clear c1
             try clear c2
             try clear p2
             try clear c3
             try clear c5
             try clear c6
             try clear p6
             try clear d9
             try clear d8
             try clear b8
             try clear b9
             try clear f0
             try clear p2
             try clear p6
             obtain ⟨a5, HA, HK5, a3, a2, HB⟩ := hrel
             cases gk with
             | zero => exact absurd HA.out (by simp [checker_natural_gcd.l3])
             | succ k5 =>
              have H := HA.out
              clear HA
              simp only [checker_natural_gcd.l3] at H
              obtain ⟨e4, A22, H⟩ := bS H
              by_cases f3 : e4 = true
              ·
               subst f3
               have H1 : ((checker_natural_compare.f k5 a4 a5).bind fun b3 => (if b3 < 0 then ((checker_natural_sub.f k5 a5 a4).bind fun d1 => (checker_natural_gcd.l1 k5 d1 a4 a6)) else ((checker_natural_sub.f k5 a4 a5).bind fun d2 => (checker_natural_gcd.l1 k5 d2 a5 a6)))) = some r := by rw [if_pos rfl] at H; exact H
               clear H
               have H := H1
               clear H1
               obtain ⟨b3, A24, H⟩ := bS H
               by_cases e5 : b3 < 0
               ·
                rw [if_pos e5] at H
                have e1 : decide (b3 < 0) = true := decide_eq_true e5
                clear e5
                obtain ⟨d1, A26, H⟩ := bS H
                have H' := mk0 H
                clear H
                obtain ⟨e6, e7, i6⟩ := Kd.V_slice a2.out
                subst i6
                go_wp2_with (first | (refine gc 66 ?_; refine gl 29 Tryz.func66 #[.slice e6 a5.length e7] ?_; (with_reducible refine (checker_natural_odd.calls _ _ a5 true _ ?side1 ?side2 A22.out).mono ?_); (case side1 => exact pC ((Kd.V_reads' a2.out).2.2)); (case side2 => exact (Kd.V_reads' a2.out).2.1); rintro e w' ⟨rfl, ⟨nd, rfl⟩⟩; refine ⟨_, rfl, ?_⟩) | (refine gc 36 ?_; refine gl 35 Tryz.func36 #[.slice d4 a4.length d5, .slice e6 a5.length e7] ?_; (with_reducible refine (checker_natural_compare.calls k5 _ _ a4 _ _ a5 b3 _ ?side1 ?side2 ?side3 ?side4 A24.out).mono ?_); (case side1 => exact pC ((Kd.V_reads' a3.out).2.2)); (case side2 => exact (Kd.V_reads' a3.out).2.1); (case side3 => exact pC ((Kd.V_reads' a2.out).2.2)); (case side4 => exact (Kd.V_reads' a2.out).2.1); rintro e w' ⟨rfl, ⟨nd, rfl⟩⟩; refine ⟨_, rfl, ?_⟩) | (refine gc 46 ?_; refine gl 41 Tryz.func46 #[.slice e6 a5.length e7, .slice d4 a4.length d5] ?_; (with_reducible refine (checker_natural_sub.calls k5 _ _ a5 _ _ a4 d1 _ ?side1 ?side2 ?side3 ?side4 A26.out).mono ?_); (case side1 => exact pC ((Kd.V_reads' a2.out).2.2)); (case side2 => exact (Kd.V_reads' a2.out).2.1); (case side3 => exact pC ((Kd.V_reads' a3.out).2.2)); (case side4 => exact (Kd.V_reads' a3.out).2.1); rintro e m8 ⟨l6, rfl, b2, hb⟩; refine ⟨_, rfl, ?_⟩; replace a3 := uV a3 hb;replace a2 := uV a2 hb;have f4 := lV (ok' := fun k_ => ((a9 k_ ∨ b0 k_) ∨ w.heap.size ≤ k_)) b2;replace HB := uW hb; (try clear hb); (try clear b2)))
                go_roundg k5
                case measure => have := HK1.out; have := HJ2.out; have := HK3.out; have := HK4.out; have := HK5.out; omega
                case rel => exact ⟨(d1), (a4), H', ⟨by have := HK1.out; have := HJ2.out; have := HK3.out; have := HK4.out; have := HK5.out; omega⟩, ⟨pV f4.out⟩, ⟨pV a3.out⟩, ⟨aB⟩⟩
               ·
                rw [if_neg e5] at H
                have e1 : decide (b3 < 0) = false := decide_eq_false e5
                clear e5
                obtain ⟨d2, A29, H⟩ := bS H
                have H' := mk0 H
                clear H
                obtain ⟨e8, e9, i7⟩ := Kd.V_slice a2.out
                subst i7
                go_wp2_with (first | (refine gc 66 ?_; refine gl 29 Tryz.func66 #[.slice e8 a5.length e9] ?_; (with_reducible refine (checker_natural_odd.calls _ _ a5 true _ ?side1 ?side2 A22.out).mono ?_); (case side1 => exact pC ((Kd.V_reads' a2.out).2.2)); (case side2 => exact (Kd.V_reads' a2.out).2.1); rintro e w' ⟨rfl, ⟨nd, rfl⟩⟩; refine ⟨_, rfl, ?_⟩) | (refine gc 36 ?_; refine gl 35 Tryz.func36 #[.slice d4 a4.length d5, .slice e8 a5.length e9] ?_; (with_reducible refine (checker_natural_compare.calls k5 _ _ a4 _ _ a5 b3 _ ?side1 ?side2 ?side3 ?side4 A24.out).mono ?_); (case side1 => exact pC ((Kd.V_reads' a3.out).2.2)); (case side2 => exact (Kd.V_reads' a3.out).2.1); (case side3 => exact pC ((Kd.V_reads' a2.out).2.2)); (case side4 => exact (Kd.V_reads' a2.out).2.1); rintro e w' ⟨rfl, ⟨nd, rfl⟩⟩; refine ⟨_, rfl, ?_⟩) | (refine gc 46 ?_; refine gl 41 Tryz.func46 #[.slice d4 a4.length d5, .slice e8 a5.length e9] ?_; (with_reducible refine (checker_natural_sub.calls k5 _ _ a4 _ _ a5 d2 _ ?side1 ?side2 ?side3 ?side4 A29.out).mono ?_); (case side1 => exact pC ((Kd.V_reads' a3.out).2.2)); (case side2 => exact (Kd.V_reads' a3.out).2.1); (case side3 => exact pC ((Kd.V_reads' a2.out).2.2)); (case side4 => exact (Kd.V_reads' a2.out).2.1); rintro e m9 ⟨l7, rfl, b2, hb⟩; refine ⟨_, rfl, ?_⟩; replace a3 := uV a3 hb;replace a2 := uV a2 hb;have f5 := lV (ok' := fun k_ => ((a9 k_ ∨ b0 k_) ∨ w.heap.size ≤ k_)) b2;replace HB := uW hb; (try clear hb); (try clear b2)))
                go_roundg k5
                case measure => have := HK1.out; have := HJ2.out; have := HK3.out; have := HK4.out; have := HK5.out; omega
                case rel => exact ⟨(d2), (a5), H', ⟨by have := HK1.out; have := HJ2.out; have := HK3.out; have := HK4.out; have := HK5.out; omega⟩, ⟨pV f5.out⟩, ⟨pV a2.out⟩, ⟨aB⟩⟩
              ·
               replace f3 := Bool.eq_false_iff.mpr f3
               subst f3
               have H1 : ((checker_natural_half.f k5 a5).bind fun d3 => (checker_natural_gcd.l3 k5 a4 d3 a6)) = some r := by rw [if_neg (show ¬ (false = true) by decide)] at H; exact H
               clear H
               have H := H1
               clear H1
               obtain ⟨d3, A32, H⟩ := bS H
               have H' := mk0 H
               clear H
               obtain ⟨f6, f7, i8⟩ := Kd.V_slice a2.out
               subst i8
               go_wp2_with (first | (refine gc 66 ?_; refine gl 29 Tryz.func66 #[.slice f6 a5.length f7] ?_; (with_reducible refine (checker_natural_odd.calls _ _ a5 false _ ?side1 ?side2 A22.out).mono ?_); (case side1 => exact pC ((Kd.V_reads' a2.out).2.2)); (case side2 => exact (Kd.V_reads' a2.out).2.1); rintro e w' ⟨rfl, ⟨nd, rfl⟩⟩; refine ⟨_, rfl, ?_⟩) | (refine gc 67 ?_; refine gl 32 Tryz.func67 #[.slice f6 a5.length f7] ?_; (with_reducible refine (checker_natural_half.calls k5 _ _ a5 d3 _ ?side1 ?side2 A32.out).mono ?_); (case side1 => exact pC ((Kd.V_reads' a2.out).2.2)); (case side2 => exact (Kd.V_reads' a2.out).2.1); rintro e n0 ⟨l8, rfl, b2, hb⟩; refine ⟨_, rfl, ?_⟩; replace a3 := uV a3 hb;replace a2 := uV a2 hb;have f8 := lV (ok' := fun k_ => ((a9 k_ ∨ b0 k_) ∨ w.heap.size ≤ k_)) b2;replace HB := uW hb; (try clear hb); (try clear b2)))
               go_roundg k5
               case measure => have := HK1.out; have := HJ2.out; have := HK3.out; have := HK4.out; have := HK5.out; omega
               case rel => exact ⟨(d3), H', ⟨by have := HK1.out; have := HJ2.out; have := HK3.out; have := HK4.out; have := HK5.out; omega⟩, ⟨pV a3.out⟩, ⟨pV f8.out⟩, ⟨aB⟩⟩
           ·
            replace f0 := Bool.eq_false_iff.mpr f0
            subst f0
            have H1 : ((checker_natural_half.f k4 a4).bind fun d0 => (checker_natural_gcd.l2 k4 d0 b5 a6)) = some r := by rw [if_neg (show ¬ (false = true) by decide)] at H; exact H
            clear H
            have H := H1
            clear H1
            obtain ⟨d0, A35, H⟩ := bS H
            have H' := mk0 H
            clear H
            obtain ⟨f9, g0, i9⟩ := Kd.V_slice a3.out
            subst i9
            go_wp2_with (first | (refine gc 66 ?_; refine gl 24 Tryz.func66 #[.slice f9 a4.length g0] ?_; (with_reducible refine (checker_natural_odd.calls _ _ a4 false _ ?side1 ?side2 A19.out).mono ?_); (case side1 => exact pC ((Kd.V_reads' a3.out).2.2)); (case side2 => exact (Kd.V_reads' a3.out).2.1); rintro e w' ⟨rfl, ⟨nd, rfl⟩⟩; refine ⟨_, rfl, ?_⟩) | (refine gc 67 ?_; refine gl 27 Tryz.func67 #[.slice f9 a4.length g0] ?_; (with_reducible refine (checker_natural_half.calls k4 _ _ a4 d0 _ ?side1 ?side2 A35.out).mono ?_); (case side1 => exact pC ((Kd.V_reads' a3.out).2.2)); (case side2 => exact (Kd.V_reads' a3.out).2.1); rintro e n1 ⟨l9, rfl, b2, hb⟩; refine ⟨_, rfl, ?_⟩; replace a3 := uV a3 hb;replace a2 := uV a2 hb;have g1 := lV (ok' := fun k_ => ((a9 k_ ∨ b0 k_) ∨ w.heap.size ≤ k_)) b2;replace HB := uW hb; (try clear hb); (try clear b2)))
            go_roundg k4
            case measure => have := HK1.out; have := HJ2.out; have := HK3.out; have := HK4.out; omega
            case rel => exact ⟨(d0), H', ⟨by have := HK1.out; have := HJ2.out; have := HK3.out; have := HK4.out; omega⟩, ⟨pV g1.out⟩, ⟨pV a2.out⟩, ⟨aB⟩⟩
        ·
         rw [if_neg d8] at H
         have b8 : decide (0 < (b4.length : Int)) = false := decide_eq_false d8
         have b9 : decide (0 < b4.length) = false := decide_eq_false (by omega)
         clear d8
         have H' := mk0 H
         clear H
         obtain ⟨m0, m1, j0⟩ := Kd.V_slice a3.out
         subst j0
         go_wp2
         go_loopg [1, 43] k3 (fun kq v1 m2 w' => ∃ (b6 : List Int) (b1 : Int), m2 = .int .i64 b1 ∧ Aside0 (checker_natural_gcd.l4 kq b6 a6 b1 = some r) ∧ Aside0 (kq ≤ k3) ∧ Aside0 (Kd.V (Kd.int .u32) 107 w' w.heap.size (fun k_ => ((a9 k_ ∨ b0 k_) ∨ w.heap.size ≤ k_)) v1 b6) ∧ Aside0 (Below w.heap.size w w'))
         case atStart => exact ⟨(b5), (0), (by first | rfl | simp [*]), H', ⟨Nat.le_refl _⟩, ⟨pV a2.out⟩, ⟨aB⟩⟩
         case round =>
          clear H'
          try clear c1
          try clear c2
          try clear p2
          try clear c3
          try clear c4
          try clear c5
          try clear c6
          try clear p6
          try clear d9
          try clear d8
          try clear b8
          try clear b9
          try clear f0
          try clear f3
          try clear e5
          try clear e1
          try clear n2
          try clear n3
          try clear p2
          try clear p6
          obtain ⟨b6, b1, rfl, HA, HK4, a2, HB⟩ := hrel
          cases gk with
          | zero => exact absurd HA.out (by simp [checker_natural_gcd.l4])
          | succ k4 =>
           have H := HA.out
           clear HA
           simp only [checker_natural_gcd.l4] at H
           by_cases f1 : b1 < a6
           ·
            rw [if_pos f1] at H
            have g2 : decide (b1 < a6) = true := decide_eq_true f1
            clear f1
            obtain ⟨d7, A40, H⟩ := bS H
            have H' := mk0 H
            clear H
            obtain ⟨g3, g4, j2⟩ := Kd.V_slice a2.out
            subst j2
            go_wp2_with (first | (refine gc 45 ?_; refine gl 47 Tryz.func45 #[.slice g3 b6.length g4, .slice g3 b6.length g4] ?_; (with_reducible refine (checker_natural_add.calls k4 (fun k_ => ((a9 k_ ∨ b0 k_) ∨ w.heap.size ≤ k_)) _ _ b6 (fun k_ => ((a9 k_ ∨ b0 k_) ∨ w.heap.size ≤ k_)) _ _ b6 d7 _ ?side1 ?side2 A40.out).mono ?_); (case side1 => exact Kd.V_mono (Go.Proofs.YtbgmfgndldnmcaaGreatDoorMyWords.V_base (a2.out)) (fun k_ hk => by first | exact hk | (simp only [hk, ne_eq, not_false_eq_true, and_self]; done))); (case side2 => exact Kd.V_mono (Go.Proofs.YtbgmfgndldnmcaaGreatDoorMyWords.V_base (a2.out)) (fun k_ hk => by first | exact hk | (simp only [hk, ne_eq, not_false_eq_true, and_self]; done))); rintro e n4 ⟨m3, rfl, b2, hb⟩; refine ⟨_, rfl, ?_⟩; replace a2 := uV a2 hb;have g5 := lV (ok' := fun k_ => ((a9 k_ ∨ b0 k_) ∨ w.heap.size ≤ k_)) b2;replace HB := uW hb; (try clear hb); (try clear b2)))
            go_roundg k4
            case measure => have := HK1.out; have := HJ2.out; have := HK3.out; have := HK4.out; omega
            case rel => exact ⟨(d7), (wrap64 (b1 + 1)), (by first | rfl | simp [*]), H', ⟨by have := HK1.out; have := HJ2.out; have := HK3.out; have := HK4.out; omega⟩, ⟨pV g5.out⟩, ⟨aB⟩⟩
           ·
            rw [if_neg f1] at H
            have g2 : decide (b1 < a6) = false := decide_eq_false f1
            clear f1
            obtain rfl := Option.some.inj H
            go_wp2
            go_ret
            exact ⟨_, by first | rfl | (simp [*] <;> rfl), pV a2.out, aB⟩
def checker_read.j0 : Nat → Bool → ByteArray → Bool → List Int → Bool → Option (Bool × List Int × List Int × Bool)
 | 0, _, _, _, _, _ => none
 | k + 1, x5, x7, x8, x9, x37 => if x37 = true then (some (false, ([] : List Int), ([] : List Int), false)) else (if x8 = true then ((checker_digits.f k x7).bind fun b1 => (if b1.2 = true then ((checker_natural_compare.f k b1.1 (([1] : List Int))).bind fun b8 => (if b8 ≤ 0 then (some (false, ([] : List Int), ([] : List Int), false)) else (if (x9.length : Int) = 0 then (some (false, ([] : List Int), ([] : List Int), false)) else ((checker_natural_gcd.f k x9 b1.1).bind fun b4 => ((checker_natural_compare.f k b4 (([1] : List Int))).bind fun b5 => (if b5 = 0 then (some (x5, x9, b1.1, true)) else (some (false, ([] : List Int), ([] : List Int), false)))))))) else (some (false, ([] : List Int), ([] : List Int), false)))) else (some (x5, x9, (([1] : List Int)), true)))
def checker_read.f (k : Nat) (a0 : ByteArray) : Option (Bool × List Int × List Int × Bool) := (strings_CutPrefix.f a0 (⟨#[45]⟩ : ByteArray)).bind fun c4 => ((strings_Cut.f c4.1 (⟨#[47]⟩ : ByteArray)).bind fun b3 => ((checker_digits.f k b3.1).bind fun c5 => (if c5.2 = true then (if c4.2 = true then (checker_read.j0 k c4.2 b3.2.1 b3.2.2 c5.1 ((c5.1.length : Int) == 0)) else (checker_read.j0 k c4.2 b3.2.1 b3.2.2 c5.1 false)) else (checker_read.j0 k c4.2 b3.2.1 b3.2.2 c5.1 true))))
theorem checker_read.mono_l : ∀ k, (∀ y0 y1 y2 y3 y4, LeO (checker_read.j0 k y0 y1 y2 y3 y4) (checker_read.j0 (k + 1) y0 y1 y2 y3 y4))
 | 0 => fun _ _ _ _ _ r h => by simp [checker_read.j0] at h
 | k + 1 => by
  have ih0 := checker_read.mono_l k
  ·
   intro y0 y1 y2 y3 y4
   unfold checker_read.j0
   repeat' first | (with_reducible first | exact ih0 .. | exact checker_digits.mono .. | exact checker_natural_compare.mono .. | exact checker_natural_gcd.mono .. | exact LeO.refl _ | exact LeO.none _ | refine LeO.ite ?_ ?_ | refine LeO.bind ?_ (fun _ => ?_))
theorem checker_read.mono : ∀ a0 k, LeO (checker_read.f k a0) (checker_read.f (k + 1) a0) := by
 intro a0 k
 have ih0 := checker_read.mono_l k
 unfold checker_read.f
 repeat' first | (with_reducible first | exact ih0 .. | exact checker_digits.mono .. | exact checker_natural_compare.mono .. | exact checker_natural_gcd.mono .. | exact LeO.refl _ | exact LeO.none _ | refine LeO.ite ?_ ?_ | refine LeO.bind ?_ (fun _ => ?_))
set_option maxHeartbeats 8000000 in
set_option maxRecDepth 100000 in
theorem checker_read.calls (k : Nat) (a0 : ByteArray) (r1 : Bool) (r2 : List Int) (r3 : List Int) (r4 : Bool) (w : World) (h : checker_read.f k a0 = some (r1, r2, r3, r4)) :
  Calls Tryz.prog 17 #[.string a0] w fun e w' => ∃ v1_ v2_ : Value, e = .returned (.tuple #[.agg #[.bool r1, v1_, v2_], .bool r4]) ∧ Kd.V (Kd.int .u32) 107 w' w.heap.size (fun k_ => (w.heap.size ≤ k_)) v1_ r2 ∧ Kd.V (Kd.int .u32) 107 w' w.heap.size (fun k_ => (w.heap.size ≤ k_)) v2_ r3 ∧ Below w.heap.size w w' := by
 have hu61 := Tryz.underlying61
 have HB := mk0 (Below.refl w.heap.size w)
 have H : ((strings_CutPrefix.f a0 (⟨#[45]⟩ : ByteArray)).bind fun c4 => ((strings_Cut.f c4.1 (⟨#[47]⟩ : ByteArray)).bind fun b3 => ((checker_digits.f k b3.1).bind fun c5 => (if c5.2 = true then (if c4.2 = true then (checker_read.j0 k c4.2 b3.2.1 b3.2.2 c5.1 ((c5.1.length : Int) == 0)) else (checker_read.j0 k c4.2 b3.2.1 b3.2.2 c5.1 false)) else (checker_read.j0 k c4.2 b3.2.1 b3.2.2 c5.1 true))))) = some (r1, r2, r3, r4) := h
 clear h
 obtain ⟨⟨i5, b9⟩, A2, H⟩ := bS H
 (try dsimp only at H)
 obtain ⟨⟨i6, b6, d4⟩, A3, H⟩ := bS H
 (try dsimp only at H)
 obtain ⟨⟨a7, j3⟩, A4, H⟩ := bS H
 (try dsimp only at H)
 have p6 := mk0 H
 clear H
 go_enter Tryz.func17, Tryz.ntmps17
 go_upto_region 4 with (first | (refine gd 2 ?_; (try (refine gate_guard (by rfl) ?_; dsimp only)); refine box_event ?hg (N := 2) ?hd (cs := #[.bool false, .slice none 0 0, .slice none 0 0]) (t := 61) ?hr ?_; (case hd => rfl); (case hg => rfl); (case hr => exact aH); intro a2 hg w6 hbox hb; have a1 := mk0 (hbox);have t8 := uG hg;have t9 := uG hg;replace HB := uW hb; clear hb hbox hg) | (refine gc 33 ?_; refine gl 14 Tryz.func33 #[.string a0, .string (⟨#[45]⟩ : ByteArray)] ?_; (with_reducible refine (strings_CutPrefix.calls a0 (⟨#[45]⟩ : ByteArray) i5 b9 _ A2.out).mono ?_); rintro e w' ⟨rfl, ⟨nd, rfl⟩⟩; refine ⟨_, rfl, ?_⟩) | (refine gc 34 ?_; refine gl 19 Tryz.func34 #[.string i5, .string (⟨#[47]⟩ : ByteArray)] ?_; (with_reducible refine (strings_Cut.calls i5 (⟨#[47]⟩ : ByteArray) i6 b6 d4 _ A3.out).mono ?_); rintro e w' ⟨rfl, ⟨nd, rfl⟩⟩; refine ⟨_, rfl, ?_⟩) | (refine gc 35 ?_; refine gl 25 Tryz.func35 #[.string i6] ?_; (with_reducible refine (checker_digits.calls k i6 a7 j3 _ A4.out).mono ?_); rintro e w7 ⟨f9, rfl, d3, hb⟩; refine ⟨_, rfl, ?_⟩; have e5 := lV (ok' := fun k_ => (w.heap.size ≤ k_) ∧ k_ ≠ a2) d3;replace a1 := uB a1 hb;replace HB := uW hb; (try clear hb); (try clear d3)))
 (try simp only [Act.put, List.setIfInBounds_toArray, List.set_cons_zero, List.set_cons_succ])
 go_cut [37] (fun u2 wc => ∃ (kq : Nat) (e6 : Bool), u2 = .bool e6 ∧ Aside0 (checker_read.j0 kq b9 b6 d4 a7 e6 = some (r1, r2, r3, r4)) ∧ Aside0 (kq ≤ k) ∧ Aside0 (Kd.V (Kd.int .u32) 107 wc w.heap.size (fun k_ => (w.heap.size ≤ k_) ∧ k_ ≠ a2) f9 a7) ∧ Aside0 (wc.heap[a2]? = some (.cells #[.bool false, (.slice none 0 0), (.slice none 0 0)] 61 (0, 0))) ∧ Aside0 (Below w.heap.size w wc))
 case first =>
  have H := p6.out
  clear p6
  by_cases c8 : j3 = true
  ·
   subst c8
   have H1 : (if b9 = true then (checker_read.j0 k b9 b6 d4 a7 ((a7.length : Int) == 0)) else (checker_read.j0 k b9 b6 d4 a7 false)) = some (r1, r2, r3, r4) := by rw [if_pos rfl] at H; exact H
   clear H
   have H := H1
   clear H1
   by_cases c9 : b9 = true
   ·
    subst c9
    have H1 : (checker_read.j0 k true b6 d4 a7 ((a7.length : Int) == 0)) = some (r1, r2, r3, r4) := by rw [if_pos rfl] at H; exact H
    clear H
    have H := H1
    clear H1
    have H' := mk0 H
    clear H
    obtain ⟨u3, u4, p7⟩ := Kd.V_slice e5.out
    subst p7
    go_wp2
    go_meet
    case rel => exact ⟨_, (((a7.length : Int) == 0)), (by first | rfl | simp [*]), H', ⟨by omega⟩, ⟨pV e5.out⟩, ⟨pB a1.out⟩, ⟨aB⟩⟩
   ·
    replace c9 := Bool.eq_false_iff.mpr c9
    subst c9
    have H1 : (checker_read.j0 k false b6 d4 a7 false) = some (r1, r2, r3, r4) := by rw [if_neg (show ¬ (false = true) by decide)] at H; exact H
    clear H
    have H := H1
    clear H1
    have H' := mk0 H
    clear H
    go_wp2
    go_meet
    case rel => exact ⟨_, (false), (by first | rfl | simp [*]), H', ⟨by omega⟩, ⟨pV e5.out⟩, ⟨pB a1.out⟩, ⟨aB⟩⟩
  ·
   replace c8 := Bool.eq_false_iff.mpr c8
   subst c8
   have H1 : (checker_read.j0 k b9 b6 d4 a7 true) = some (r1, r2, r3, r4) := by rw [if_neg (show ¬ (false = true) by decide)] at H; exact H
   clear H
   have H := H1
   clear H1
   have H' := mk0 H
   clear H
   go_wp2
   go_meet
   case rel => exact ⟨_, (true), (by first | rfl | simp [*]), H', ⟨by omega⟩, ⟨pV e5.out⟩, ⟨pB a1.out⟩, ⟨aB⟩⟩
 case rest =>
  clear p6
  try clear c1
  try clear p2
  try clear c3
  try clear c8
  try clear c9
  obtain ⟨kq, e6, rfl, HA, HJ4, a6, a1, HB⟩ := hcut
  cases kq with
  | zero => exact absurd HA.out (by simp [checker_read.j0])
  | succ kj4 =>
   have H := HA.out
   clear HA
   simp only [checker_read.j0] at H
   by_cases k9 : e6 = true
   ·
    subst k9
    have H1 : (some (false, ([] : List Int), ([] : List Int), false)) = some (r1, r2, r3, r4) := by rw [if_pos rfl] at H; exact H
    clear H
    have H := H1
    clear H1
    simp only [Option.some.injEq, Prod.mk.injEq] at H
    obtain ⟨rfl, rfl, rfl, rfl⟩ := H
    have l0 := cZ a1 0
    have l1 := cZ a1 1
    have l2 := cZ a1 2
    have l3 := blk_frozen a1.out 0
    have l4 := blk_frozen a1.out 1
    have l5 := blk_frozen a1.out 2
    go_wp2
    refine bodyPost_ret (results_ct rfl _ _ a2 61 #[.bool false, .slice none 0 0, .slice none 0 0] (0, 0) _ rfl sB Tryz.underlying61 rfl (by kernel_rfl)) rfl ?_
    exact ⟨_, _, by first | rfl | (simp [*] <;> rfl), Kd.V_nil _ _ _ _ _, Kd.V_nil _ _ _ _ _, aB⟩
   ·
    replace k9 := Bool.eq_false_iff.mpr k9
    subst k9
    have H1 : (if d4 = true then ((checker_digits.f kj4 b6).bind fun b1 => (if b1.2 = true then ((checker_natural_compare.f kj4 b1.1 (([1] : List Int))).bind fun b8 => (if b8 ≤ 0 then (some (false, ([] : List Int), ([] : List Int), false)) else (if (a7.length : Int) = 0 then (some (false, ([] : List Int), ([] : List Int), false)) else ((checker_natural_gcd.f kj4 a7 b1.1).bind fun b4 => ((checker_natural_compare.f kj4 b4 (([1] : List Int))).bind fun b5 => (if b5 = 0 then (some (b9, a7, b1.1, true)) else (some (false, ([] : List Int), ([] : List Int), false)))))))) else (some (false, ([] : List Int), ([] : List Int), false)))) else (some (b9, a7, (([1] : List Int)), true))) = some (r1, r2, r3, r4) := by rw [if_neg (show ¬ (false = true) by decide)] at H; exact H
    clear H
    have H := H1
    clear H1
    obtain ⟨d5, hy231⟩ : ∃ y_ : List Int, y_ = (([1] : List Int)) := ⟨_, rfl⟩
    replace H : (if d4 = true then ((checker_digits.f kj4 b6).bind fun b1 => (if b1.2 = true then ((checker_natural_compare.f kj4 b1.1 (([1] : List Int))).bind fun b8 => (if b8 ≤ 0 then (some (false, ([] : List Int), ([] : List Int), false)) else (if (a7.length : Int) = 0 then (some (false, ([] : List Int), ([] : List Int), false)) else ((checker_natural_gcd.f kj4 a7 b1.1).bind fun b4 => ((checker_natural_compare.f kj4 b4 (([1] : List Int))).bind fun b5 => (if b5 = 0 then (some (b9, a7, b1.1, true)) else (some (false, ([] : List Int), ([] : List Int), false)))))))) else (some (false, ([] : List Int), ([] : List Int), false)))) else (some (b9, a7, d5, true))) = some (r1, r2, r3, r4) := by first | (rw [hy231]; exact H) | (rw [hy231]; exact (Option.bind_some _ _).symm.trans H) | exact (Option.bind_some _ _).symm.trans H
    have Ny231 := mk0 hy231
    clear hy231
    by_cases l6 : d4 = true
    ·
     subst l6
     have H1 : ((checker_digits.f kj4 b6).bind fun b1 => (if b1.2 = true then ((checker_natural_compare.f kj4 b1.1 (([1] : List Int))).bind fun b8 => (if b8 ≤ 0 then (some (false, ([] : List Int), ([] : List Int), false)) else (if (a7.length : Int) = 0 then (some (false, ([] : List Int), ([] : List Int), false)) else ((checker_natural_gcd.f kj4 a7 b1.1).bind fun b4 => ((checker_natural_compare.f kj4 b4 (([1] : List Int))).bind fun b5 => (if b5 = 0 then (some (b9, a7, b1.1, true)) else (some (false, ([] : List Int), ([] : List Int), false)))))))) else (some (false, ([] : List Int), ([] : List Int), false)))) = some (r1, r2, r3, r4) := by rw [if_pos rfl] at H; exact H
     clear H
     have H := H1
     clear H1
     obtain ⟨⟨b0, p8⟩, A14, H⟩ := bS H
     (try dsimp only at H)
     by_cases l7 : p8 = true
     ·
      subst l7
      have H1 : ((checker_natural_compare.f kj4 b0 (([1] : List Int))).bind fun b8 => (if b8 ≤ 0 then (some (false, ([] : List Int), ([] : List Int), false)) else (if (a7.length : Int) = 0 then (some (false, ([] : List Int), ([] : List Int), false)) else ((checker_natural_gcd.f kj4 a7 b0).bind fun b4 => ((checker_natural_compare.f kj4 b4 (([1] : List Int))).bind fun b5 => (if b5 = 0 then (some (b9, a7, b0, true)) else (some (false, ([] : List Int), ([] : List Int), false)))))))) = some (r1, r2, r3, r4) := by rw [if_pos rfl] at H; exact H
      clear H
      have H := H1
      clear H1
      obtain ⟨a8, hy238⟩ : ∃ y_ : List Int, y_ = (([1] : List Int)) := ⟨_, rfl⟩
      replace H : ((checker_natural_compare.f kj4 b0 a8).bind fun b8 => (if b8 ≤ 0 then (some (false, ([] : List Int), ([] : List Int), false)) else (if (a7.length : Int) = 0 then (some (false, ([] : List Int), ([] : List Int), false)) else ((checker_natural_gcd.f kj4 a7 b0).bind fun b4 => ((checker_natural_compare.f kj4 b4 (([1] : List Int))).bind fun b5 => (if b5 = 0 then (some (b9, a7, b0, true)) else (some (false, ([] : List Int), ([] : List Int), false)))))))) = some (r1, r2, r3, r4) := by first | (rw [hy238]; exact H) | (rw [hy238]; exact (Option.bind_some _ _).symm.trans H) | exact (Option.bind_some _ _).symm.trans H
      have Ny238 := mk0 hy238
      clear hy238
      obtain ⟨b8, A16, H⟩ := bS H
      by_cases j2 : b8 ≤ 0
      ·
       rw [if_pos j2] at H
       have j4 : decide (b8 ≤ 0) = true := decide_eq_true j2
       clear j2
       simp only [Option.some.injEq, Prod.mk.injEq] at H
       obtain ⟨rfl, rfl, rfl, rfl⟩ := H
       go_wp2_with (first | (refine gd 39 ?_; (try (refine gate_guard (by rfl) ?_; dsimp only)); refine Kd.R_lit (Kd.int .u32) _ 107 ?hg (N := 39) ?hd (xs := ([1] : List Int)) (inner := [.int .u32 1]) (ok := fun _ => True) (okp := fun _ => True) ?hr ?hp (fun _ hk => hk) trivial (Below.refl _ _) (Nat.le_refl _) (by simp) ?_; (case hd => rfl); (case hg => rfl); (case hr => exact aH); (case hp => exact (Reps.one (show Kd.M (Kd.int .u32) _ _ _ 1 [.int .u32 1] from rfl) (Reps.none _ _))); intro a9 u7 g0 hb hg_ hnew_; clear hg_ hnew_; rw [← Ny231.out] at g0; replace a6 := dV a6 (Kd.R_base g0) hb;have a3 := mk0 (Kd.R_lower (Kd.R_newM (M := fun k_ => (w.heap.size ≤ k_)) g0 (below_size (aB)) (fun k_ h_ => h_)) (below_size (aB)));replace a1 := uB a1 hb;replace HB := uW hb; clear hb g0) | (refine gc 35 ?_; refine gl 43 Tryz.func35 #[.string b6] ?_; (with_reducible refine (checker_digits.calls kj4 b6 b0 true _ A14.out).mono ?_); rintro e u9 ⟨g1, rfl, d3, hb⟩; refine ⟨_, rfl, ?_⟩; replace a6 := uV a6 hb;have a4 := lV (ok' := fun k_ => (w.heap.size ≤ k_) ∧ some k_ ≠ (a9 : Value).ownBlock ∧ k_ ≠ a2) d3;replace a3 := uR a3 hb;replace a1 := uB a1 hb;replace HB := uW hb; (try clear hb); (try clear d3)) | (refine gd 50 ?_; (try (refine gate_guard (by rfl) ?_; dsimp only)); refine Kd.R_lit (Kd.int .u32) _ 107 ?hg (N := 50) ?hd (xs := ([1] : List Int)) (inner := [.int .u32 1]) (ok := fun _ => True) (okp := fun _ => True) ?hr ?hp (fun _ hk => hk) trivial (Below.refl _ _) (Nat.le_refl _) (by simp) ?_; (case hd => rfl); (case hg => rfl); (case hr => exact aH); (case hp => exact (Reps.one (show Kd.M (Kd.int .u32) _ _ _ 1 [.int .u32 1] from rfl) (Reps.none _ _))); intro i7 f7 e9 hb hg_ hnew_; clear hg_ hnew_; rw [← Ny238.out] at e9; replace a6 := dV a6 (Kd.R_base e9) hb;replace a4 := dV a4 (Kd.R_base e9) hb;have a5 := mk0 (Kd.R_lower (Kd.R_new' (Kd.R_newM (M := fun k_ => (w.heap.size ≤ k_)) e9 (below_size (aB)) (fun k_ h_ => h_)) (Kd.R_lt (pR a3.out))) (below_size (aB)));replace a3 := dR a3 (Kd.R_base e9) hb;replace a1 := uB a1 hb;replace HB := uW hb; clear hb e9; obtain ⟨p9, q0, q1⟩ := Kd.V_slice a4.out; subst q1; obtain ⟨g2, g3, q2⟩ := Kd.R_slice a5.out; subst q2) | (go_at_call 36; (with_reducible refine (checker_natural_compare.calls kj4 _ _ b0 _ _ a8 b8 _ ?side1 ?side2 ?side3 ?side4 A16.out).mono ?_); (case side1 => exact pC ((Kd.V_reads' a4.out).2.2)); (case side2 => exact (Kd.V_reads' a4.out).2.1); (case side3 => exact pC ((Kd.R_reads' a5.out).2.2)); (case side4 => exact (Kd.R_reads' a5.out).2.1); rintro e w' ⟨rfl, ⟨nd, rfl⟩⟩; (try (rw [drewN_self f7]; generalize hq_ : World.drewN f7 _ = f7; have d6 : Aside0 (Kd.R (Kd.int .u32) 107 f7 w.heap.size (fun k_ => (w.heap.size ≤ k_) ∧ some k_ ≠ (.slice g2 a8.length g3 : Value).ownBlock) a9 d5) := ⟨by rw [← hq_]; exact (sR a3.out)⟩; have d7 : Aside0 (Kd.V (Kd.int .u32) 107 f7 w.heap.size (fun k_ => (w.heap.size ≤ k_) ∧ some k_ ≠ (a9 : Value).ownBlock ∧ some k_ ≠ (.slice g2 a8.length g3 : Value).ownBlock ∧ k_ ≠ a2) (.slice p9 b0.length q0) b0) := ⟨by rw [← hq_]; exact (sV a4.out)⟩; have d8 : Aside0 (Kd.R (Kd.int .u32) 107 f7 w.heap.size (fun k_ => (w.heap.size ≤ k_) ∧ some k_ ≠ (a9 : Value).ownBlock) (.slice g2 a8.length g3) a8) := ⟨by rw [← hq_]; exact (sR a5.out)⟩; have d9 : Aside0 (Kd.V (Kd.int .u32) 107 f7 w.heap.size (fun k_ => (w.heap.size ≤ k_) ∧ some k_ ≠ (a9 : Value).ownBlock ∧ some k_ ≠ (.slice g2 a8.length g3 : Value).ownBlock ∧ k_ ≠ a2) f9 a7) := ⟨by rw [← hq_]; exact (sV a6.out)⟩; have e1 : Aside0 (f7.heap[a2]? = some (.cells #[.bool false, .slice none 0 0, .slice none 0 0] 61 (0, 0))) := ⟨by rw [← hq_]; exact (pB a1.out)⟩; have e2 : Aside0 (Below w.heap.size w f7) := ⟨by rw [← hq_]; exact (aB)⟩; clear a3 a4 a5 a6 a1 HB hq_; have a3 := d6; have a4 := d7; have a5 := d8; have a6 := d9; have a1 := e1; have HB := e2; clear d6 d7 d8 d9 e1 e2)); have l8 : f7.cell? ⟨a2, 0, none⟩ = some (.bool false) := (blk_cell a1.out 0).trans rfl; have l9 : f7.cell? ⟨a2, 1, none⟩ = some (.slice none 0 0) := (blk_cell a1.out 1).trans rfl; have m0 : f7.cell? ⟨a2, 2, none⟩ = some (.slice none 0 0) := (blk_cell a1.out 2).trans rfl; have m1 := blk_frozen a1.out 0; have m2 := blk_frozen a1.out 1; have m3 := blk_frozen a1.out 2))
       refine bodyPost_ret (results_ct rfl _ _ a2 61 #[.bool false, .slice none 0 0, .slice none 0 0] (0, 0) _ rfl sB Tryz.underlying61 rfl (by kernel_rfl)) rfl ?_
       exact ⟨_, _, by first | rfl | (simp [*] <;> rfl), Kd.V_nil _ _ _ _ _, Kd.V_nil _ _ _ _ _, aB⟩
      ·
       rw [if_neg j2] at H
       have j4 : decide (b8 ≤ 0) = false := decide_eq_false j2
       clear j2
       by_cases i4 : (a7.length : Int) = 0
       ·
        rw [if_pos i4] at H
        have j5 : ((a7.length : Int) == 0) = true := beq_iff_eq.mpr i4
        have j6 : ((a7.length : Int) != 0) = false := bne_eq_false_iff_eq.mpr i4
        clear i4
        simp only [Option.some.injEq, Prod.mk.injEq] at H
        obtain ⟨rfl, rfl, rfl, rfl⟩ := H
        go_wp2_with (first | (refine gd 39 ?_; (try (refine gate_guard (by rfl) ?_; dsimp only)); refine Kd.R_lit (Kd.int .u32) _ 107 ?hg (N := 39) ?hd (xs := ([1] : List Int)) (inner := [.int .u32 1]) (ok := fun _ => True) (okp := fun _ => True) ?hr ?hp (fun _ hk => hk) trivial (Below.refl _ _) (Nat.le_refl _) (by simp) ?_; (case hd => rfl); (case hg => rfl); (case hr => exact aH); (case hp => exact (Reps.one (show Kd.M (Kd.int .u32) _ _ _ 1 [.int .u32 1] from rfl) (Reps.none _ _))); intro a9 v0 g4 hb hg_ hnew_; clear hg_ hnew_; rw [← Ny231.out] at g4; replace a6 := dV a6 (Kd.R_base g4) hb;have a3 := mk0 (Kd.R_lower (Kd.R_newM (M := fun k_ => (w.heap.size ≤ k_)) g4 (below_size (aB)) (fun k_ h_ => h_)) (below_size (aB)));replace a1 := uB a1 hb;replace HB := uW hb; clear hb g4) | (refine gc 35 ?_; refine gl 43 Tryz.func35 #[.string b6] ?_; (with_reducible refine (checker_digits.calls kj4 b6 b0 true _ A14.out).mono ?_); rintro e v2 ⟨g1, rfl, d3, hb⟩; refine ⟨_, rfl, ?_⟩; replace a6 := uV a6 hb;have a4 := lV (ok' := fun k_ => (w.heap.size ≤ k_) ∧ some k_ ≠ (a9 : Value).ownBlock ∧ k_ ≠ a2) d3;replace a3 := uR a3 hb;replace a1 := uB a1 hb;replace HB := uW hb; (try clear hb); (try clear d3)) | (refine gd 50 ?_; (try (refine gate_guard (by rfl) ?_; dsimp only)); refine Kd.R_lit (Kd.int .u32) _ 107 ?hg (N := 50) ?hd (xs := ([1] : List Int)) (inner := [.int .u32 1]) (ok := fun _ => True) (okp := fun _ => True) ?hr ?hp (fun _ hk => hk) trivial (Below.refl _ _) (Nat.le_refl _) (by simp) ?_; (case hd => rfl); (case hg => rfl); (case hr => exact aH); (case hp => exact (Reps.one (show Kd.M (Kd.int .u32) _ _ _ 1 [.int .u32 1] from rfl) (Reps.none _ _))); intro i7 f8 f0 hb hg_ hnew_; clear hg_ hnew_; rw [← Ny238.out] at f0; replace a6 := dV a6 (Kd.R_base f0) hb;replace a4 := dV a4 (Kd.R_base f0) hb;have a5 := mk0 (Kd.R_lower (Kd.R_new' (Kd.R_newM (M := fun k_ => (w.heap.size ≤ k_)) f0 (below_size (aB)) (fun k_ h_ => h_)) (Kd.R_lt (pR a3.out))) (below_size (aB)));replace a3 := dR a3 (Kd.R_base f0) hb;replace a1 := uB a1 hb;replace HB := uW hb; clear hb f0; obtain ⟨q3, q4, q5⟩ := Kd.V_slice a4.out; subst q5; obtain ⟨g5, g6, q6⟩ := Kd.R_slice a5.out; subst q6) | (go_at_call 36; (with_reducible refine (checker_natural_compare.calls kj4 _ _ b0 _ _ a8 b8 _ ?side1 ?side2 ?side3 ?side4 A16.out).mono ?_); (case side1 => exact pC ((Kd.V_reads' a4.out).2.2)); (case side2 => exact (Kd.V_reads' a4.out).2.1); (case side3 => exact pC ((Kd.R_reads' a5.out).2.2)); (case side4 => exact (Kd.R_reads' a5.out).2.1); rintro e w' ⟨rfl, ⟨nd, rfl⟩⟩; (try (rw [drewN_self f8]; generalize hq_ : World.drewN f8 _ = f8; have d6 : Aside0 (Kd.R (Kd.int .u32) 107 f8 w.heap.size (fun k_ => (w.heap.size ≤ k_) ∧ some k_ ≠ (.slice g5 a8.length g6 : Value).ownBlock) a9 d5) := ⟨by rw [← hq_]; exact (sR a3.out)⟩; have d7 : Aside0 (Kd.V (Kd.int .u32) 107 f8 w.heap.size (fun k_ => (w.heap.size ≤ k_) ∧ some k_ ≠ (a9 : Value).ownBlock ∧ some k_ ≠ (.slice g5 a8.length g6 : Value).ownBlock ∧ k_ ≠ a2) (.slice q3 b0.length q4) b0) := ⟨by rw [← hq_]; exact (sV a4.out)⟩; have d8 : Aside0 (Kd.R (Kd.int .u32) 107 f8 w.heap.size (fun k_ => (w.heap.size ≤ k_) ∧ some k_ ≠ (a9 : Value).ownBlock) (.slice g5 a8.length g6) a8) := ⟨by rw [← hq_]; exact (sR a5.out)⟩; have d9 : Aside0 (Kd.V (Kd.int .u32) 107 f8 w.heap.size (fun k_ => (w.heap.size ≤ k_) ∧ some k_ ≠ (a9 : Value).ownBlock ∧ some k_ ≠ (.slice g5 a8.length g6 : Value).ownBlock ∧ k_ ≠ a2) f9 a7) := ⟨by rw [← hq_]; exact (sV a6.out)⟩; have e1 : Aside0 (f8.heap[a2]? = some (.cells #[.bool false, .slice none 0 0, .slice none 0 0] 61 (0, 0))) := ⟨by rw [← hq_]; exact (pB a1.out)⟩; have e2 : Aside0 (Below w.heap.size w f8) := ⟨by rw [← hq_]; exact (aB)⟩; clear a3 a4 a5 a6 a1 HB hq_; have a3 := d6; have a4 := d7; have a5 := d8; have a6 := d9; have a1 := e1; have HB := e2; clear d6 d7 d8 d9 e1 e2)); obtain ⟨u5, u6, q7⟩ := Kd.V_slice a6.out; subst q7; have m4 : f8.cell? ⟨a2, 0, none⟩ = some (.bool false) := (blk_cell a1.out 0).trans rfl; have m5 : f8.cell? ⟨a2, 1, none⟩ = some (.slice none 0 0) := (blk_cell a1.out 1).trans rfl; have m6 : f8.cell? ⟨a2, 2, none⟩ = some (.slice none 0 0) := (blk_cell a1.out 2).trans rfl; have m7 := blk_frozen a1.out 0; have m8 := blk_frozen a1.out 1; have m9 := blk_frozen a1.out 2))
        refine bodyPost_ret (results_ct rfl _ _ a2 61 #[.bool false, .slice none 0 0, .slice none 0 0] (0, 0) _ rfl sB Tryz.underlying61 rfl (by kernel_rfl)) rfl ?_
        exact ⟨_, _, by first | rfl | (simp [*] <;> rfl), Kd.V_nil _ _ _ _ _, Kd.V_nil _ _ _ _ _, aB⟩
       ·
        rw [if_neg i4] at H
        have j5 : ((a7.length : Int) == 0) = false := beq_eq_false_iff_ne.mpr i4
        have j6 : ((a7.length : Int) != 0) = true := bne_iff_ne.mpr i4
        have u0 : ¬ (a7 = []) := fun h_ => i4 (by rw [h_]; rfl)
        obtain ⟨b4, A36, H⟩ := bS H
        obtain ⟨c6, hy245⟩ : ∃ y_ : List Int, y_ = (([1] : List Int)) := ⟨_, rfl⟩
        replace H : ((checker_natural_compare.f kj4 b4 c6).bind fun b5 => (if b5 = 0 then (some (b9, a7, b0, true)) else (some (false, ([] : List Int), ([] : List Int), false)))) = some (r1, r2, r3, r4) := by first | (rw [hy245]; exact H) | (rw [hy245]; exact (Option.bind_some _ _).symm.trans H) | exact (Option.bind_some _ _).symm.trans H
        have Ny245 := mk0 hy245
        clear hy245
        obtain ⟨b5, A37, H⟩ := bS H
        by_cases i8 : b5 = 0
        ·
         rw [if_pos i8] at H
         have j7 : (b5 == 0) = true := beq_iff_eq.mpr i8
         have j8 : (b5 != 0) = false := bne_eq_false_iff_eq.mpr i8
         clear i8
         simp only [Option.some.injEq, Prod.mk.injEq] at H
         obtain ⟨rfl, rfl, rfl, rfl⟩ := H
         go_wp2_with (first | (refine gd 39 ?_; (try (refine gate_guard (by rfl) ?_; dsimp only)); refine Kd.R_lit (Kd.int .u32) _ 107 ?hg (N := 39) ?hd (xs := ([1] : List Int)) (inner := [.int .u32 1]) (ok := fun _ => True) (okp := fun _ => True) ?hr ?hp (fun _ hk => hk) trivial (Below.refl _ _) (Nat.le_refl _) (by simp) ?_; (case hd => rfl); (case hg => rfl); (case hr => exact aH); (case hp => exact (Reps.one (show Kd.M (Kd.int .u32) _ _ _ 1 [.int .u32 1] from rfl) (Reps.none _ _))); intro a9 v3 g7 hb hg_ hnew_; clear hg_ hnew_; rw [← Ny231.out] at g7; replace a6 := dV a6 (Kd.R_base g7) hb;have a3 := mk0 (Kd.R_lower (Kd.R_newM (M := fun k_ => (w.heap.size ≤ k_)) g7 (below_size (aB)) (fun k_ h_ => h_)) (below_size (aB)));replace a1 := uB a1 hb;replace HB := uW hb; clear hb g7) | (refine gc 35 ?_; refine gl 43 Tryz.func35 #[.string b6] ?_; (with_reducible refine (checker_digits.calls kj4 b6 b0 true _ A14.out).mono ?_); rintro e v4 ⟨g1, rfl, d3, hb⟩; refine ⟨_, rfl, ?_⟩; replace a6 := uV a6 hb;have a4 := lV (ok' := fun k_ => (w.heap.size ≤ k_) ∧ some k_ ≠ (a9 : Value).ownBlock ∧ k_ ≠ a2) d3;replace a3 := uR a3 hb;replace a1 := uB a1 hb;replace HB := uW hb; (try clear hb); (try clear d3)) | (refine gd 50 ?_; (try (refine gate_guard (by rfl) ?_; dsimp only)); refine Kd.R_lit (Kd.int .u32) _ 107 ?hg (N := 50) ?hd (xs := ([1] : List Int)) (inner := [.int .u32 1]) (ok := fun _ => True) (okp := fun _ => True) ?hr ?hp (fun _ hk => hk) trivial (Below.refl _ _) (Nat.le_refl _) (by simp) ?_; (case hd => rfl); (case hg => rfl); (case hr => exact aH); (case hp => exact (Reps.one (show Kd.M (Kd.int .u32) _ _ _ 1 [.int .u32 1] from rfl) (Reps.none _ _))); intro i7 g8 f1 hb hg_ hnew_; clear hg_ hnew_; rw [← Ny238.out] at f1; replace a6 := dV a6 (Kd.R_base f1) hb;replace a4 := dV a4 (Kd.R_base f1) hb;have a5 := mk0 (Kd.R_lower (Kd.R_new' (Kd.R_newM (M := fun k_ => (w.heap.size ≤ k_)) f1 (below_size (aB)) (fun k_ h_ => h_)) (Kd.R_lt (pR a3.out))) (below_size (aB)));replace a3 := dR a3 (Kd.R_base f1) hb;replace a1 := uB a1 hb;replace HB := uW hb; clear hb f1; obtain ⟨i9, j1, q8⟩ := Kd.V_slice a4.out; subst q8; obtain ⟨c7, d0, q9⟩ := Kd.R_slice a5.out; subst q9) | (go_at_call 36; (with_reducible refine (checker_natural_compare.calls kj4 _ _ b0 _ _ a8 b8 _ ?side1 ?side2 ?side3 ?side4 A16.out).mono ?_); (case side1 => exact pC ((Kd.V_reads' a4.out).2.2)); (case side2 => exact (Kd.V_reads' a4.out).2.1); (case side3 => exact pC ((Kd.R_reads' a5.out).2.2)); (case side4 => exact (Kd.R_reads' a5.out).2.1); rintro e w' ⟨rfl, ⟨nd, rfl⟩⟩; (try (rw [drewN_self g8]; generalize hq_ : World.drewN g8 _ = g8; have d6 : Aside0 (Kd.R (Kd.int .u32) 107 g8 w.heap.size (fun k_ => (w.heap.size ≤ k_) ∧ some k_ ≠ (.slice c7 a8.length d0 : Value).ownBlock) a9 d5) := ⟨by rw [← hq_]; exact (sR a3.out)⟩; have d7 : Aside0 (Kd.V (Kd.int .u32) 107 g8 w.heap.size (fun k_ => (w.heap.size ≤ k_) ∧ some k_ ≠ (a9 : Value).ownBlock ∧ some k_ ≠ (.slice c7 a8.length d0 : Value).ownBlock ∧ k_ ≠ a2) (.slice i9 b0.length j1) b0) := ⟨by rw [← hq_]; exact (sV a4.out)⟩; have d8 : Aside0 (Kd.R (Kd.int .u32) 107 g8 w.heap.size (fun k_ => (w.heap.size ≤ k_) ∧ some k_ ≠ (a9 : Value).ownBlock) (.slice c7 a8.length d0) a8) := ⟨by rw [← hq_]; exact (sR a5.out)⟩; have d9 : Aside0 (Kd.V (Kd.int .u32) 107 g8 w.heap.size (fun k_ => (w.heap.size ≤ k_) ∧ some k_ ≠ (a9 : Value).ownBlock ∧ some k_ ≠ (.slice c7 a8.length d0 : Value).ownBlock ∧ k_ ≠ a2) f9 a7) := ⟨by rw [← hq_]; exact (sV a6.out)⟩; have e1 : Aside0 (g8.heap[a2]? = some (.cells #[.bool false, .slice none 0 0, .slice none 0 0] 61 (0, 0))) := ⟨by rw [← hq_]; exact (pB a1.out)⟩; have e2 : Aside0 (Below w.heap.size w g8) := ⟨by rw [← hq_]; exact (aB)⟩; clear a3 a4 a5 a6 a1 HB hq_; have a3 := d6; have a4 := d7; have a5 := d8; have a6 := d9; have a1 := e1; have HB := e2; clear d6 d7 d8 d9 e1 e2)); obtain ⟨j9, k0, r0⟩ := Kd.V_slice a6.out; subst r0) | (go_at_call 37; (with_reducible refine (checker_natural_gcd.calls kj4 (fun k_ => ((((w.heap.size ≤ k_) ∧ k_ ≠ a2) ∧ some k_ ≠ (a9 : Value).ownBlock) ∧ some k_ ≠ (.slice c7 a8.length d0 : Value).ownBlock)) _ _ a7 (fun k_ => (((w.heap.size ≤ k_) ∧ (some k_ ≠ (a9 : Value).ownBlock ∧ k_ ≠ a2)) ∧ some k_ ≠ (.slice c7 a8.length d0 : Value).ownBlock)) _ _ b0 b4 _ ?side1 ?side2 A36.out).mono ?_); (case side1 => exact Kd.V_mono (Go.Proofs.YtbgmfgndldnmcaaGreatDoorMyWords.V_base (a6.out)) (fun k_ hk => by first | exact hk | (simp only [hk, ne_eq, not_false_eq_true, and_self]; done))); (case side2 => exact Kd.V_mono (Go.Proofs.YtbgmfgndldnmcaaGreatDoorMyWords.V_base (a4.out)) (fun k_ hk => by first | exact hk | (simp only [hk, ne_eq, not_false_eq_true, and_self]; done))); rintro e v5 ⟨r5, rfl, d3, hb⟩; replace a6 := uV a6 hb;replace a4 := uV a4 hb;have b2 := lV (ok' := fun k_ => (w.heap.size ≤ k_) ∧ some k_ ≠ (a9 : Value).ownBlock ∧ some k_ ≠ (.slice c7 a8.length d0 : Value).ownBlock ∧ k_ ≠ a2) d3;replace a3 := uR a3 hb;replace a5 := uR a5 hb;replace a1 := uB a1 hb;replace HB := uW hb; (try clear hb); (try clear d3)) | (refine gd 63 ?_; (try (refine gate_guard (by rfl) ?_; dsimp only)); refine Kd.R_lit (Kd.int .u32) _ 107 ?hg (N := 63) ?hd (xs := ([1] : List Int)) (inner := [.int .u32 1]) (ok := fun _ => True) (okp := fun _ => True) ?hr ?hp (fun _ hk => hk) trivial (Below.refl _ _) (Nat.le_refl _) (by simp) ?_; (case hd => rfl); (case hg => rfl); (case hr => exact aH); (case hp => exact (Reps.one (show Kd.M (Kd.int .u32) _ _ _ 1 [.int .u32 1] from rfl) (Reps.none _ _))); intro r6 e7 e3 hb hg_ hnew_; clear hg_ hnew_; rw [← Ny245.out] at e3; replace a6 := dV a6 (Kd.R_base e3) hb;replace a4 := dV a4 (Kd.R_base e3) hb;replace b2 := dV b2 (Kd.R_base e3) hb;have b7 := mk0 (Kd.R_lower (Kd.R_new' (Kd.R_new' (Kd.R_newM (M := fun k_ => (w.heap.size ≤ k_)) e3 (below_size (aB)) (fun k_ h_ => h_)) (Kd.R_lt (pR a3.out))) (Kd.R_lt (pR a5.out))) (below_size (aB)));replace a3 := dR a3 (Kd.R_base e3) hb;replace a5 := dR a5 (Kd.R_base e3) hb;replace a1 := uB a1 hb;replace HB := uW hb; clear hb e3; obtain ⟨r7, r8, r9⟩ := Kd.V_slice b2.out; subst r9; obtain ⟨f2, f3, s0⟩ := Kd.R_slice b7.out; subst s0) | (go_at_call 36; (with_reducible refine (checker_natural_compare.calls kj4 _ _ b4 _ _ c6 b5 _ ?side1 ?side2 ?side3 ?side4 A37.out).mono ?_); (case side1 => exact pC ((Kd.V_reads' b2.out).2.2)); (case side2 => exact (Kd.V_reads' b2.out).2.1); (case side3 => exact pC ((Kd.R_reads' b7.out).2.2)); (case side4 => exact (Kd.R_reads' b7.out).2.1); rintro e w' ⟨rfl, ⟨nd, rfl⟩⟩; (try (rw [drewN_self e7]; generalize hq_ : World.drewN e7 _ = e7; have d6 : Aside0 (Kd.R (Kd.int .u32) 107 e7 w.heap.size (fun k_ => (w.heap.size ≤ k_) ∧ some k_ ≠ (.slice c7 a8.length d0 : Value).ownBlock ∧ some k_ ≠ (.slice f2 c6.length f3 : Value).ownBlock) a9 d5) := ⟨by rw [← hq_]; exact (sR a3.out)⟩; have d7 : Aside0 (Kd.V (Kd.int .u32) 107 e7 w.heap.size (fun k_ => (w.heap.size ≤ k_) ∧ some k_ ≠ (a9 : Value).ownBlock ∧ some k_ ≠ (.slice c7 a8.length d0 : Value).ownBlock ∧ some k_ ≠ (.slice f2 c6.length f3 : Value).ownBlock ∧ k_ ≠ a2) (.slice i9 b0.length j1) b0) := ⟨by rw [← hq_]; exact (sV a4.out)⟩; have d8 : Aside0 (Kd.R (Kd.int .u32) 107 e7 w.heap.size (fun k_ => (w.heap.size ≤ k_) ∧ some k_ ≠ (a9 : Value).ownBlock ∧ some k_ ≠ (.slice f2 c6.length f3 : Value).ownBlock) (.slice c7 a8.length d0) a8) := ⟨by rw [← hq_]; exact (sR a5.out)⟩; have d9 : Aside0 (Kd.V (Kd.int .u32) 107 e7 w.heap.size (fun k_ => (w.heap.size ≤ k_) ∧ some k_ ≠ (a9 : Value).ownBlock ∧ some k_ ≠ (.slice c7 a8.length d0 : Value).ownBlock ∧ some k_ ≠ (.slice f2 c6.length f3 : Value).ownBlock ∧ k_ ≠ a2) (.slice r7 b4.length r8) b4) := ⟨by rw [← hq_]; exact (sV b2.out)⟩; have e1 : Aside0 (Kd.R (Kd.int .u32) 107 e7 w.heap.size (fun k_ => (w.heap.size ≤ k_) ∧ some k_ ≠ (a9 : Value).ownBlock ∧ some k_ ≠ (.slice c7 a8.length d0 : Value).ownBlock) (.slice f2 c6.length f3) c6) := ⟨by rw [← hq_]; exact (sR b7.out)⟩; have e2 : Aside0 (Kd.V (Kd.int .u32) 107 e7 w.heap.size (fun k_ => (w.heap.size ≤ k_) ∧ some k_ ≠ (a9 : Value).ownBlock ∧ some k_ ≠ (.slice c7 a8.length d0 : Value).ownBlock ∧ some k_ ≠ (.slice f2 c6.length f3 : Value).ownBlock ∧ k_ ≠ a2) (.slice j9 a7.length k0) a7) := ⟨by rw [← hq_]; exact (sV a6.out)⟩; have k1 : Aside0 (e7.heap[a2]? = some (.cells #[.bool false, .slice none 0 0, .slice none 0 0] 61 (0, 0))) := ⟨by rw [← hq_]; exact (pB a1.out)⟩; have k2 : Aside0 (Below w.heap.size w e7) := ⟨by rw [← hq_]; exact (aB)⟩; clear a3 a4 a5 b2 b7 a6 a1 HB hq_; have a3 := d6; have a4 := d7; have a5 := d8; have b2 := d9; have b7 := e1; have a6 := e2; have a1 := k1; have HB := k2; clear d6 d7 d8 d9 e1 e2 k1 k2)); have n0 : e7.cell? ⟨a2, 0, none⟩ = some (.bool false) := (blk_cell a1.out 0).trans rfl; have n1 : e7.cell? ⟨a2, 1, none⟩ = some (.slice none 0 0) := (blk_cell a1.out 1).trans rfl; have n2 : e7.cell? ⟨a2, 2, none⟩ = some (.slice none 0 0) := (blk_cell a1.out 2).trans rfl; have n3 := blk_frozen a1.out 0; have n4 := blk_frozen a1.out 1; have n5 := blk_frozen a1.out 2))
         refine bodyPost_ret (results_ct rfl _ _ a2 61 #[.bool b9, .slice j9 a7.length k0, .slice i9 b0.length j1] (0, 0) _ rfl sB Tryz.underlying61 rfl (by kernel_rfl)) rfl ?_
         exact ⟨_, _, by first | rfl | (simp [*] <;> rfl), sV a6.out, sV a4.out, aB⟩
        ·
         rw [if_neg i8] at H
         have j7 : (b5 == 0) = false := beq_eq_false_iff_ne.mpr i8
         have j8 : (b5 != 0) = true := bne_iff_ne.mpr i8
         simp only [Option.some.injEq, Prod.mk.injEq] at H
         obtain ⟨rfl, rfl, rfl, rfl⟩ := H
         go_wp2_with (first | (refine gd 39 ?_; (try (refine gate_guard (by rfl) ?_; dsimp only)); refine Kd.R_lit (Kd.int .u32) _ 107 ?hg (N := 39) ?hd (xs := ([1] : List Int)) (inner := [.int .u32 1]) (ok := fun _ => True) (okp := fun _ => True) ?hr ?hp (fun _ hk => hk) trivial (Below.refl _ _) (Nat.le_refl _) (by simp) ?_; (case hd => rfl); (case hg => rfl); (case hr => exact aH); (case hp => exact (Reps.one (show Kd.M (Kd.int .u32) _ _ _ 1 [.int .u32 1] from rfl) (Reps.none _ _))); intro a9 v6 g9 hb hg_ hnew_; clear hg_ hnew_; rw [← Ny231.out] at g9; replace a6 := dV a6 (Kd.R_base g9) hb;have a3 := mk0 (Kd.R_lower (Kd.R_newM (M := fun k_ => (w.heap.size ≤ k_)) g9 (below_size (aB)) (fun k_ h_ => h_)) (below_size (aB)));replace a1 := uB a1 hb;replace HB := uW hb; clear hb g9) | (refine gc 35 ?_; refine gl 43 Tryz.func35 #[.string b6] ?_; (with_reducible refine (checker_digits.calls kj4 b6 b0 true _ A14.out).mono ?_); rintro e v7 ⟨g1, rfl, d3, hb⟩; refine ⟨_, rfl, ?_⟩; replace a6 := uV a6 hb;have a4 := lV (ok' := fun k_ => (w.heap.size ≤ k_) ∧ some k_ ≠ (a9 : Value).ownBlock ∧ k_ ≠ a2) d3;replace a3 := uR a3 hb;replace a1 := uB a1 hb;replace HB := uW hb; (try clear hb); (try clear d3)) | (refine gd 50 ?_; (try (refine gate_guard (by rfl) ?_; dsimp only)); refine Kd.R_lit (Kd.int .u32) _ 107 ?hg (N := 50) ?hd (xs := ([1] : List Int)) (inner := [.int .u32 1]) (ok := fun _ => True) (okp := fun _ => True) ?hr ?hp (fun _ hk => hk) trivial (Below.refl _ _) (Nat.le_refl _) (by simp) ?_; (case hd => rfl); (case hg => rfl); (case hr => exact aH); (case hp => exact (Reps.one (show Kd.M (Kd.int .u32) _ _ _ 1 [.int .u32 1] from rfl) (Reps.none _ _))); intro i7 i1 f4 hb hg_ hnew_; clear hg_ hnew_; rw [← Ny238.out] at f4; replace a6 := dV a6 (Kd.R_base f4) hb;replace a4 := dV a4 (Kd.R_base f4) hb;have a5 := mk0 (Kd.R_lower (Kd.R_new' (Kd.R_newM (M := fun k_ => (w.heap.size ≤ k_)) f4 (below_size (aB)) (fun k_ h_ => h_)) (Kd.R_lt (pR a3.out))) (below_size (aB)));replace a3 := dR a3 (Kd.R_base f4) hb;replace a1 := uB a1 hb;replace HB := uW hb; clear hb f4; obtain ⟨k3, k4, s5⟩ := Kd.V_slice a4.out; subst s5; obtain ⟨d1, d2, s6⟩ := Kd.R_slice a5.out; subst s6) | (go_at_call 36; (with_reducible refine (checker_natural_compare.calls kj4 _ _ b0 _ _ a8 b8 _ ?side1 ?side2 ?side3 ?side4 A16.out).mono ?_); (case side1 => exact pC ((Kd.V_reads' a4.out).2.2)); (case side2 => exact (Kd.V_reads' a4.out).2.1); (case side3 => exact pC ((Kd.R_reads' a5.out).2.2)); (case side4 => exact (Kd.R_reads' a5.out).2.1); rintro e w' ⟨rfl, ⟨nd, rfl⟩⟩; (try (rw [drewN_self i1]; generalize hq_ : World.drewN i1 _ = i1; have d6 : Aside0 (Kd.R (Kd.int .u32) 107 i1 w.heap.size (fun k_ => (w.heap.size ≤ k_) ∧ some k_ ≠ (.slice d1 a8.length d2 : Value).ownBlock) a9 d5) := ⟨by rw [← hq_]; exact (sR a3.out)⟩; have d7 : Aside0 (Kd.V (Kd.int .u32) 107 i1 w.heap.size (fun k_ => (w.heap.size ≤ k_) ∧ some k_ ≠ (a9 : Value).ownBlock ∧ some k_ ≠ (.slice d1 a8.length d2 : Value).ownBlock ∧ k_ ≠ a2) (.slice k3 b0.length k4) b0) := ⟨by rw [← hq_]; exact (sV a4.out)⟩; have d8 : Aside0 (Kd.R (Kd.int .u32) 107 i1 w.heap.size (fun k_ => (w.heap.size ≤ k_) ∧ some k_ ≠ (a9 : Value).ownBlock) (.slice d1 a8.length d2) a8) := ⟨by rw [← hq_]; exact (sR a5.out)⟩; have d9 : Aside0 (Kd.V (Kd.int .u32) 107 i1 w.heap.size (fun k_ => (w.heap.size ≤ k_) ∧ some k_ ≠ (a9 : Value).ownBlock ∧ some k_ ≠ (.slice d1 a8.length d2 : Value).ownBlock ∧ k_ ≠ a2) f9 a7) := ⟨by rw [← hq_]; exact (sV a6.out)⟩; have e1 : Aside0 (i1.heap[a2]? = some (.cells #[.bool false, .slice none 0 0, .slice none 0 0] 61 (0, 0))) := ⟨by rw [← hq_]; exact (pB a1.out)⟩; have e2 : Aside0 (Below w.heap.size w i1) := ⟨by rw [← hq_]; exact (aB)⟩; clear a3 a4 a5 a6 a1 HB hq_; have a3 := d6; have a4 := d7; have a5 := d8; have a6 := d9; have a1 := e1; have HB := e2; clear d6 d7 d8 d9 e1 e2)); obtain ⟨s7, s8, s9⟩ := Kd.V_slice a6.out; subst s9) | (go_at_call 37; (with_reducible refine (checker_natural_gcd.calls kj4 (fun k_ => ((((w.heap.size ≤ k_) ∧ k_ ≠ a2) ∧ some k_ ≠ (a9 : Value).ownBlock) ∧ some k_ ≠ (.slice d1 a8.length d2 : Value).ownBlock)) _ _ a7 (fun k_ => (((w.heap.size ≤ k_) ∧ (some k_ ≠ (a9 : Value).ownBlock ∧ k_ ≠ a2)) ∧ some k_ ≠ (.slice d1 a8.length d2 : Value).ownBlock)) _ _ b0 b4 _ ?side1 ?side2 A36.out).mono ?_); (case side1 => exact Kd.V_mono (Go.Proofs.YtbgmfgndldnmcaaGreatDoorMyWords.V_base (a6.out)) (fun k_ hk => by first | exact hk | (simp only [hk, ne_eq, not_false_eq_true, and_self]; done))); (case side2 => exact Kd.V_mono (Go.Proofs.YtbgmfgndldnmcaaGreatDoorMyWords.V_base (a4.out)) (fun k_ hk => by first | exact hk | (simp only [hk, ne_eq, not_false_eq_true, and_self]; done))); rintro e v8 ⟨r5, rfl, d3, hb⟩; replace a6 := uV a6 hb;replace a4 := uV a4 hb;have b2 := lV (ok' := fun k_ => (w.heap.size ≤ k_) ∧ some k_ ≠ (a9 : Value).ownBlock ∧ some k_ ≠ (.slice d1 a8.length d2 : Value).ownBlock ∧ k_ ≠ a2) d3;replace a3 := uR a3 hb;replace a5 := uR a5 hb;replace a1 := uB a1 hb;replace HB := uW hb; (try clear hb); (try clear d3)) | (refine gd 63 ?_; (try (refine gate_guard (by rfl) ?_; dsimp only)); refine Kd.R_lit (Kd.int .u32) _ 107 ?hg (N := 63) ?hd (xs := ([1] : List Int)) (inner := [.int .u32 1]) (ok := fun _ => True) (okp := fun _ => True) ?hr ?hp (fun _ hk => hk) trivial (Below.refl _ _) (Nat.le_refl _) (by simp) ?_; (case hd => rfl); (case hg => rfl); (case hr => exact aH); (case hp => exact (Reps.one (show Kd.M (Kd.int .u32) _ _ _ 1 [.int .u32 1] from rfl) (Reps.none _ _))); intro r6 e8 e4 hb hg_ hnew_; clear hg_ hnew_; rw [← Ny245.out] at e4; replace a6 := dV a6 (Kd.R_base e4) hb;replace a4 := dV a4 (Kd.R_base e4) hb;replace b2 := dV b2 (Kd.R_base e4) hb;have b7 := mk0 (Kd.R_lower (Kd.R_new' (Kd.R_new' (Kd.R_newM (M := fun k_ => (w.heap.size ≤ k_)) e4 (below_size (aB)) (fun k_ h_ => h_)) (Kd.R_lt (pR a3.out))) (Kd.R_lt (pR a5.out))) (below_size (aB)));replace a3 := dR a3 (Kd.R_base e4) hb;replace a5 := dR a5 (Kd.R_base e4) hb;replace a1 := uB a1 hb;replace HB := uW hb; clear hb e4; obtain ⟨t0, t1, t2⟩ := Kd.V_slice b2.out; subst t2; obtain ⟨f5, f6, t3⟩ := Kd.R_slice b7.out; subst t3) | (go_at_call 36; (with_reducible refine (checker_natural_compare.calls kj4 _ _ b4 _ _ c6 b5 _ ?side1 ?side2 ?side3 ?side4 A37.out).mono ?_); (case side1 => exact pC ((Kd.V_reads' b2.out).2.2)); (case side2 => exact (Kd.V_reads' b2.out).2.1); (case side3 => exact pC ((Kd.R_reads' b7.out).2.2)); (case side4 => exact (Kd.R_reads' b7.out).2.1); rintro e w' ⟨rfl, ⟨nd, rfl⟩⟩; (try (rw [drewN_self e8]; generalize hq_ : World.drewN e8 _ = e8; have d6 : Aside0 (Kd.R (Kd.int .u32) 107 e8 w.heap.size (fun k_ => (w.heap.size ≤ k_) ∧ some k_ ≠ (.slice d1 a8.length d2 : Value).ownBlock ∧ some k_ ≠ (.slice f5 c6.length f6 : Value).ownBlock) a9 d5) := ⟨by rw [← hq_]; exact (sR a3.out)⟩; have d7 : Aside0 (Kd.V (Kd.int .u32) 107 e8 w.heap.size (fun k_ => (w.heap.size ≤ k_) ∧ some k_ ≠ (a9 : Value).ownBlock ∧ some k_ ≠ (.slice d1 a8.length d2 : Value).ownBlock ∧ some k_ ≠ (.slice f5 c6.length f6 : Value).ownBlock ∧ k_ ≠ a2) (.slice k3 b0.length k4) b0) := ⟨by rw [← hq_]; exact (sV a4.out)⟩; have d8 : Aside0 (Kd.R (Kd.int .u32) 107 e8 w.heap.size (fun k_ => (w.heap.size ≤ k_) ∧ some k_ ≠ (a9 : Value).ownBlock ∧ some k_ ≠ (.slice f5 c6.length f6 : Value).ownBlock) (.slice d1 a8.length d2) a8) := ⟨by rw [← hq_]; exact (sR a5.out)⟩; have d9 : Aside0 (Kd.V (Kd.int .u32) 107 e8 w.heap.size (fun k_ => (w.heap.size ≤ k_) ∧ some k_ ≠ (a9 : Value).ownBlock ∧ some k_ ≠ (.slice d1 a8.length d2 : Value).ownBlock ∧ some k_ ≠ (.slice f5 c6.length f6 : Value).ownBlock ∧ k_ ≠ a2) (.slice t0 b4.length t1) b4) := ⟨by rw [← hq_]; exact (sV b2.out)⟩; have e1 : Aside0 (Kd.R (Kd.int .u32) 107 e8 w.heap.size (fun k_ => (w.heap.size ≤ k_) ∧ some k_ ≠ (a9 : Value).ownBlock ∧ some k_ ≠ (.slice d1 a8.length d2 : Value).ownBlock) (.slice f5 c6.length f6) c6) := ⟨by rw [← hq_]; exact (sR b7.out)⟩; have e2 : Aside0 (Kd.V (Kd.int .u32) 107 e8 w.heap.size (fun k_ => (w.heap.size ≤ k_) ∧ some k_ ≠ (a9 : Value).ownBlock ∧ some k_ ≠ (.slice d1 a8.length d2 : Value).ownBlock ∧ some k_ ≠ (.slice f5 c6.length f6 : Value).ownBlock ∧ k_ ≠ a2) (.slice s7 a7.length s8) a7) := ⟨by rw [← hq_]; exact (sV a6.out)⟩; have k1 : Aside0 (e8.heap[a2]? = some (.cells #[.bool false, .slice none 0 0, .slice none 0 0] 61 (0, 0))) := ⟨by rw [← hq_]; exact (pB a1.out)⟩; have k2 : Aside0 (Below w.heap.size w e8) := ⟨by rw [← hq_]; exact (aB)⟩; clear a3 a4 a5 b2 b7 a6 a1 HB hq_; have a3 := d6; have a4 := d7; have a5 := d8; have b2 := d9; have b7 := e1; have a6 := e2; have a1 := k1; have HB := k2; clear d6 d7 d8 d9 e1 e2 k1 k2)); have n6 : e8.cell? ⟨a2, 0, none⟩ = some (.bool false) := (blk_cell a1.out 0).trans rfl; have n7 : e8.cell? ⟨a2, 1, none⟩ = some (.slice none 0 0) := (blk_cell a1.out 1).trans rfl; have n8 : e8.cell? ⟨a2, 2, none⟩ = some (.slice none 0 0) := (blk_cell a1.out 2).trans rfl; have n9 := blk_frozen a1.out 0; have o1 := blk_frozen a1.out 1; have o2 := blk_frozen a1.out 2))
         refine bodyPost_ret (results_ct rfl _ _ a2 61 #[.bool false, .slice none 0 0, .slice none 0 0] (0, 0) _ rfl sB Tryz.underlying61 rfl (by kernel_rfl)) rfl ?_
         exact ⟨_, _, by first | rfl | (simp [*] <;> rfl), Kd.V_nil _ _ _ _ _, Kd.V_nil _ _ _ _ _, aB⟩
     ·
      replace l7 := Bool.eq_false_iff.mpr l7
      subst l7
      have H1 : (some (false, ([] : List Int), ([] : List Int), false)) = some (r1, r2, r3, r4) := by rw [if_neg (show ¬ (false = true) by decide)] at H; exact H
      clear H
      have H := H1
      clear H1
      simp only [Option.some.injEq, Prod.mk.injEq] at H
      obtain ⟨rfl, rfl, rfl, rfl⟩ := H
      go_wp2_with (first | (refine gd 39 ?_; (try (refine gate_guard (by rfl) ?_; dsimp only)); refine Kd.R_lit (Kd.int .u32) _ 107 ?hg (N := 39) ?hd (xs := ([1] : List Int)) (inner := [.int .u32 1]) (ok := fun _ => True) (okp := fun _ => True) ?hr ?hp (fun _ hk => hk) trivial (Below.refl _ _) (Nat.le_refl _) (by simp) ?_; (case hd => rfl); (case hg => rfl); (case hr => exact aH); (case hp => exact (Reps.one (show Kd.M (Kd.int .u32) _ _ _ 1 [.int .u32 1] from rfl) (Reps.none _ _))); intro a9 v9 i2 hb hg_ hnew_; clear hg_ hnew_; rw [← Ny231.out] at i2; replace a6 := dV a6 (Kd.R_base i2) hb;have a3 := mk0 (Kd.R_lower (Kd.R_newM (M := fun k_ => (w.heap.size ≤ k_)) i2 (below_size (aB)) (fun k_ h_ => h_)) (below_size (aB)));replace a1 := uB a1 hb;replace HB := uW hb; clear hb i2) | (refine gc 35 ?_; refine gl 43 Tryz.func35 #[.string b6] ?_; (with_reducible refine (checker_digits.calls kj4 b6 b0 false _ A14.out).mono ?_); rintro e t4 ⟨g1, rfl, d3, hb⟩; refine ⟨_, rfl, ?_⟩; replace a6 := uV a6 hb;have a4 := lV (ok' := fun k_ => (w.heap.size ≤ k_) ∧ some k_ ≠ (a9 : Value).ownBlock ∧ k_ ≠ a2) d3;replace a3 := uR a3 hb;replace a1 := uB a1 hb;replace HB := uW hb; (try clear hb); (try clear d3); have o3 : t4.cell? ⟨a2, 0, none⟩ = some (.bool false) := (blk_cell a1.out 0).trans rfl; have o4 : t4.cell? ⟨a2, 1, none⟩ = some (.slice none 0 0) := (blk_cell a1.out 1).trans rfl; have o5 : t4.cell? ⟨a2, 2, none⟩ = some (.slice none 0 0) := (blk_cell a1.out 2).trans rfl; have o6 := blk_frozen a1.out 0; have o7 := blk_frozen a1.out 1; have o8 := blk_frozen a1.out 2))
      refine bodyPost_ret (results_ct rfl _ _ a2 61 #[.bool false, .slice none 0 0, .slice none 0 0] (0, 0) _ rfl sB Tryz.underlying61 rfl (by kernel_rfl)) rfl ?_
      exact ⟨_, _, by first | rfl | (simp [*] <;> rfl), Kd.V_nil _ _ _ _ _, Kd.V_nil _ _ _ _ _, aB⟩
    ·
     replace l6 := Bool.eq_false_iff.mpr l6
     subst l6
     have H1 : (some (b9, a7, d5, true)) = some (r1, r2, r3, r4) := by rw [if_neg (show ¬ (false = true) by decide)] at H; exact H
     clear H
     have H := H1
     clear H1
     simp only [Option.some.injEq, Prod.mk.injEq] at H
     obtain ⟨rfl, rfl, rfl, rfl⟩ := H
     go_wp2_with (first | (refine gd 39 ?_; (try (refine gate_guard (by rfl) ?_; dsimp only)); refine Kd.R_lit (Kd.int .u32) _ 107 ?hg (N := 39) ?hd (xs := ([1] : List Int)) (inner := [.int .u32 1]) (ok := fun _ => True) (okp := fun _ => True) ?hr ?hp (fun _ hk => hk) trivial (Below.refl _ _) (Nat.le_refl _) (by simp) ?_; (case hd => rfl); (case hg => rfl); (case hr => exact aH); (case hp => exact (Reps.one (show Kd.M (Kd.int .u32) _ _ _ 1 [.int .u32 1] from rfl) (Reps.none _ _))); intro a9 t5 i3 hb hg_ hnew_; clear hg_ hnew_; rw [← Ny231.out] at i3; replace a6 := dV a6 (Kd.R_base i3) hb;have a3 := mk0 (Kd.R_lower (Kd.R_newM (M := fun k_ => (w.heap.size ≤ k_)) i3 (below_size (aB)) (fun k_ h_ => h_)) (below_size (aB)));replace a1 := uB a1 hb;replace HB := uW hb; clear hb i3; obtain ⟨k5, k6, t6⟩ := Kd.R_slice a3.out; subst t6; obtain ⟨k7, k8, t7⟩ := Kd.V_slice a6.out; subst t7; have o9 : t5.cell? ⟨a2, 0, none⟩ = some (.bool false) := (blk_cell a1.out 0).trans rfl; have p0 : t5.cell? ⟨a2, 1, none⟩ = some (.slice none 0 0) := (blk_cell a1.out 1).trans rfl; have p1 : t5.cell? ⟨a2, 2, none⟩ = some (.slice none 0 0) := (blk_cell a1.out 2).trans rfl; have p3 := blk_frozen a1.out 0; have p4 := blk_frozen a1.out 1; have p5 := blk_frozen a1.out 2))
     refine bodyPost_ret (results_ct rfl _ _ a2 61 #[.bool b9, .slice k7 a7.length k8, .slice k5 d5.length k6] (0, 0) _ rfl sB Tryz.underlying61 rfl (by kernel_rfl)) rfl ?_
     exact ⟨_, _, by first | rfl | (simp [*] <;> rfl), sV a6.out, Kd.R_V (by (with_reducible repeat (first | apply Kd.R_alloc | apply Kd.R_drewN | apply Kd.R_drew)); exact Kd.R_mono (Kd.R_far (p := ⟨a2, 2, none⟩) (Kd.R_far (p := ⟨a2, 1, none⟩) (Kd.R_far (p := ⟨a2, 0, none⟩) (Kd.R_types a3.out a1.out (by decide)) (fun _ hk => hk.2) (.bool b9)) (fun _ hk => hk.2) (.slice k7 a7.length k8)) (fun _ hk => hk.2) (.slice k5 d5.length k6)) (fun _ hk => (by first | exact hk.1.1 | (have hq_ := hk; revert hq_; simp only [and_imp]; intros; assumption)))), aB⟩
def checker_Number.f (k : Nat) (a0 : ByteArray) : Option (Bool) := (checker_read.f k a0).bind fun a2 => (some a2.2.2.2)
theorem checker_Number.mono : ∀ a0 k, LeO (checker_Number.f k a0) (checker_Number.f (k + 1) a0) := by
 intro a0 k
 unfold checker_Number.f
 repeat' first | (with_reducible first | exact checker_read.mono .. | exact LeO.refl _ | exact LeO.none _ | refine LeO.ite ?_ ?_ | refine LeO.bind ?_ (fun _ => ?_))
set_option maxHeartbeats 8000000 in
set_option maxRecDepth 100000 in
theorem checker_Number.calls (k : Nat) (a0 : ByteArray) (r : Bool) (w : World) (h : checker_Number.f k a0 = some r) :
  Calls Tryz.prog 9 #[.string a0] w fun e w' => e = .returned (.bool r) ∧ Below w.heap.size w w' := by
 have hu61 := Tryz.underlying61
 have HB := mk0 (Below.refl w.heap.size w)
 have H : ((checker_read.f k a0).bind fun a2 => (some a2.2.2.2)) = some r := h
 clear h
 obtain ⟨⟨a6, a7, a8, a9⟩, A2, H⟩ := bS H
 (try dsimp only at H)
 obtain rfl := Option.some.inj H
 go_enter Tryz.func9, Tryz.ntmps9
 go_wp2_with (first | (refine gc 17 ?_; refine gl 7 Tryz.func17 #[.string a0] ?_; (with_reducible refine (checker_read.calls k a0 a6 a7 a8 a9 _ A2.out).mono ?_); rintro e w3 ⟨c4, c5, rfl, b6, b7, hb⟩; refine ⟨_, rfl, ?_⟩; have a3 := lV (ok' := fun k_ => True) b6;have a4 := lV (ok' := fun k_ => True) b7;replace HB := uW hb; (try clear hb); (try clear b6); (try clear b7)) | (refine gd 3 ?_; refine box_event ?hg (N := 3) ?hd (cs := #[.bool false, .slice none 0 0, .slice none 0 0]) (t := 61) ?hr ?_; (case hd => rfl); (case hg => rfl); (case hr => exact aH); intro a5 hg w4 hbox hb; replace a3 := eV a3 hg hb;replace a4 := eV a4 hg hb;have a1 := mk0 (hbox);have b8 := uG hg;have b9 := uG hg;replace HB := uW hb; clear hb hbox hg; have b0 : w4.cell? ⟨a5, 0, none⟩ = some (.bool false) := (blk_cell a1.out 0).trans rfl; have b1 : w4.cell? ⟨a5, 1, none⟩ = some (.slice none 0 0) := (blk_cell a1.out 1).trans rfl; have b2 : w4.cell? ⟨a5, 2, none⟩ = some (.slice none 0 0) := (blk_cell a1.out 2).trans rfl; have b3 := blk_frozen a1.out 0; have b4 := blk_frozen a1.out 1; have b5 := blk_frozen a1.out 2; obtain ⟨c8, c9, c6⟩ := Kd.V_slice a3.out; subst c6; obtain ⟨d0, d1, c7⟩ := Kd.V_slice a4.out; subst c7))
 go_ret
 exact ⟨by first | rfl | (simp [*] <;> rfl), aB⟩
end Go.Proofs.YtbgmfgndldnmcaaGreatDoor.PCheckerNever
