/- The predicates of functions of the program, printed by a program of this session (wip/tools/prt.py) out of Lean's own print of the loaded functions. -/
import Derived.Test.YtolfcdjbchdkgaaDoorM2
import Derived.Test.YtolfcdjbchdkgaaDoorM3
namespace Go.Proofs.YtolfcdjbchdkgaaDoor
open Go Go.Hp
set_option maxRecDepth 100000
/-! treadle/cell.New -/
noncomputable def code21 : Code := (Tryd.f21.body).getD .skip
def F21_l8 (procs_2 : Int) (b_7 : Nat) (t28_10 : Int) (again_9 : (Int × Unit) → HP → Prop) (R : Ending → HP → Prop) : HP → Prop :=
  hIf (decide (t28_10 < procs_2))
    (hNil (some ⟨b_7, 0, none⟩) fun a_11 =>
  hLoad .slice (a_11.add 2) fun (v_12 : Sl) =>
  hCall Tryd.prog 46 #[] (fun ch => R (.panicked ch)) fun r_13 m => ∃ (v_14 : Int), r_13 = (.int .i64 v_14) ∧ (hLoad .slice (a_11.add 2) fun (v_15 : Sl) =>
  fun m => ((.slice v_15.a v_15.n v_15.cap) : Value) = (.slice v_12.a v_12.n v_12.cap) ∧ (hMake 1 8 #[(.pointer none)] 102 v_14 v_14 fun b_16 =>
  hLoad .slice (a_11.add 2) fun (v_17 : Sl) =>
  fun m => ((.slice v_17.a v_17.n v_17.cap) : Value) = (.slice v_12.a v_12.n v_12.cap) ∧ (hNew #[(.slice (some ⟨b_16, 0, none⟩) (Int.toNat v_14) (Int.toNat v_14))] 100 fun b_18 =>
  hLoad .slice (a_11.add 2) fun (v_19 : Sl) =>
  fun m => ((.slice v_19.a v_19.n v_19.cap) : Value) = (.slice v_12.a v_12.n v_12.cap) ∧ (hAppend 1 24 #[(.slice none 0 0)] 100 ⟨v_12.a, v_12.n, v_12.cap⟩ ⟨(some ⟨b_18, 0, none⟩), 1, 1⟩ fun v_20 =>
  hNil (some ⟨b_7, 0, none⟩) fun a_21 =>
  hStore (.slice v_20.a v_20.n v_20.cap) (a_21.add 2)
    (hInt .i64 (t28_10 + 1) fun v_22 =>
  again_9 (v_22, ()))) m) m) m) m)
    (R (.returned (.tuple #[(.pointer (some ⟨b_7, 0, none⟩)), (.int .i64 0)])))
def F21 (pages_1 : Int) (procs_2 : Int) (R : Ending → HP → Prop) : HP → Prop :=
  hIf (decide (procs_2 < 1))
    (R (.returned (.tuple #[(.pointer none), (.int .i64 1)])))
    (hIf (decide (procs_2 > 8))
    (R (.returned (.tuple #[(.pointer none), (.int .i64 1)])))
    (hCall Tryd.prog 8 #[(.int .i64 pages_1)] (fun ch => R (.panicked ch)) fun r_3 m => ∃ (v_4 : Option Addr) (v_5 : Int), r_3 = (.tuple #[(.pointer v_4), (.int .i64 v_5)]) ∧ (hIf (v_5 != 0)
    (R (.returned (.tuple #[(.pointer none), (.int .i64 v_5)])))
    (hNewMap fun b_6 =>
  hNew #[(.pointer v_4), (.map (some b_6)), (.slice none 0 0), (.int .i64 0), (.int .i64 0)] 99 fun b_7 =>
  hLoop (α := Int × Unit) (0, ()) fun x_8 again_9 => hAll fun _ => F21_l8 procs_2 b_7 x_8.1 again_9 R)) m))
def ann21 : Ann := { loop := [(8, [(28, (Ty.int .i64))])], cut := [] }
theorem den21 (pages_1 : Int) (procs_2 : Int) (R : Ending → HP → Prop) : denF Tryd.prog ann21 Tryd.f21.ntmps Tryd.f21.results.toList code21 [(.int .i64 pages_1), (.int .i64 procs_2)] R = F21 pages_1 procs_2 R := by kernel_rfl
theorem call21 : Callable Tryd.prog 21 := fun a w => Tryd.call21 a w
theorem F21_fn {pages_1 : Int} {procs_2 : Int} {R : Ending → HP → Prop} {m : HP} (h : F21 pages_1 procs_2 R m) : Does Tryd.prog 21 #[(.int .i64 pages_1), (.int .i64 procs_2)] m R :=
  fn_of_den mixed (ann := ann21) Tryd.func21 call21 (c := code21) (by kernel_rfl) (by kernel_rfl) (args := [(.int .i64 pages_1), (.int .i64 procs_2)]) (Nat.le_of_ble_eq_true (by kernel_rfl)) (.inl (by kernel_rfl)) (by rw [den21]; exact h)
/-! (*treadle/cell.Cells).Alloc -/
noncomputable def code23 : Code := (Tryd.f23.body).getD .skip
def F23 (c_1 : Option Addr) (p_2 : Int) (words_3 : Int) (R : Ending → HP → Prop) : HP → Prop :=
  hIf (Option.isNone c_1)
    (R (.returned (.tuple #[(.int .i64 0), (.int .i64 5)])))
    (hIf (decide (p_2 < 0))
    (R (.returned (.tuple #[(.int .i64 0), (.int .i64 1)])))
    (hNil c_1 fun a_4 =>
  hLoad .slice (a_4.add 2) fun (v_5 : Sl) =>
  hIf (decide (p_2 ≥ ((v_5.n : Nat) : Int)))
    (R (.returned (.tuple #[(.int .i64 0), (.int .i64 1)])))
    (hIf (decide (words_3 < 1))
    (R (.returned (.tuple #[(.int .i64 0), (.int .i64 1)])))
    (hIf (decide (words_3 > 1024))
    (R (.returned (.tuple #[(.int .i64 0), (.int .i64 2)])))
    (hCall Tryd.prog 47 #[(.int .i64 words_3)] (fun ch => R (.panicked ch)) fun r_6 m => ∃ (v_7 : Int) (v_8 : Int), r_6 = (.tuple #[(.int .i64 v_7), (.int .i64 v_8)]) ∧ (hIf (v_8 != 0)
    (hInt .i64 (words_3 + 64) fun v_9 =>
  hInt .i64 (v_9 - 1) fun v_10 =>
  hQuo .i64 v_10 64 fun v_11 =>
  hCall Tryd.prog 48 #[(.pointer c_1), (.int .i64 v_11), (.int .i64 (-1))] (fun ch => R (.panicked ch)) fun r_12 m => ∃ (v_13 : Option Addr) (v_14 : Int), r_12 = (.tuple #[(.pointer v_13), (.int .i64 v_14)]) ∧ (hIf (v_14 != 0)
    (R (.returned (.tuple #[(.int .i64 0), (.int .i64 v_14)])))
    (hNil v_13 fun a_15 =>
  hStore (.int .u64 1) (a_15.add 4)
    (hCall Tryd.prog 49 #[(.pointer c_1), (.pointer v_13), (.int .i64 0)] (fun ch => R (.panicked ch)) fun r_16 m => ∃ (v_17 : Int), r_16 = (.int .i64 v_17) ∧ (R (.returned (.tuple #[(.int .i64 v_17), (.int .i64 0)]))) m))) m)
    (hCall Tryd.prog 50 #[(.pointer c_1), (.int .i64 p_2), (.int .i64 v_7)] (fun ch => R (.panicked ch)) fun r_18 m => ∃ (v_19 : Option Addr) (v_20 : Int), r_18 = (.tuple #[(.pointer v_19), (.int .i64 v_20)]) ∧ (hIf (v_20 != 0)
    (R (.returned (.tuple #[(.int .i64 0), (.int .i64 v_20)])))
    (hNil v_19 fun a_21 =>
  hLoad (.int .u64) (a_21.add 4) fun (v_22 : Int) =>
  hCall Tryd.prog 51 #[(.int .u64 (bitv .xor .u64 (IntKind.max .u64) v_22))] (fun ch => R (.panicked ch)) fun r_23 m => ∃ (v_24 : Int), r_23 = (.int .i64 v_24) ∧ (hNil v_19 fun a_25 =>
  hLoad (.int .u64) (a_25.add 4) fun (v_26 : Int) =>
  hShl .u64 1 v_24 fun v_27 =>
  hNil v_19 fun a_28 =>
  hStore (.int .u64 (bitv .or .u64 v_26 v_27)) (a_28.add 4)
    (hCall Tryd.prog 49 #[(.pointer c_1), (.pointer v_19), (.int .i64 v_24)] (fun ch => R (.panicked ch)) fun r_29 m => ∃ (v_30 : Int), r_29 = (.int .i64 v_30) ∧ (R (.returned (.tuple #[(.int .i64 v_30), (.int .i64 0)]))) m)) m)) m)) m)))))
def ann23 : Ann := { loop := [], cut := [] }
theorem den23 (c_1 : Option Addr) (p_2 : Int) (words_3 : Int) (R : Ending → HP → Prop) : denF Tryd.prog ann23 Tryd.f23.ntmps Tryd.f23.results.toList code23 [(.pointer c_1), (.int .i64 p_2), (.int .i64 words_3)] R = F23 c_1 p_2 words_3 R := by kernel_rfl
theorem call23 : Callable Tryd.prog 23 := fun a w => Tryd.call23 a w
theorem F23_fn {c_1 : Option Addr} {p_2 : Int} {words_3 : Int} {R : Ending → HP → Prop} {m : HP} (h : F23 c_1 p_2 words_3 R m) : Does Tryd.prog 23 #[(.pointer c_1), (.int .i64 p_2), (.int .i64 words_3)] m R :=
  fn_of_den mixed (ann := ann23) Tryd.func23 call23 (c := code23) (by kernel_rfl) (by kernel_rfl) (args := [(.pointer c_1), (.int .i64 p_2), (.int .i64 words_3)]) (Nat.le_of_ble_eq_true (by kernel_rfl)) (.inl (by kernel_rfl)) (by rw [den23]; exact h)
/-! (*treadle/cell.Cells).Find -/
noncomputable def code24 : Code := (Tryd.f24.body).getD .skip
def F24 (c_1 : Option Addr) (addr_2 : Int) (R : Ending → HP → Prop) : HP → Prop :=
  hCall Tryd.prog 52 #[(.pointer c_1), (.int .i64 addr_2)] (fun ch => R (.panicked ch)) fun r_3 m => ∃ (v_4 : Option Addr) (v_5 : Int) (v_6 : Bool), r_3 = (.tuple #[(.pointer v_4), (.int .i64 v_5), (.bool v_6)]) ∧ (hIf (!v_6)
    (R (.returned (.tuple #[(.int .i64 0), (.int .i64 0), (.bool false)])))
    (hNil v_4 fun a_7 =>
  hLoad (.int .i64) a_7 fun (v_8 : Int) =>
  hInt .i64 (v_8 * 64) fun v_9 =>
  hCall Tryd.prog 53 #[(.pointer v_4)] (fun ch => R (.panicked ch)) fun r_10 m => ∃ (v_11 : Int), r_10 = (.int .i64 v_11) ∧ (hLoad (.int .i64) a_7 fun (v_12 : Int) =>
  fun m => ((.int .i64 v_12) : Value) = (.int .i64 v_8) ∧ (hInt .i64 (v_5 * v_11) fun v_13 =>
  hInt .i64 (v_9 + v_13) fun v_14 =>
  hCall Tryd.prog 53 #[(.pointer v_4)] (fun ch => R (.panicked ch)) fun r_15 m => ∃ (v_16 : Int), r_15 = (.int .i64 v_16) ∧ (hLoad (.int .i64) a_7 fun (v_17 : Int) =>
  fun m => ((.int .i64 v_17) : Value) = (.int .i64 v_8) ∧ (R (.returned (.tuple #[(.int .i64 v_14), (.int .i64 v_16), (.bool true)]))) m) m) m) m)) m
def ann24 : Ann := { loop := [], cut := [] }
theorem den24 (c_1 : Option Addr) (addr_2 : Int) (R : Ending → HP → Prop) : denF Tryd.prog ann24 Tryd.f24.ntmps Tryd.f24.results.toList code24 [(.pointer c_1), (.int .i64 addr_2)] R = F24 c_1 addr_2 R := by kernel_rfl
theorem call24 : Callable Tryd.prog 24 := fun a w => Tryd.call24 a w
theorem F24_fn {c_1 : Option Addr} {addr_2 : Int} {R : Ending → HP → Prop} {m : HP} (h : F24 c_1 addr_2 R m) : Does Tryd.prog 24 #[(.pointer c_1), (.int .i64 addr_2)] m R :=
  fn_of_den mixed (ann := ann24) Tryd.func24 call24 (c := code24) (by kernel_rfl) (by kernel_rfl) (args := [(.pointer c_1), (.int .i64 addr_2)]) (Nat.le_of_ble_eq_true (by kernel_rfl)) (.inl (by kernel_rfl)) (by rw [den24]; exact h)
/-! (*treadle/cell.Cells).Free -/
noncomputable def code25 : Code := (Tryd.f25.body).getD .skip
def F25 (c_1 : Option Addr) (addr_2 : Int) (R : Ending → HP → Prop) : HP → Prop :=
  hIf (Option.isNone c_1)
    (R (.returned (.int .i64 5)))
    (hCall Tryd.prog 52 #[(.pointer c_1), (.int .i64 addr_2)] (fun ch => R (.panicked ch)) fun r_3 m => ∃ (v_4 : Option Addr) (v_5 : Int) (v_6 : Bool), r_3 = (.tuple #[(.pointer v_4), (.int .i64 v_5), (.bool v_6)]) ∧ (hIf (!v_6)
    (R (.returned (.int .i64 4)))
    (hNil v_4 fun a_7 =>
  hLoad (.int .i64) a_7 fun (v_8 : Int) =>
  hInt .i64 (v_8 * 64) fun v_9 =>
  hCall Tryd.prog 53 #[(.pointer v_4)] (fun ch => R (.panicked ch)) fun r_10 m => ∃ (v_11 : Int), r_10 = (.int .i64 v_11) ∧ (hLoad (.int .i64) a_7 fun (v_12 : Int) =>
  fun m => ((.int .i64 v_12) : Value) = (.int .i64 v_8) ∧ (hInt .i64 (v_5 * v_11) fun v_13 =>
  hInt .i64 (v_9 + v_13) fun v_14 =>
  hIf (addr_2 != v_14)
    (R (.returned (.int .i64 4)))
    (hNil v_4 fun a_15 =>
  hLoad (.int .u64) (a_15.add 4) fun (v_16 : Int) =>
  hShl .u64 1 v_5 fun v_17 =>
  hNil v_4 fun a_18 =>
  hStore (.int .u64 (bitv .andNot .u64 v_16 v_17)) (a_18.add 4)
    (hNil c_1 fun a_19 =>
  hLoad (.int .i64) (a_19.add 3) fun (v_20 : Int) =>
  hInt .i64 (v_20 - 1) fun v_21 =>
  hNil c_1 fun a_22 =>
  hStore (.int .i64 v_21) (a_22.add 3)
    (hNil c_1 fun a_23 =>
  hLoad (.int .i64) (a_23.add 4) fun (v_24 : Int) =>
  hCall Tryd.prog 53 #[(.pointer v_4)] (fun ch => R (.panicked ch)) fun r_25 m => ∃ (v_26 : Int), r_25 = (.int .i64 v_26) ∧ (hLoad (.int .i64) (a_23.add 4) fun (v_27 : Int) =>
  fun m => ((.int .i64 v_27) : Value) = (.int .i64 v_24) ∧ (hInt .i64 (v_24 - v_26) fun v_28 =>
  hNil c_1 fun a_29 =>
  hStore (.int .i64 v_28) (a_29.add 4)
    (hCall Tryd.prog 54 #[(.pointer c_1), (.pointer v_4)] (fun ch => R (.panicked ch)) fun _ =>
  R (.returned (.int .i64 0)))) m) m)))) m) m)) m)
def ann25 : Ann := { loop := [], cut := [] }
theorem den25 (c_1 : Option Addr) (addr_2 : Int) (R : Ending → HP → Prop) : denF Tryd.prog ann25 Tryd.f25.ntmps Tryd.f25.results.toList code25 [(.pointer c_1), (.int .i64 addr_2)] R = F25 c_1 addr_2 R := by kernel_rfl
theorem call25 : Callable Tryd.prog 25 := fun a w => Tryd.call25 a w
theorem F25_fn {c_1 : Option Addr} {addr_2 : Int} {R : Ending → HP → Prop} {m : HP} (h : F25 c_1 addr_2 R m) : Does Tryd.prog 25 #[(.pointer c_1), (.int .i64 addr_2)] m R :=
  fn_of_den mixed (ann := ann25) Tryd.func25 call25 (c := code25) (by kernel_rfl) (by kernel_rfl) (args := [(.pointer c_1), (.int .i64 addr_2)]) (Nat.le_of_ble_eq_true (by kernel_rfl)) (.inl (by kernel_rfl)) (by rw [den25]; exact h)
/-! (*treadle/cell.Cells).Counts -/
noncomputable def code26 : Code := (Tryd.f26.body).getD .skip
def F26 (c_1 : Option Addr) (R : Ending → HP → Prop) : HP → Prop :=
  hIf (Option.isNone c_1)
    (R (.returned (.tuple #[(.int .i64 0), (.int .i64 0), (.int .i64 0)])))
    (hNil c_1 fun a_2 =>
  hLoad .ptr a_2 fun (v_3 : Option Addr) =>
  hCall Tryd.prog 17 #[(.pointer v_3)] (fun ch => R (.panicked ch)) fun r_4 m => ∃ (v_5 : Int) (v_6 : Int), r_4 = (.tuple #[(.int .i64 v_5), (.int .i64 v_6)]) ∧ (hNil c_1 fun a_7 =>
  hLoad (.int .i64) (a_7.add 3) fun (v_8 : Int) =>
  hNil c_1 fun a_9 =>
  hLoad (.int .i64) (a_9.add 4) fun (v_10 : Int) =>
  R (.returned (.tuple #[(.int .i64 v_8), (.int .i64 v_10), (.int .i64 v_5)]))) m)
def ann26 : Ann := { loop := [], cut := [] }
theorem den26 (c_1 : Option Addr) (R : Ending → HP → Prop) : denF Tryd.prog ann26 Tryd.f26.ntmps Tryd.f26.results.toList code26 [(.pointer c_1)] R = F26 c_1 R := by kernel_rfl
theorem call26 : Callable Tryd.prog 26 := fun a w => Tryd.call26 a w
theorem F26_fn {c_1 : Option Addr} {R : Ending → HP → Prop} {m : HP} (h : F26 c_1 R m) : Does Tryd.prog 26 #[(.pointer c_1)] m R :=
  fn_of_den mixed (ann := ann26) Tryd.func26 call26 (c := code26) (by kernel_rfl) (by kernel_rfl) (args := [(.pointer c_1)]) (Nat.le_of_ble_eq_true (by kernel_rfl)) (.inl (by kernel_rfl)) (by rw [den26]; exact h)
/-! (*treadle/cell.Cells).Used -/
noncomputable def code30 : Code := (Tryd.f30.body).getD .skip
def F30 (c_1 : Option Addr) (page_2 : Int) (R : Ending → HP → Prop) : HP → Prop :=
  hIf (Option.isNone c_1)
    (R (.returned (.bool false)))
    (hNil c_1 fun a_3 =>
  hLoad .ptr a_3 fun (v_4 : Option Addr) =>
  hCall Tryd.prog 15 #[(.pointer v_4), (.int .i64 page_2)] (fun ch => R (.panicked ch)) fun r_5 m => ∃ (r_6 : Int) (r_7 : Int) (r_8 : Int) (v_9 : Bool), r_5 = (.tuple #[(.agg #[(.int .i64 r_6), (.int .i64 r_7), (.int .i64 r_8)]), (.bool v_9)]) ∧ (hNew #[(.int .i64 0), (.int .i64 0), (.int .i64 0)] 34 fun b_10 =>
  hStore (.int .i64 r_6) ⟨b_10, 0, none⟩
    (hStore (.int .i64 r_7) ⟨b_10, 1, none⟩
    (hStore (.int .i64 r_8) ⟨b_10, 2, none⟩
    (R (.returned (.bool v_9)))))) m)
def ann30 : Ann := { loop := [], cut := [] }
theorem den30 (c_1 : Option Addr) (page_2 : Int) (R : Ending → HP → Prop) : denF Tryd.prog ann30 Tryd.f30.ntmps Tryd.f30.results.toList code30 [(.pointer c_1), (.int .i64 page_2)] R = F30 c_1 page_2 R := by kernel_rfl
theorem call30 : Callable Tryd.prog 30 := fun a w => Tryd.call30 a w
theorem F30_fn {c_1 : Option Addr} {page_2 : Int} {R : Ending → HP → Prop} {m : HP} (h : F30 c_1 page_2 R m) : Does Tryd.prog 30 #[(.pointer c_1), (.int .i64 page_2)] m R :=
  fn_of_den mixed (ann := ann30) Tryd.func30 call30 (c := code30) (by kernel_rfl) (by kernel_rfl) (args := [(.pointer c_1), (.int .i64 page_2)]) (Nat.le_of_ble_eq_true (by kernel_rfl)) (.inl (by kernel_rfl)) (by rw [den30]; exact h)
/-! (*treadle/cell.Cells).Flush -/
noncomputable def code33 : Code := (Tryd.f33.body).getD .skip
def F33_j11 (t28_11 : Int) (again_10 : (Int × Unit) → HP → Prop) (R : Ending → HP → Prop) : HP → Prop :=
  hInt .i64 (t28_11 + 1) fun v_23 =>
  again_10 (v_23, ())
def F33_l6 (c_1 : Option Addr) (p_2 : Int) (v_8 : Sl) (t28_11 : Int) (again_10 : (Int × Unit) → HP → Prop) (R : Ending → HP → Prop) : HP → Prop :=
  hIf (decide (t28_11 < ((v_8.n : Nat) : Int)))
    (hLet (α := Unit) (fun k_12 => hIdx v_8.a v_8.n t28_11 1 fun a_13 =>
  hLoad .ptr a_13 fun (v_14 : Option Addr) =>
  hIf (!(Option.isNone v_14))
    (hNil c_1 fun a_15 =>
  hLoad .slice (a_15.add 2) fun (v_16 : Sl) =>
  hIdx v_16.a v_16.n p_2 1 fun a_17 =>
  hLoad .slice a_17 fun (v_18 : Sl) =>
  hNil v_14 fun a_19 =>
  hStore (.bool false) (a_19.add 5)
    (hIdx v_18.a v_18.n t28_11 1 fun a_20 =>
  hStore (.pointer none) a_20
    (hCall Tryd.prog 54 #[(.pointer c_1), (.pointer v_14)] (fun ch => R (.panicked ch)) fun _ =>
  k_12 (()))))
    (k_12 (())))
    (fun x_22 => hAll fun _ => F33_j11 t28_11 again_10 R))
    (R (.returned (.int .i64 0)))
def F33 (c_1 : Option Addr) (p_2 : Int) (R : Ending → HP → Prop) : HP → Prop :=
  hIf (Option.isNone c_1)
    (R (.returned (.int .i64 5)))
    (hIf (decide (p_2 < 0))
    (R (.returned (.int .i64 1)))
    (hNil c_1 fun a_3 =>
  hLoad .slice (a_3.add 2) fun (v_4 : Sl) =>
  hIf (decide (p_2 ≥ ((v_4.n : Nat) : Int)))
    (R (.returned (.int .i64 1)))
    (hNil c_1 fun a_5 =>
  hLoad .slice (a_5.add 2) fun (v_6 : Sl) =>
  hIdx v_6.a v_6.n p_2 1 fun a_7 =>
  hLoad .slice a_7 fun (v_8 : Sl) =>
  hLoop (α := Int × Unit) (0, ()) fun x_9 again_10 => hAll fun _ => F33_l6 c_1 p_2 v_8 x_9.1 again_10 R)))
def ann33 : Ann := { loop := [(6, [(28, (Ty.int .i64))])], cut := [(11, [])] }
theorem den33 (c_1 : Option Addr) (p_2 : Int) (R : Ending → HP → Prop) : denF Tryd.prog ann33 Tryd.f33.ntmps Tryd.f33.results.toList code33 [(.pointer c_1), (.int .i64 p_2)] R = F33 c_1 p_2 R := by kernel_rfl
theorem call33 : Callable Tryd.prog 33 := fun a w => Tryd.call33 a w
theorem F33_fn {c_1 : Option Addr} {p_2 : Int} {R : Ending → HP → Prop} {m : HP} (h : F33 c_1 p_2 R m) : Does Tryd.prog 33 #[(.pointer c_1), (.int .i64 p_2)] m R :=
  fn_of_den mixed (ann := ann33) Tryd.func33 call33 (c := code33) (by kernel_rfl) (by kernel_rfl) (args := [(.pointer c_1), (.int .i64 p_2)]) (Nat.le_of_ble_eq_true (by kernel_rfl)) (.inl (by kernel_rfl)) (by rw [den33]; exact h)
/-! (*treadle/cell.Cells).Pages -/
noncomputable def code34 : Code := (Tryd.f34.body).getD .skip
def F34 (c_1 : Option Addr) (n_2 : Int) (R : Ending → HP → Prop) : HP → Prop :=
  hIf (Option.isNone c_1)
    (R (.returned (.tuple #[(.int .i64 0), (.int .i64 5)])))
    (hNil c_1 fun a_3 =>
  hLoad .ptr a_3 fun (v_4 : Option Addr) =>
  hCall Tryd.prog 11 #[(.pointer v_4), (.int .i64 n_2), (.int .i64 0)] (fun ch => R (.panicked ch)) fun r_5 m => ∃ (r_6 : Int) (r_7 : Int) (r_8 : Int) (v_9 : Int), r_5 = (.tuple #[(.agg #[(.int .i64 r_6), (.int .i64 r_7), (.int .i64 r_8)]), (.int .i64 v_9)]) ∧ (hNew #[(.int .i64 0), (.int .i64 0), (.int .i64 0)] 34 fun b_10 =>
  hStore (.int .i64 r_6) ⟨b_10, 0, none⟩
    (hStore (.int .i64 r_7) ⟨b_10, 1, none⟩
    (hStore (.int .i64 r_8) ⟨b_10, 2, none⟩
    (hLoad (.int .i64) ⟨b_10, 0, none⟩ fun (v_11 : Int) =>
  R (.returned (.tuple #[(.int .i64 v_11), (.int .i64 v_9)])))))) m)
def ann34 : Ann := { loop := [], cut := [] }
theorem den34 (c_1 : Option Addr) (n_2 : Int) (R : Ending → HP → Prop) : denF Tryd.prog ann34 Tryd.f34.ntmps Tryd.f34.results.toList code34 [(.pointer c_1), (.int .i64 n_2)] R = F34 c_1 n_2 R := by kernel_rfl
theorem call34 : Callable Tryd.prog 34 := fun a w => Tryd.call34 a w
theorem F34_fn {c_1 : Option Addr} {n_2 : Int} {R : Ending → HP → Prop} {m : HP} (h : F34 c_1 n_2 R m) : Does Tryd.prog 34 #[(.pointer c_1), (.int .i64 n_2)] m R :=
  fn_of_den mixed (ann := ann34) Tryd.func34 call34 (c := code34) (by kernel_rfl) (by kernel_rfl) (args := [(.pointer c_1), (.int .i64 n_2)]) (Nat.le_of_ble_eq_true (by kernel_rfl)) (.inl (by kernel_rfl)) (by rw [den34]; exact h)
/-! (*treadle/cell.Cells).Give -/
noncomputable def code35 : Code := (Tryd.f35.body).getD .skip
def F35 (c_1 : Option Addr) (base_2 : Int) (R : Ending → HP → Prop) : HP → Prop :=
  hIf (Option.isNone c_1)
    (R (.returned (.int .i64 5)))
    (hNil c_1 fun a_3 =>
  hLoad .ptr a_3 fun (v_4 : Option Addr) =>
  hCall Tryd.prog 15 #[(.pointer v_4), (.int .i64 base_2)] (fun ch => R (.panicked ch)) fun r_5 m => ∃ (r_6 : Int) (r_7 : Int) (r_8 : Int) (v_9 : Bool), r_5 = (.tuple #[(.agg #[(.int .i64 r_6), (.int .i64 r_7), (.int .i64 r_8)]), (.bool v_9)]) ∧ (hNew #[(.int .i64 0), (.int .i64 0), (.int .i64 0)] 34 fun b_10 =>
  hStore (.int .i64 r_6) ⟨b_10, 0, none⟩
    (hStore (.int .i64 r_7) ⟨b_10, 1, none⟩
    (hStore (.int .i64 r_8) ⟨b_10, 2, none⟩
    (hIf (!v_9)
    (R (.returned (.int .i64 4)))
    (hLoad (.int .i64) ⟨b_10, 0, none⟩ fun (v_11 : Int) =>
  hIf (v_11 != base_2)
    (R (.returned (.int .i64 4)))
    (hNil c_1 fun a_12 =>
  hLoad .map (a_12.add 1) fun (v_13 : Option Nat) =>
  hGet .i64 v_13 base_2 fun o_14 m => ∃ v_15 : Option Addr, o_14.getD (.pointer none) = (.pointer v_15) ∧ (hIf (!(Option.isNone v_15))
    (R (.returned (.int .i64 4)))
    (hNil c_1 fun a_16 =>
  hLoad .ptr a_16 fun (v_17 : Option Addr) =>
  hCall Tryd.prog 13 #[(.pointer v_17), (.int .i64 base_2)] (fun ch => R (.panicked ch)) fun r_18 m => ∃ (v_19 : Int), r_18 = (.int .i64 v_19) ∧ (R (.returned (.int .i64 v_19))) m)) m)))))) m)
def ann35 : Ann := { loop := [], cut := [] }
theorem den35 (c_1 : Option Addr) (base_2 : Int) (R : Ending → HP → Prop) : denF Tryd.prog ann35 Tryd.f35.ntmps Tryd.f35.results.toList code35 [(.pointer c_1), (.int .i64 base_2)] R = F35 c_1 base_2 R := by kernel_rfl
theorem call35 : Callable Tryd.prog 35 := fun a w => Tryd.call35 a w
theorem F35_fn {c_1 : Option Addr} {base_2 : Int} {R : Ending → HP → Prop} {m : HP} (h : F35 c_1 base_2 R m) : Does Tryd.prog 35 #[(.pointer c_1), (.int .i64 base_2)] m R :=
  fn_of_den mixed (ann := ann35) Tryd.func35 call35 (c := code35) (by kernel_rfl) (by kernel_rfl) (args := [(.pointer c_1), (.int .i64 base_2)]) (Nat.le_of_ble_eq_true (by kernel_rfl)) (.inl (by kernel_rfl)) (by rw [den35]; exact h)
/-! (*treadle/cell.Cells).block -/
noncomputable def code48 : Code := (Tryd.f48.body).getD .skip
def F48 (c_1 : Option Addr) (pages_2 : Int) (of_3 : Int) (R : Ending → HP → Prop) : HP → Prop :=
  hNil c_1 fun a_4 =>
  hLoad .ptr a_4 fun (v_5 : Option Addr) =>
  hInt .i64 (of_3 + 1) fun v_6 =>
  hCall Tryd.prog 11 #[(.pointer v_5), (.int .i64 pages_2), (.int .i64 v_6)] (fun ch => R (.panicked ch)) fun r_7 m => ∃ (r_8 : Int) (r_9 : Int) (r_10 : Int) (v_11 : Int), r_7 = (.tuple #[(.agg #[(.int .i64 r_8), (.int .i64 r_9), (.int .i64 r_10)]), (.int .i64 v_11)]) ∧ (hNew #[(.int .i64 0), (.int .i64 0), (.int .i64 0)] 34 fun b_12 =>
  hStore (.int .i64 r_8) ⟨b_12, 0, none⟩
    (hStore (.int .i64 r_9) ⟨b_12, 1, none⟩
    (hStore (.int .i64 r_10) ⟨b_12, 2, none⟩
    (hIf (v_11 != 0)
    (R (.returned (.tuple #[(.pointer none), (.int .i64 v_11)])))
    (hLoad (.int .i64) ⟨b_12, 0, none⟩ fun (v_13 : Int) =>
  hLoad (.int .i64) ⟨b_12, 1, none⟩ fun (v_14 : Int) =>
  hLoad (.int .i64) ⟨b_12, 2, none⟩ fun (v_15 : Int) =>
  hNew #[(.int .i64 v_13), (.int .i64 v_14), (.int .i64 v_15), (.int .i64 of_3), (.int .u64 0), (.bool false)] 107 fun b_16 =>
  hNil c_1 fun a_17 =>
  hLoad .map (a_17.add 1) fun (v_18 : Option Nat) =>
  hLoad (.int .i64) ⟨b_12, 0, none⟩ fun (v_19 : Int) =>
  hPut .i64 v_18 v_19 (.pointer (some ⟨b_16, 0, none⟩))
    (R (.returned (.tuple #[(.pointer (some ⟨b_16, 0, none⟩)), (.int .i64 0)])))))))) m
def ann48 : Ann := { loop := [], cut := [] }
theorem den48 (c_1 : Option Addr) (pages_2 : Int) (of_3 : Int) (R : Ending → HP → Prop) : denF Tryd.prog ann48 Tryd.f48.ntmps Tryd.f48.results.toList code48 [(.pointer c_1), (.int .i64 pages_2), (.int .i64 of_3)] R = F48 c_1 pages_2 of_3 R := by kernel_rfl
theorem call48 : Callable Tryd.prog 48 := fun a w => Tryd.call48 a w
theorem F48_fn {c_1 : Option Addr} {pages_2 : Int} {of_3 : Int} {R : Ending → HP → Prop} {m : HP} (h : F48 c_1 pages_2 of_3 R m) : Does Tryd.prog 48 #[(.pointer c_1), (.int .i64 pages_2), (.int .i64 of_3)] m R :=
  fn_of_den mixed (ann := ann48) Tryd.func48 call48 (c := code48) (by kernel_rfl) (by kernel_rfl) (args := [(.pointer c_1), (.int .i64 pages_2), (.int .i64 of_3)]) (Nat.le_of_ble_eq_true (by kernel_rfl)) (.inl (by kernel_rfl)) (by rw [den48]; exact h)
/-! (*treadle/cell.Cells).count -/
noncomputable def code49 : Code := (Tryd.f49.body).getD .skip
def F49 (c_1 : Option Addr) (b_2 : Option Addr) (k_3 : Int) (R : Ending → HP → Prop) : HP → Prop :=
  hNil c_1 fun a_4 =>
  hLoad (.int .i64) (a_4.add 3) fun (v_5 : Int) =>
  hInt .i64 (v_5 + 1) fun v_6 =>
  hNil c_1 fun a_7 =>
  hStore (.int .i64 v_6) (a_7.add 3)
    (hNil c_1 fun a_8 =>
  hLoad (.int .i64) (a_8.add 4) fun (v_9 : Int) =>
  hCall Tryd.prog 53 #[(.pointer b_2)] (fun ch => R (.panicked ch)) fun r_10 m => ∃ (v_11 : Int), r_10 = (.int .i64 v_11) ∧ (hLoad (.int .i64) (a_8.add 4) fun (v_12 : Int) =>
  fun m => ((.int .i64 v_12) : Value) = (.int .i64 v_9) ∧ (hInt .i64 (v_9 + v_11) fun v_13 =>
  hNil c_1 fun a_14 =>
  hStore (.int .i64 v_13) (a_14.add 4)
    (hNil b_2 fun a_15 =>
  hLoad (.int .i64) a_15 fun (v_16 : Int) =>
  hInt .i64 (v_16 * 64) fun v_17 =>
  hCall Tryd.prog 53 #[(.pointer b_2)] (fun ch => R (.panicked ch)) fun r_18 m => ∃ (v_19 : Int), r_18 = (.int .i64 v_19) ∧ (hLoad (.int .i64) a_15 fun (v_20 : Int) =>
  fun m => ((.int .i64 v_20) : Value) = (.int .i64 v_16) ∧ (hInt .i64 (k_3 * v_19) fun v_21 =>
  hInt .i64 (v_17 + v_21) fun v_22 =>
  R (.returned (.int .i64 v_22))) m) m)) m) m)
def ann49 : Ann := { loop := [], cut := [] }
theorem den49 (c_1 : Option Addr) (b_2 : Option Addr) (k_3 : Int) (R : Ending → HP → Prop) : denF Tryd.prog ann49 Tryd.f49.ntmps Tryd.f49.results.toList code49 [(.pointer c_1), (.pointer b_2), (.int .i64 k_3)] R = F49 c_1 b_2 k_3 R := by kernel_rfl
theorem call49 : Callable Tryd.prog 49 := fun a w => Tryd.call49 a w
theorem F49_fn {c_1 : Option Addr} {b_2 : Option Addr} {k_3 : Int} {R : Ending → HP → Prop} {m : HP} (h : F49 c_1 b_2 k_3 R m) : Does Tryd.prog 49 #[(.pointer c_1), (.pointer b_2), (.int .i64 k_3)] m R :=
  fn_of_den mixed (ann := ann49) Tryd.func49 call49 (c := code49) (by kernel_rfl) (by kernel_rfl) (args := [(.pointer c_1), (.pointer b_2), (.int .i64 k_3)]) (Nat.le_of_ble_eq_true (by kernel_rfl)) (.inl (by kernel_rfl)) (by rw [den49]; exact h)
/-! (*treadle/cell.Cells).take -/
noncomputable def code50 : Code := (Tryd.f50.body).getD .skip
def F50_j12 (c_1 : Option Addr) (p_2 : Int) (of_3 : Int) (b_29 : Option Addr) (R : Ending → HP → Prop) : HP → Prop :=
  hNil c_1 fun a_30 =>
  hLoad .slice (a_30.add 2) fun (v_31 : Sl) =>
  hIdx v_31.a v_31.n p_2 1 fun a_32 =>
  hLoad .slice a_32 fun (v_33 : Sl) =>
  hNil b_29 fun a_34 =>
  hStore (.bool true) (a_34.add 5)
    (hIdx v_33.a v_33.n of_3 1 fun a_35 =>
  hStore (.pointer b_29) a_35
    (R (.returned (.tuple #[(.pointer b_29), (.int .i64 0)]))))
def F50_j6 (c_1 : Option Addr) (p_2 : Int) (of_3 : Int) (R : Ending → HP → Prop) : HP → Prop :=
  hLet (α := Option Addr × Unit) (fun k_20 => hCall Tryd.prog 70 #[(.pointer c_1), (.int .i64 of_3)] (fun ch => R (.panicked ch)) fun r_21 m => ∃ (v_22 : Option Addr), r_21 = (.pointer v_22) ∧ (hIf (Option.isNone v_22)
    (hCall Tryd.prog 71 #[(.int .i64 of_3)] (fun ch => R (.panicked ch)) fun r_23 m => ∃ (v_24 : Int), r_23 = (.int .i64 v_24) ∧ (hCall Tryd.prog 48 #[(.pointer c_1), (.int .i64 v_24), (.int .i64 of_3)] (fun ch => R (.panicked ch)) fun r_25 m => ∃ (v_26 : Option Addr) (v_27 : Int), r_25 = (.tuple #[(.pointer v_26), (.int .i64 v_27)]) ∧ (hIf (v_27 != 0)
    (R (.returned (.tuple #[(.pointer none), (.int .i64 v_27)])))
    (k_20 (v_26, ()))) m) m)
    (k_20 (v_22, ()))) m)
    (fun x_28 => hAll fun _ => F50_j12 c_1 p_2 of_3 x_28.1 R)
def F50_j12_2 (c_1 : Option Addr) (p_2 : Int) (of_3 : Int) (b_53 : Option Addr) (R : Ending → HP → Prop) : HP → Prop :=
  hNil c_1 fun a_54 =>
  hLoad .slice (a_54.add 2) fun (v_55 : Sl) =>
  hIdx v_55.a v_55.n p_2 1 fun a_56 =>
  hLoad .slice a_56 fun (v_57 : Sl) =>
  hNil b_53 fun a_58 =>
  hStore (.bool true) (a_58.add 5)
    (hIdx v_57.a v_57.n of_3 1 fun a_59 =>
  hStore (.pointer b_53) a_59
    (R (.returned (.tuple #[(.pointer b_53), (.int .i64 0)]))))
def F50_j6_2 (c_1 : Option Addr) (p_2 : Int) (of_3 : Int) (R : Ending → HP → Prop) : HP → Prop :=
  hLet (α := Option Addr × Unit) (fun k_44 => hCall Tryd.prog 70 #[(.pointer c_1), (.int .i64 of_3)] (fun ch => R (.panicked ch)) fun r_45 m => ∃ (v_46 : Option Addr), r_45 = (.pointer v_46) ∧ (hIf (Option.isNone v_46)
    (hCall Tryd.prog 71 #[(.int .i64 of_3)] (fun ch => R (.panicked ch)) fun r_47 m => ∃ (v_48 : Int), r_47 = (.int .i64 v_48) ∧ (hCall Tryd.prog 48 #[(.pointer c_1), (.int .i64 v_48), (.int .i64 of_3)] (fun ch => R (.panicked ch)) fun r_49 m => ∃ (v_50 : Option Addr) (v_51 : Int), r_49 = (.tuple #[(.pointer v_50), (.int .i64 v_51)]) ∧ (hIf (v_51 != 0)
    (R (.returned (.tuple #[(.pointer none), (.int .i64 v_51)])))
    (k_44 (v_50, ()))) m) m)
    (k_44 (v_46, ()))) m)
    (fun x_52 => hAll fun _ => F50_j12_2 c_1 p_2 of_3 x_52.1 R)
def F50 (c_1 : Option Addr) (p_2 : Int) (of_3 : Int) (R : Ending → HP → Prop) : HP → Prop :=
  hNil c_1 fun a_4 =>
  hLoad .slice (a_4.add 2) fun (v_5 : Sl) =>
  hIdx v_5.a v_5.n p_2 1 fun a_6 =>
  hLoad .slice a_6 fun (v_7 : Sl) =>
  hIdx v_7.a v_7.n of_3 1 fun a_8 =>
  hLoad .ptr a_8 fun (v_9 : Option Addr) =>
  hIf (!(Option.isNone v_9))
    (hCall Tryd.prog 69 #[(.pointer v_9)] (fun ch => R (.panicked ch)) fun r_10 m => ∃ (v_11 : Bool), r_10 = (.bool v_11) ∧ (hIf (!v_11)
    (R (.returned (.tuple #[(.pointer v_9), (.int .i64 0)])))
    (hLet (α := Unit) (fun k_12 => hIf (!(Option.isNone v_9))
    (hNil c_1 fun a_13 =>
  hLoad .slice (a_13.add 2) fun (v_14 : Sl) =>
  hIdx v_14.a v_14.n p_2 1 fun a_15 =>
  hLoad .slice a_15 fun (v_16 : Sl) =>
  hNil v_9 fun a_17 =>
  hStore (.bool false) (a_17.add 5)
    (hIdx v_16.a v_16.n of_3 1 fun a_18 =>
  hStore (.pointer none) a_18
    (k_12 (()))))
    (k_12 (())))
    (fun x_19 => hAll fun _ => F50_j6 c_1 p_2 of_3 R))) m)
    (hLet (α := Unit) (fun k_36 => hIf (!(Option.isNone v_9))
    (hNil c_1 fun a_37 =>
  hLoad .slice (a_37.add 2) fun (v_38 : Sl) =>
  hIdx v_38.a v_38.n p_2 1 fun a_39 =>
  hLoad .slice a_39 fun (v_40 : Sl) =>
  hNil v_9 fun a_41 =>
  hStore (.bool false) (a_41.add 5)
    (hIdx v_40.a v_40.n of_3 1 fun a_42 =>
  hStore (.pointer none) a_42
    (k_36 (()))))
    (k_36 (())))
    (fun x_43 => hAll fun _ => F50_j6_2 c_1 p_2 of_3 R))
def ann50 : Ann := { loop := [], cut := [(6, []), (12, [(8, Ty.ptr)])] }
theorem den50 (c_1 : Option Addr) (p_2 : Int) (of_3 : Int) (R : Ending → HP → Prop) : denF Tryd.prog ann50 Tryd.f50.ntmps Tryd.f50.results.toList code50 [(.pointer c_1), (.int .i64 p_2), (.int .i64 of_3)] R = F50 c_1 p_2 of_3 R := by kernel_rfl
theorem call50 : Callable Tryd.prog 50 := fun a w => Tryd.call50 a w
theorem F50_fn {c_1 : Option Addr} {p_2 : Int} {of_3 : Int} {R : Ending → HP → Prop} {m : HP} (h : F50 c_1 p_2 of_3 R m) : Does Tryd.prog 50 #[(.pointer c_1), (.int .i64 p_2), (.int .i64 of_3)] m R :=
  fn_of_den mixed (ann := ann50) Tryd.func50 call50 (c := code50) (by kernel_rfl) (by kernel_rfl) (args := [(.pointer c_1), (.int .i64 p_2), (.int .i64 of_3)]) (Nat.le_of_ble_eq_true (by kernel_rfl)) (.inl (by kernel_rfl)) (by rw [den50]; exact h)
/-! (*treadle/cell.Cells).find -/
noncomputable def code52 : Code := (Tryd.f52.body).getD .skip
def F52 (c_1 : Option Addr) (addr_2 : Int) (R : Ending → HP → Prop) : HP → Prop :=
  hIf (Option.isNone c_1)
    (R (.returned (.tuple #[(.pointer none), (.int .i64 0), (.bool false)])))
    (hIf (decide (addr_2 < 0))
    (R (.returned (.tuple #[(.pointer none), (.int .i64 0), (.bool false)])))
    (hNil c_1 fun a_3 =>
  hLoad .ptr a_3 fun (v_4 : Option Addr) =>
  hQuo .i64 addr_2 64 fun v_5 =>
  hCall Tryd.prog 15 #[(.pointer v_4), (.int .i64 v_5)] (fun ch => R (.panicked ch)) fun r_6 m => ∃ (r_7 : Int) (r_8 : Int) (r_9 : Int) (v_10 : Bool), r_6 = (.tuple #[(.agg #[(.int .i64 r_7), (.int .i64 r_8), (.int .i64 r_9)]), (.bool v_10)]) ∧ (hNew #[(.int .i64 0), (.int .i64 0), (.int .i64 0)] 34 fun b_11 =>
  hStore (.int .i64 r_7) ⟨b_11, 0, none⟩
    (hStore (.int .i64 r_8) ⟨b_11, 1, none⟩
    (hStore (.int .i64 r_9) ⟨b_11, 2, none⟩
    (hIf (!v_10)
    (R (.returned (.tuple #[(.pointer none), (.int .i64 0), (.bool false)])))
    (hNil c_1 fun a_12 =>
  hLoad .map (a_12.add 1) fun (v_13 : Option Nat) =>
  hLoad (.int .i64) ⟨b_11, 0, none⟩ fun (v_14 : Int) =>
  hGet .i64 v_13 v_14 fun o_15 m => ∃ v_16 : Option Addr, o_15.getD (.pointer none) = (.pointer v_16) ∧ (hIf (Option.isNone v_16)
    (R (.returned (.tuple #[(.pointer none), (.int .i64 0), (.bool false)])))
    (hLoad (.int .i64) ⟨b_11, 0, none⟩ fun (v_17 : Int) =>
  hInt .i64 (v_17 * 64) fun v_18 =>
  hInt .i64 (addr_2 - v_18) fun v_19 =>
  hCall Tryd.prog 53 #[(.pointer v_16)] (fun ch => R (.panicked ch)) fun r_20 m => ∃ (v_21 : Int), r_20 = (.int .i64 v_21) ∧ (hLoad (.int .i64) ⟨b_11, 0, none⟩ fun (v_22 : Int) =>
  fun m => ((.int .i64 v_22) : Value) = (.int .i64 v_17) ∧ (hQuo .i64 v_19 v_21 fun v_23 =>
  hIf (decide (v_23 < 64))
    (hNil v_16 fun a_24 =>
  hLoad (.int .u64) (a_24.add 4) fun (v_25 : Int) =>
  hShr .u64 v_25 v_23 fun v_26 =>
  R (.returned (.tuple #[(.pointer v_16), (.int .i64 v_23), (.bool ((bitv .and .u64 v_26 1) == 1))])))
    (R (.returned (.tuple #[(.pointer v_16), (.int .i64 v_23), (.bool false)])))) m) m)) m))))) m))
def ann52 : Ann := { loop := [], cut := [] }
theorem den52 (c_1 : Option Addr) (addr_2 : Int) (R : Ending → HP → Prop) : denF Tryd.prog ann52 Tryd.f52.ntmps Tryd.f52.results.toList code52 [(.pointer c_1), (.int .i64 addr_2)] R = F52 c_1 addr_2 R := by kernel_rfl
theorem call52 : Callable Tryd.prog 52 := fun a w => Tryd.call52 a w
theorem F52_fn {c_1 : Option Addr} {addr_2 : Int} {R : Ending → HP → Prop} {m : HP} (h : F52 c_1 addr_2 R m) : Does Tryd.prog 52 #[(.pointer c_1), (.int .i64 addr_2)] m R :=
  fn_of_den mixed (ann := ann52) Tryd.func52 call52 (c := code52) (by kernel_rfl) (by kernel_rfl) (args := [(.pointer c_1), (.int .i64 addr_2)]) (Nat.le_of_ble_eq_true (by kernel_rfl)) (.inl (by kernel_rfl)) (by rw [den52]; exact h)
/-! (*treadle/cell.block).words -/
noncomputable def code53 : Code := (Tryd.f53.body).getD .skip
def F53 (b_1 : Option Addr) (R : Ending → HP → Prop) : HP → Prop :=
  hNil b_1 fun a_2 =>
  hLoad (.int .i64) (a_2.add 3) fun (v_3 : Int) =>
  hIf (decide (v_3 < 0))
    (hNil b_1 fun a_4 =>
  hLoad (.int .i64) (a_4.add 1) fun (v_5 : Int) =>
  hInt .i64 (v_5 * 64) fun v_6 =>
  R (.returned (.int .i64 v_6)))
    (hNil b_1 fun a_7 =>
  hLoad (.int .i64) (a_7.add 3) fun (v_8 : Int) =>
  hCall Tryd.prog 72 #[(.int .i64 v_8)] (fun ch => R (.panicked ch)) fun r_9 m => ∃ (v_10 : Int), r_9 = (.int .i64 v_10) ∧ (R (.returned (.int .i64 v_10))) m)
def ann53 : Ann := { loop := [], cut := [] }
theorem den53 (b_1 : Option Addr) (R : Ending → HP → Prop) : denF Tryd.prog ann53 Tryd.f53.ntmps Tryd.f53.results.toList code53 [(.pointer b_1)] R = F53 b_1 R := by kernel_rfl
theorem call53 : Callable Tryd.prog 53 := fun a w => Tryd.call53 a w
theorem F53_fn {b_1 : Option Addr} {R : Ending → HP → Prop} {m : HP} (h : F53 b_1 R m) : Does Tryd.prog 53 #[(.pointer b_1)] m R :=
  fn_of_den mixed (ann := ann53) Tryd.func53 call53 (c := code53) (by kernel_rfl) (by kernel_rfl) (args := [(.pointer b_1)]) (Nat.le_of_ble_eq_true (by kernel_rfl)) (.inl (by kernel_rfl)) (by rw [den53]; exact h)
/-! (*treadle/cell.Cells).drop -/
noncomputable def code54 : Code := (Tryd.f54.body).getD .skip
def F54 (c_1 : Option Addr) (b_2 : Option Addr) (R : Ending → HP → Prop) : HP → Prop :=
  hNil b_2 fun a_3 =>
  hLoad (.int .u64) (a_3.add 4) fun (v_4 : Int) =>
  hIf (v_4 == 0)
    (hNil b_2 fun a_5 =>
  hLoad .bool (a_5.add 5) fun (v_6 : Bool) =>
  hIf (!v_6)
    (hNil c_1 fun a_7 =>
  hLoad .map (a_7.add 1) fun (v_8 : Option Nat) =>
  hNil b_2 fun a_9 =>
  hLoad (.int .i64) a_9 fun (v_10 : Int) =>
  hDel .i64 v_8 v_10
    (hNil c_1 fun a_11 =>
  hLoad .ptr a_11 fun (v_12 : Option Addr) =>
  hNil b_2 fun a_13 =>
  hLoad (.int .i64) a_13 fun (v_14 : Int) =>
  hCall Tryd.prog 13 #[(.pointer v_12), (.int .i64 v_14)] (fun ch => R (.panicked ch)) fun r_15 m => ∃ (v_16 : Int), r_15 = (.int .i64 v_16) ∧ (R (.returned (.tuple #[]))) m))
    (R (.returned (.tuple #[]))))
    (R (.returned (.tuple #[])))
def ann54 : Ann := { loop := [], cut := [] }
theorem den54 (c_1 : Option Addr) (b_2 : Option Addr) (R : Ending → HP → Prop) : denF Tryd.prog ann54 Tryd.f54.ntmps Tryd.f54.results.toList code54 [(.pointer c_1), (.pointer b_2)] R = F54 c_1 b_2 R := by kernel_rfl
theorem call54 : Callable Tryd.prog 54 := fun a w => Tryd.call54 a w
theorem F54_fn {c_1 : Option Addr} {b_2 : Option Addr} {R : Ending → HP → Prop} {m : HP} (h : F54 c_1 b_2 R m) : Does Tryd.prog 54 #[(.pointer c_1), (.pointer b_2)] m R :=
  fn_of_den mixed (ann := ann54) Tryd.func54 call54 (c := code54) (by kernel_rfl) (by kernel_rfl) (args := [(.pointer c_1), (.pointer b_2)]) (Nat.le_of_ble_eq_true (by kernel_rfl)) (.inl (by kernel_rfl)) (by rw [den54]; exact h)
/-! (*treadle/cell.block).full -/
noncomputable def code69 : Code := (Tryd.f69.body).getD .skip
def F69 (b_1 : Option Addr) (R : Ending → HP → Prop) : HP → Prop :=
  hNil b_1 fun a_2 =>
  hLoad (.int .u64) (a_2.add 4) fun (v_3 : Int) =>
  hNil b_1 fun a_4 =>
  hLoad (.int .i64) (a_4.add 3) fun (v_5 : Int) =>
  hCall Tryd.prog 83 #[(.int .u64 v_3)] (fun ch => R (.panicked ch)) fun r_6 m => ∃ (v_7 : Int), r_6 = (.int .i64 v_7) ∧ (hLoad (.int .i64) (a_4.add 3) fun (v_8 : Int) =>
  fun m => ((.int .i64 v_8) : Value) = (.int .i64 v_5) ∧ (hCall Tryd.prog 84 #[(.int .i64 v_5)] (fun ch => R (.panicked ch)) fun r_9 m => ∃ (v_10 : Int), r_9 = (.int .i64 v_10) ∧ (R (.returned (.bool (v_7 == v_10)))) m) m) m
def ann69 : Ann := { loop := [], cut := [] }
theorem den69 (b_1 : Option Addr) (R : Ending → HP → Prop) : denF Tryd.prog ann69 Tryd.f69.ntmps Tryd.f69.results.toList code69 [(.pointer b_1)] R = F69 b_1 R := by kernel_rfl
theorem call69 : Callable Tryd.prog 69 := fun a w => Tryd.call69 a w
theorem F69_fn {b_1 : Option Addr} {R : Ending → HP → Prop} {m : HP} (h : F69 b_1 R m) : Does Tryd.prog 69 #[(.pointer b_1)] m R :=
  fn_of_den mixed (ann := ann69) Tryd.func69 call69 (c := code69) (by kernel_rfl) (by kernel_rfl) (args := [(.pointer b_1)]) (Nat.le_of_ble_eq_true (by kernel_rfl)) (.inl (by kernel_rfl)) (by rw [den69]; exact h)
/-! (*treadle/cell.Cells).spare -/
noncomputable def code70 : Code := (Tryd.f70.body).getD .skip
def F70 (c_1 : Option Addr) (of_2 : Int) (R : Ending → HP → Prop) : HP → Prop :=
  hNew #[(.pointer c_1)] 55 fun b_3 =>
  hNew #[(.int .i64 of_2)] 3 fun b_4 =>
  hNew #[(.pointer none)] 102 fun b_5 =>
  hLoad .ptr ⟨b_3, 0, none⟩ fun (v_6 : Option Addr) =>
  hNil v_6 fun a_7 =>
  hLoad .ptr a_7 fun (v_8 : Option Addr) =>
  hCall Tryd.prog 45 #[(.pointer v_8)] (fun ch => R (.panicked ch)) fun r_9 m => ∃ (v_10 : Value), r_9 = v_10 ∧ (hRange Tryd.prog 43 v_10 [(2, (.pointer (some ⟨b_3, 0, none⟩))), (3, (.pointer (some ⟨b_4, 0, none⟩))), (4, (.pointer (some ⟨b_5, 0, none⟩)))] (rangeAt 0 code70) (fun r_11 =>
  hStore (.pointer none) ⟨b_5, 0, none⟩
    (fun m => ∃ m', m = pt r_11 (.deferred (some [])) + m' ∧ (hLoad .ptr ⟨b_5, 0, none⟩ fun (r_14 : Option Addr) =>
  R (.returned (.pointer r_14))) m'))
   (fun r_11 =>
  fun m => ∃ m', m = pt r_11 (.deferred (some [])) + m' ∧ (hLoad .ptr ⟨b_5, 0, none⟩ fun (r_15 : Option Addr) =>
  R (.returned (.pointer r_15))) m')
   (fun i_12 r_11 =>
  hPick (i_12 == 0)
    (hStore (.pointer none) ⟨b_5, 0, none⟩
    (fun m => ∃ m', m = pt r_11 (.deferred (some [])) + m' ∧ (hLoad .ptr ⟨b_5, 0, none⟩ fun (r_13 : Option Addr) =>
  R (.returned (.pointer r_13))) m'))
    (no))) m
def ann70 : Ann := { loop := [], cut := [], range := [(3, [2, 3, 4])] }
theorem den70 (c_1 : Option Addr) (of_2 : Int) (R : Ending → HP → Prop) : denF Tryd.prog ann70 Tryd.f70.ntmps Tryd.f70.results.toList code70 [(.pointer c_1), (.int .i64 of_2)] R = F70 c_1 of_2 R := by kernel_rfl
theorem call70 : Callable Tryd.prog 70 := fun a w => Tryd.call70 a w
theorem F70_fn {c_1 : Option Addr} {of_2 : Int} {R : Ending → HP → Prop} {m : HP} (hR : ∀ ch m, ¬ R (.panicked ch) m) (h : F70 c_1 of_2 R m) : Does Tryd.prog 70 #[(.pointer c_1), (.int .i64 of_2)] m R :=
  fn_of_den mixed (ann := ann70) Tryd.func70 call70 (c := code70) (by kernel_rfl) (by kernel_rfl) (args := [(.pointer c_1), (.int .i64 of_2)]) (Nat.le_of_ble_eq_true (by kernel_rfl)) (.inr hR) (by rw [den70]; exact h)
def F70_r0 (a_16 : Addr) (a_17 : Addr) (a_18 : Addr) (y_19 : Int) (y_20 : Int) (y_21 : Int) (l : Nat) (rc : Loop) (R : Ending → HP → Prop) : HP → Prop :=
  hAll fun _ =>
  hNew #[(.int .i64 0), (.int .i64 0), (.int .i64 0)] 34 fun b_22 =>
  hStore (.int .i64 y_19) ⟨b_22, 0, none⟩
    (hStore (.int .i64 y_20) ⟨b_22, 1, none⟩
    (hStore (.int .i64 y_21) ⟨b_22, 2, none⟩
    (hRec l rc (rcBusy rc) (
  hLoad .ptr a_16 fun (v_23 : Option Addr) =>
  hNil v_23 fun a_24 =>
  hLoad .map (a_24.add 1) fun (v_25 : Option Nat) =>
  hLoad (.int .i64) ⟨b_22, 0, none⟩ fun (v_26 : Int) =>
  hGet .i64 v_25 v_26 fun o_27 m => ∃ v_28 : Option Addr, o_27.getD (.pointer none) = (.pointer v_28) ∧ (hIf (!(Option.isNone v_28))
    (hNil v_28 fun a_29 =>
  hLoad (.int .i64) (a_29.add 3) fun (v_30 : Int) =>
  hLoad (.int .i64) a_17 fun (v_31 : Int) =>
  hIf (v_30 == v_31)
    (hNil v_28 fun a_32 =>
  hLoad .bool (a_32.add 5) fun (v_33 : Bool) =>
  hIf (!v_33)
    (hCall Tryd.prog 69 #[(.pointer v_28)] (fun _ => no) fun r_34 m => ∃ (v_35 : Bool), r_34 = (.bool v_35) ∧ (hIf (!v_35)
    (hStore (.pointer v_28) a_18
    (hRec l (rcBusy rc) (rcDone rc .ret) (R (.returned (.bool false)))))
    (hRec l (rcBusy rc) (rcNext rc) (R (.returned (.bool true))))) m)
    (hRec l (rcBusy rc) (rcNext rc) (R (.returned (.bool true)))))
    (hRec l (rcBusy rc) (rcNext rc) (R (.returned (.bool true)))))
    (hRec l (rcBusy rc) (rcNext rc) (R (.returned (.bool true))))) m))))
theorem round70_0 (a_16 : Addr) (a_17 : Addr) (a_18 : Addr) (y_19 : Int) (y_20 : Int) (y_21 : Int) (l : Nat) (rc : Loop) (R : Ending → HP → Prop) : denRound Tryd.prog ann70 43 [(2, (.pointer (some a_16))), (3, (.pointer (some a_17))), (4, (.pointer (some a_18)))] (rangeAt 0 code70) l rc [(.agg #[(.int .i64 y_19), (.int .i64 y_20), (.int .i64 y_21)])] R = F70_r0 a_16 a_17 a_18 y_19 y_20 y_21 l rc R := by kernel_rfl
theorem F70_y0 {a_16 : Addr} {a_17 : Addr} {a_18 : Addr} {y_19 : Int} {y_20 : Int} {y_21 : Int} {l : Nat} {rc : Loop} {R : Ending → HP → Prop} {m m0 : HP} {rc0 : Loop} (hl : IsLoop 43 [(2, (.pointer (some a_16))), (3, (.pointer (some a_17))), (4, (.pointer (some a_18)))] (rangeAt 0 code70) rc0) (hrc : rc = { rc0 with state := .ready, pending := none }) (hm : m = pt l (.loop rc) + m0) (h : F70_r0 a_16 a_17 a_18 y_19 y_20 y_21 l rc R m) : HYield Tryd.prog l #[(.agg #[(.int .i64 y_19), (.int .i64 y_20), (.int .i64 y_21)])] m R :=
  yield_of_den mixed (ann := ann70) (args := [(.agg #[(.int .i64 y_19), (.int .i64 y_20), (.int .i64 y_21)])]) hl hrc (by kernel_rfl) hm (by rw [round70_0]; exact h)
end Go.Proofs.YtolfcdjbchdkgaaDoor
/- The number of bits that are set, as bits.OnesCount64 reckons it. Own work. -/
namespace Go.Proofs.YtolfcdjbchdkgaaDoor
open Go Go.Hp
set_option maxRecDepth 100000

/-- How many there are below n. -/
def cntT (f : Nat → Bool) : Nat → Nat
  | 0 => 0
  | n + 1 => cntT f n + (f n).toNat
theorem cntT_le (f : Nat → Bool) (n : Nat) : cntT f n ≤ n := by
  induction n with
  | zero => simp [cntT]
  | succ n ih => simp only [cntT]; have : (f n).toNat ≤ 1 := Bool.toNat_le (f n); omega
theorem cntT_full {f : Nat → Bool} {n : Nat} : cntT f n = n ↔ ∀ i, i < n → f i = true := by
  induction n with
  | zero => simp [cntT]
  | succ n ih =>
    simp only [cntT]
    have h1 := cntT_le f n
    have h2 : (f n).toNat ≤ 1 := Bool.toNat_le (f n)
    constructor
    · intro h i hi
      have h3 : cntT f n = n := by omega
      have h4 : (f n).toNat = 1 := by omega
      rcases Nat.lt_or_ge i n with h5 | h5
      · exact ih.1 h3 i h5
      · obtain rfl : i = n := by omega
        revert h4; cases f i <;> simp
    · intro h
      rw [ih.2 fun i hi => h i (by omega), h n (by omega)]; rfl
theorem cntT_more {f : Nat → Bool} {c : Nat} : ∀ {n : Nat}, c ≤ n → (∀ i, c ≤ i → f i = false) → cntT f n = cntT f c := by
  intro n
  induction n with
  | zero => intro h _; obtain rfl : c = 0 := by omega
            rfl
  | succ n ih =>
    intro h hf
    rcases Nat.lt_or_ge n c with h1 | h1
    · obtain rfl : c = n + 1 := by omega
      rfl
    · simp only [cntT]; rw [ih h1 hf, hf n h1]; rfl
theorem cntT_congr {f g : Nat → Bool} {n : Nat} (h : ∀ i, i < n → f i = g i) : cntT f n = cntT g n := by
  induction n with
  | zero => rfl
  | succ n ih => simp only [cntT]; rw [ih fun i hi => h i (by omega), h n (by omega)]
theorem cntT_set {f g : Nat → Bool} {k n : Nat} (hk : k < n) (h0 : f k = false) (h1 : g k = true) (h : ∀ i, i ≠ k → g i = f i) : cntT g n = cntT f n + 1 := by
  induction n with
  | zero => omega
  | succ n ih =>
    simp only [cntT]
    rcases Nat.lt_or_ge k n with h2 | h2
    · rw [ih h2, h n (by omega)]; omega
    · obtain rfl : k = n := by omega
      rw [cntT_congr fun i hi => h i (by omega), h0, h1]; simp
theorem cntT_zero {f : Nat → Bool} {n : Nat} : cntT f n = 0 ↔ ∀ i, i < n → f i = false := by
  induction n with
  | zero => simp [cntT]
  | succ n ih =>
    simp only [cntT]
    constructor
    · intro h i hi
      rcases Nat.lt_or_ge i n with h5 | h5
      · exact ih.1 (by omega) i h5
      · obtain rfl : i = n := by omega
        have : (f i).toNat = 0 := by omega
        revert this; cases f i <;> simp
    · intro h; rw [ih.2 fun i hi => h i (by omega), h n (by omega)]; rfl

/-- Digits to the base 2^w, the lowest first. -/
def dig (w : Nat) : List Nat → Nat
  | [] => 0
  | d :: l => d + 2 ^ w * dig w l
def evens : List Nat → List Nat
  | [] => []
  | [d] => [d]
  | d :: _ :: l => d :: evens l
def mask (w : Nat) : Nat → Nat
  | 0 => 0
  | k + 1 => (2 ^ w - 1) + 2 ^ (2 * w) * mask w k
theorem and_split {a m i x y : Nat} (ha : a < 2 ^ i) (hm : m < 2 ^ i) : (a + 2 ^ i * x) &&& (m + 2 ^ i * y) = (a &&& m) + 2 ^ i * (x &&& y) := by
  apply Nat.eq_of_testBit_eq
  intro j
  rw [Nat.testBit_and, Nat.add_comm a, Nat.add_comm m, Nat.add_comm (a &&& m), Nat.testBit_two_pow_mul_add _ ha, Nat.testBit_two_pow_mul_add _ hm,
    Nat.testBit_two_pow_mul_add _ (Nat.lt_of_le_of_lt Nat.and_le_left ha)]
  split
  · rw [Nat.testBit_and]
  · rw [Nat.testBit_and]
theorem dig_and {w : Nat} : ∀ (k : Nat) (l : List Nat), l.length ≤ 2 * k → (∀ d ∈ l, d < 2 ^ w) → dig w l &&& mask w k = dig (2 * w) (evens l)
  | 0, [], _, _ => by simp [dig, mask, evens]
  | 0, _ :: _, h, _ => by simp at h
  | k + 1, [], _, _ => by simp [dig, evens]
  | k + 1, [d], _, h => by
    have hd := h d (by simp)
    have hp := Nat.two_pow_pos w
    have h2 : 2 ^ w ≤ 2 ^ (2 * w) := Nat.pow_le_pow_right (by omega) (by omega)
    simp only [dig, evens, mask, Nat.mul_zero, Nat.add_zero]
    have := and_split (a := d) (m := 2 ^ w - 1) (i := 2 * w) (x := 0) (y := mask w k) (by omega) (by omega)
    rw [Nat.mul_zero, Nat.add_zero] at this
    rw [this, Nat.and_two_pow_sub_one_eq_mod, Nat.mod_eq_of_lt hd]; simp
  | k + 1, d :: e :: l, hl, h => by
    have hd := h d (by simp)
    have he := h e (by simp)
    have hp := Nat.two_pow_pos w
    have h2 : 2 ^ (2 * w) = 2 ^ w * 2 ^ w := by rw [Nat.two_mul, Nat.pow_add]
    have h3 : d + 2 ^ w * e < 2 ^ (2 * w) := by
      rw [h2]
      have := Nat.mul_le_mul_left (2 ^ w) (show e + 1 ≤ 2 ^ w by omega)
      rw [Nat.mul_add] at this; omega
    have h4 : 2 ^ w ≤ 2 ^ (2 * w) := Nat.pow_le_pow_right (by omega) (by omega)
    simp only [dig, evens, mask]
    have e1 : d + 2 ^ w * (e + 2 ^ w * dig w l) = (d + 2 ^ w * e) + 2 ^ (2 * w) * dig w l := by rw [h2, Nat.mul_add, Nat.mul_assoc]; omega
    rw [e1, and_split h3 (by omega), dig_and k l (by simp at hl; omega) (fun x hx => h x (by simp [hx])), Nat.and_two_pow_sub_one_eq_mod, Nat.add_mul_mod_self_left, Nat.mod_eq_of_lt hd]
theorem dig_shift {w d : Nat} {l : List Nat} (h : d < 2 ^ w) : dig w (d :: l) / 2 ^ w = dig w l := by
  simp only [dig]
  rw [Nat.add_mul_div_left _ _ (Nat.two_pow_pos w), Nat.div_eq_of_lt h, Nat.zero_add]
theorem dig_add {w : Nat} : ∀ {a b : List Nat}, a.length = b.length → dig w a + dig w b = dig w (List.zipWith (· + ·) a b)
  | [], [], _ => rfl
  | [], _ :: _, h => by simp at h
  | _ :: _, [], h => by simp at h
  | x :: a, y :: b, h => by
    simp only [dig, List.zipWith_cons_cons]
    rw [← dig_add (a := a) (b := b) (by simpa using h), Nat.mul_add]; omega
theorem dig_pad {w : Nat} : ∀ {a : List Nat}, dig w (a ++ [0]) = dig w a
  | [] => by simp [dig]
  | x :: a => by simp only [List.cons_append, dig]; rw [dig_pad]
theorem dig_lt {w : Nat} : ∀ {a : List Nat}, (∀ d ∈ a, d < 2 ^ w) → dig w a < 2 ^ (w * a.length)
  | [], _ => by simp [dig]
  | x :: a, h => by
    have h1 := dig_lt (w := w) (a := a) fun d hd => h d (by simp [hd])
    have h2 := h x (by simp)
    simp only [dig, List.length_cons, Nat.mul_add, Nat.mul_one]
    rw [Nat.add_comm (w * a.length), Nat.pow_add]
    have := Nat.mul_le_mul_left (2 ^ w) (show dig w a + 1 ≤ 2 ^ (w * a.length) by omega)
    rw [Nat.mul_add] at this; omega
theorem dig_bits : ∀ (n N : Nat), dig 1 ((List.range n).map fun i => (N.testBit i).toNat) = N % 2 ^ n
  | 0, N => by simp [dig, Nat.mod_one]
  | n + 1, N => by
    rw [List.range_succ_eq_map]
    simp only [List.map_cons, List.map_map, dig]
    have e : (fun i => (N.testBit i).toNat) ∘ Nat.succ = fun i => ((N / 2).testBit i).toNat := by
      funext i; simp [Function.comp, Nat.testBit_succ]
    rw [e, dig_bits n (N / 2)]
    have h0 : (N.testBit 0).toNat = N % 2 := by
      rw [Nat.testBit_zero]
      rcases Nat.mod_two_eq_zero_or_one N with h | h <;> simp [h]
    rw [h0, show 2 ^ (n + 1) = 2 * 2 ^ n by rw [Nat.pow_succ, Nat.mul_comm], Nat.mod_mul]


theorem pair_evens (f : Nat → Nat) (k : Nat) : ∀ (s : Nat), evens ((List.range' s (2 * k)).map f) = (List.range' 0 k).map (fun j => f (s + 2 * j)) ∧ evens ((List.range' s (2 * k)).map f).tail = (List.range' 0 k).map (fun j => f (s + 2 * j + 1)) := by
  induction k with
  | zero => intro s; exact ⟨rfl, rfl⟩
  | succ k ih =>
    intro s
    have e : List.range' s (2 * (k + 1)) = s :: (s + 1) :: List.range' (s + 2) (2 * k) := by
      rw [show 2 * (k + 1) = 2 * k + 1 + 1 by omega, List.range'_succ, List.range'_succ]
    have sh : ∀ g : Nat → Nat, (List.range' 0 (k + 1)).map g = g 0 :: (List.range' 0 k).map fun j => g (j + 1) := by
      intro g
      have r1 : List.range' 1 k = (List.range' 0 k).map (fun x => 1 + x) := (List.map_add_range' 0 k 1).symm
      rw [List.range'_succ, List.map_cons, show (0 : Nat) + 1 = 1 from rfl, r1]
      simp [Function.comp_def, Nat.add_comm]
    obtain ⟨h1, h2⟩ := ih (s + 2)
    rw [e, sh, sh]
    constructor
    · simp only [List.map_cons, evens, h1, Nat.mul_zero, Nat.add_zero, List.cons.injEq, true_and]
      apply List.map_congr_left; intro j _; congr 1; omega
    · simp only [List.map_cons, List.tail_cons]
      have h3 : ∀ l : List Nat, evens (f (s + 1) :: l) = f (s + 1) :: evens l.tail := by
        intro l; cases l <;> rfl
      rw [h3, h2]
      simp only [Nat.mul_zero, Nat.add_zero, List.cons.injEq, true_and]
      apply List.map_congr_left; intro j _; congr 1; omega
theorem dig_step {w k : Nat} {x M : BitVec 64} {f : Nat → Nat} (hk : w * (2 * k) = 64) (hw : 0 < w) (hx : x.toNat = dig w ((List.range' 0 (2 * k)).map f)) (hM : M.toNat = mask w k) (hf : ∀ i, f i < 2 ^ w) (hs : ∀ i j, f i + f j < 2 ^ (2 * w)) :
    (((x >>> w) &&& M) + (x &&& M)).toNat = dig (2 * w) ((List.range' 0 k).map fun j => f (2 * j + 1) + f (2 * j)) := by
  have hall : ∀ d ∈ (List.range' 0 (2 * k)).map f, d < 2 ^ w := by
    intro d hd; obtain ⟨i, _, rfl⟩ := List.mem_map.1 hd; exact hf i
  obtain ⟨h1, h2⟩ := pair_evens f k 0
  have hk0 : 0 < k := by rcases Nat.eq_zero_or_pos k with rfl | h
                         · simp at hk
                         · exact h
  have e : (List.range' 0 (2 * k)).map f = f 0 :: ((List.range' 0 (2 * k)).map f).tail := by
    rw [show 2 * k = (2 * k - 1) + 1 by omega, List.range'_succ]; rfl
  have h3 : dig w ((List.range' 0 (2 * k)).map f) / 2 ^ w = dig w ((List.range' 0 (2 * k)).map f).tail := by
    conv => lhs; rw [e]
    exact dig_shift (hf 0)
  rw [BitVec.toNat_add, BitVec.toNat_and, BitVec.toNat_and, BitVec.toNat_ushiftRight, Nat.shiftRight_eq_div_pow, hx, hM, h3,
    dig_and k _ (by simp) (fun d hd => hall d (List.mem_of_mem_tail hd)), dig_and k _ (by simp) hall, h1, h2, dig_add (by simp)]
  have h4 : List.zipWith (· + ·) ((List.range' 0 k).map fun j => f (0 + 2 * j + 1)) ((List.range' 0 k).map fun j => f (0 + 2 * j)) = (List.range' 0 k).map fun j => f (2 * j + 1) + f (2 * j) := by
    rw [List.zipWith_map_left, List.zipWith_map_right, List.zipWith_self]
    simp
  rw [h4]
  apply Nat.mod_eq_of_lt
  have h5 := dig_lt (w := 2 * w) (a := (List.range' 0 k).map fun j => f (2 * j + 1) + f (2 * j)) (by
    intro d hd; obtain ⟨i, _, rfl⟩ := List.mem_map.1 hd; exact hs _ _)
  simp only [List.length_map, List.length_range'] at h5
  rwa [show 2 * w * k = 64 by rw [← hk, Nat.mul_comm 2 w, Nat.mul_assoc]] at h5

def sumN (f : Nat → Nat) : Nat → Nat
  | 0 => 0
  | n + 1 => sumN f n + f n
theorem cntT_sum (f : Nat → Bool) (n : Nat) : cntT f n = sumN (fun i => (f i).toNat) n := by
  induction n with
  | zero => rfl
  | succ n ih => simp only [cntT, sumN, ih]
theorem sumN_pair (f : Nat → Nat) (k : Nat) : sumN f (2 * k) = sumN (fun j => f (2 * j + 1) + f (2 * j)) k := by
  induction k with
  | zero => rfl
  | succ k ih => rw [show 2 * (k + 1) = 2 * k + 1 + 1 by omega]; simp only [sumN]; rw [ih]; omega
/-- The bits that are set, counted as the library counts them. -/
def ones3 (x : BitVec 64) : BitVec 64 :=
  let x1 := ((x >>> 1) &&& 6148914691236517205#64) + (x &&& 6148914691236517205#64)
  let x2 := ((x1 >>> 2) &&& 3689348814741910323#64) + (x1 &&& 3689348814741910323#64)
  ((x2 >>> 4) + x2) &&& 1085102592571150095#64
def ones6 (x : BitVec 64) : BitVec 64 :=
  let x3 := ones3 x
  let x4 := x3 + (x3 >>> 8)
  let x5 := x4 + (x4 >>> 16)
  x5 + (x5 >>> 32)
def D8 (f : Nat → Nat) : Nat := dig 8 ((List.range' 0 8).map f)
theorem D8_lt {f : Nat → Nat} (h : ∀ i, f i < 256) : D8 f < 2 ^ 64 := by
  have := dig_lt (w := 8) (a := (List.range' 0 8).map f) (by intro d hd; obtain ⟨i, _, rfl⟩ := List.mem_map.1 hd; exact h i)
  unfold D8
  simpa using this
theorem D8_shift {f : Nat → Nat} (h : ∀ i, f i < 256) (h8 : f 8 = 0) : D8 f / 256 = D8 fun i => f (i + 1) := by
  have e1 : D8 f = dig 8 (f 0 :: (List.range' 1 7).map f) := rfl
  have e2 : (D8 fun i => f (i + 1)) = dig 8 ((List.range' 1 7).map f ++ [f 8]) := rfl
  rw [e1, e2, h8, dig_pad]
  exact dig_shift (h 0)
theorem D8_add (f g : Nat → Nat) : D8 f + D8 g = D8 fun i => f i + g i := by
  unfold D8
  rw [dig_add (by simp)]; rfl
theorem D8_step {f : Nat → Nat} {x : BitVec 64} (hx : x.toNat = D8 f) (h : ∀ i, f i < 128) : ∀ (k : Nat), (∀ i, 8 - k ≤ i → i < 9 → 0 < k → True) → (∀ i, 8 ≤ i → f i = 0) → (x + (x >>> (8 * k))).toNat = D8 fun i => f i + f (i + k) := by
  intro k _ h8
  have key : ∀ k, x.toNat / 2 ^ (8 * k) = D8 fun i => f (i + k) := by
    intro k
    induction k with
    | zero => simp [hx]
    | succ k ih =>
      rw [Nat.mul_add, Nat.pow_add, ← Nat.div_div_eq_div_mul, ih]
      show (D8 fun i => f (i + k)) / 256 = _
      rw [D8_shift (f := fun i => f (i + k)) (fun i => by have := h (i + k); omega) (h8 _ (by omega))]
      congr 1; funext i; congr 1; omega
  rw [BitVec.toNat_add, BitVec.toNat_ushiftRight, Nat.shiftRight_eq_div_pow, key, hx, D8_add, Nat.mod_eq_of_lt]
  exact D8_lt fun i => by have := h i; have := h (i + k); omega
theorem ones6_eq (x : BitVec 64) : (ones6 x).toNat < 9223372036854775808 ∧ (ones6 x).toNat % 128 = cntT x.getLsbD 64 := by
  obtain ⟨b, hb⟩ : ∃ b : Nat → Nat, b = fun i => (x.toNat.testBit i).toNat := ⟨_, rfl⟩
  have hb1 : ∀ i, b i ≤ 1 := fun i => by subst hb; exact Bool.toNat_le _
  have h0 : x.toNat = dig 1 ((List.range' 0 (2 * 32)).map b) := by
    have := dig_bits 64 x.toNat
    rw [Nat.mod_eq_of_lt x.isLt] at this
    rw [← this, hb, List.range_eq_range']
  have h1 := dig_step (w := 1) (k := 32) (x := x) (M := 6148914691236517205#64) (f := b) (by decide) (by decide) h0 (by decide +kernel) (fun i => by have := hb1 i; omega) (fun i j => by have := hb1 i; have := hb1 j; omega)
  obtain ⟨x1, hx1⟩ : ∃ x1, x1 = ((x >>> 1) &&& 6148914691236517205#64) + (x &&& 6148914691236517205#64) := ⟨_, rfl⟩
  rw [← hx1] at h1
  obtain ⟨c, hc⟩ : ∃ c : Nat → Nat, c = fun j => b (2 * j + 1) + b (2 * j) := ⟨_, rfl⟩
  have hc1 : ∀ i, c i ≤ 2 := fun i => by subst hc; have := hb1 (2 * i + 1); have := hb1 (2 * i); simp only; omega
  rw [← hc] at h1
  have h2 := dig_step (w := 2) (k := 16) (x := x1) (M := 3689348814741910323#64) (f := c) (by decide) (by decide) h1 (by decide +kernel) (fun i => by have := hc1 i; omega) (fun i j => by have := hc1 i; have := hc1 j; omega)
  obtain ⟨x2, hx2⟩ : ∃ x2, x2 = ((x1 >>> 2) &&& 3689348814741910323#64) + (x1 &&& 3689348814741910323#64) := ⟨_, rfl⟩
  rw [← hx2] at h2
  obtain ⟨d, hd⟩ : ∃ d : Nat → Nat, d = fun j => c (2 * j + 1) + c (2 * j) := ⟨_, rfl⟩
  have hd1 : ∀ i, d i ≤ 4 := fun i => by subst hd; have := hc1 (2 * i + 1); have := hc1 (2 * i); simp only; omega
  rw [← hd] at h2
  have hx3 : ones3 x = ((x2 >>> 4) + x2) &&& 1085102592571150095#64 := by unfold ones3; rw [hx2, hx1]
  have h3 : (ones3 x).toNat = dig 8 ((List.range' 0 8).map fun j => d (2 * j + 1) + d (2 * j)) := by
    rw [hx3, BitVec.toNat_and, BitVec.toNat_add, BitVec.toNat_ushiftRight, Nat.shiftRight_eq_div_pow, h2]
    have e : (List.range' 0 16).map d = d 0 :: (List.range' 1 15).map d := rfl
    have e2 : dig 4 ((List.range' 0 16).map d) / 2 ^ 4 = dig 4 ((List.range' 1 15).map d ++ [0]) := by
      rw [dig_pad, e]; exact dig_shift (by have := hd1 0; omega)
    rw [show (2 * 2 : Nat) = 4 from rfl, e2, dig_add (by simp)]
    have e3 : List.zipWith (· + ·) ((List.range' 1 15).map d ++ [0]) ((List.range' 0 16).map d) = (List.range' 0 16).map (fun i => (if i = 15 then 0 else d (i + 1)) + d i) := rfl
    rw [e3]
    have hlt : ∀ y ∈ (List.range' 0 16).map (fun i => (if i = 15 then 0 else d (i + 1)) + d i), y < 2 ^ 4 := by
      intro y hy; obtain ⟨i, _, rfl⟩ := List.mem_map.1 hy
      have := hd1 i; have := hd1 (i + 1); split <;> omega
    have h64 := dig_lt hlt
    simp only [List.length_map, List.length_range'] at h64
    rw [Nat.mod_eq_of_lt (by simpa using h64)]
    have e4 : (1085102592571150095#64).toNat = mask 4 8 := by decide +kernel
    rw [e4, dig_and 8 _ (by simp) hlt]
    rfl
  obtain ⟨e, he⟩ : ∃ e : Nat → Nat, e = fun j => if j < 8 then d (2 * j + 1) + d (2 * j) else 0 := ⟨_, rfl⟩
  have he1 : ∀ i, e i ≤ 8 := fun i => by
    subst he; have := hd1 (2 * i + 1); have := hd1 (2 * i); simp only; split <;> omega
  have he8 : ∀ i, 8 ≤ i → e i = 0 := fun i hi => by subst he; simp only; rw [if_neg (by omega)]
  have h3' : (ones3 x).toNat = D8 e := by rw [h3]; subst he; rfl
  have hsum : cntT x.getLsbD 64 = e 0 + e 1 + e 2 + e 3 + e 4 + e 5 + e 6 + e 7 := by
    have h64 : cntT x.getLsbD 64 = sumN b 64 := by rw [cntT_sum, hb]; rfl
    rw [h64, show (64 : Nat) = 2 * 32 from rfl, sumN_pair, ← hc, show (32 : Nat) = 2 * 16 from rfl, sumN_pair, ← hd, show (16 : Nat) = 2 * 8 from rfl, sumN_pair]
    subst he
    show 0 + _ + _ + _ + _ + _ + _ + _ + _ = _
    simp
  have s4 := D8_step h3' (fun i => by have := he1 i; omega) 1 (fun _ _ _ _ => trivial) he8
  have s5 := D8_step s4 (fun i => by have := he1 i; have := he1 (i + 1); omega) 2 (fun _ _ _ _ => trivial) (fun i hi => by rw [he8 i hi, he8 _ (by omega)])
  have s6 := D8_step s5 (fun i => by have := he1 i; have := he1 (i + 1); have := he1 (i + 2); have := he1 (i + 2 + 1); omega) 4 (fun _ _ _ _ => trivial) (fun i hi => by rw [he8 i hi, he8 _ (by omega), he8 _ (by omega), he8 _ (by omega)])
  obtain ⟨F, hF⟩ : ∃ F : Nat → Nat, F = fun i => (e i + e (i + 1)) + (e (i + 2) + e (i + 2 + 1)) + ((e (i + 4) + e (i + 4 + 1)) + (e (i + 4 + 2) + e (i + 4 + 2 + 1))) := ⟨_, rfl⟩
  have s7 : (ones6 x).toNat = D8 F := by subst hF; exact s6
  have hF1 : ∀ i, F i ≤ 64 := fun i => by
    subst hF
    have := he1 i; have := he1 (i + 1); have := he1 (i + 2); have := he1 (i + 2 + 1); have := he1 (i + 4); have := he1 (i + 4 + 1); have := he1 (i + 4 + 2); have := he1 (i + 4 + 2 + 1)
    simp only; omega
  have hx : D8 F = F 0 + 256 * (F 1 + 256 * (F 2 + 256 * (F 3 + 256 * (F 4 + 256 * (F 5 + 256 * (F 6 + 256 * F 7)))))) := by
    simp [D8, dig, List.range']
  have h0 : F 0 = cntT x.getLsbD 64 := by rw [hsum]; subst hF; simp only [Nat.zero_add, Nat.reduceAdd]; omega
  have b0 := hF1 0; have b1 := hF1 1; have b2 := hF1 2; have b3 := hF1 3; have b4 := hF1 4; have b5 := hF1 5; have b6 := hF1 6; have b7 := hF1 7
  rw [s7, hx, ← h0]
  generalize F 0 = f0 at *; generalize F 1 = f1 at *; generalize F 2 = f2 at *; generalize F 3 = f3 at *; generalize F 4 = f4 at *; generalize F 5 = f5 at *; generalize F 6 = f6 at *; generalize F 7 = f7 at *
  clear hx s7 h0 hF1 hF s4 s5 s6 hsum
  constructor <;> omega

end Go.Proofs.YtolfcdjbchdkgaaDoor
/- The predicates of functions of the program, printed by a program of this session (wip/tools/prt.py) out of Lean's own print of the loaded functions. -/
namespace Go.Proofs.YtolfcdjbchdkgaaDoor
open Go Go.Hp
set_option maxRecDepth 100000
/-! treadle/class.Count -/
noncomputable def code46 : Code := (Tryd.f46.body).getD .skip
def F46 (R : Ending → HP → Prop) : HP → Prop :=
  hCall Tryd.prog 68 #[] (fun ch => R (.panicked ch)) fun r_1 m => ∃ (r_2 : Int) (r_3 : Int) (r_4 : Int) (r_5 : Int) (r_6 : Int) (r_7 : Int) (r_8 : Int) (r_9 : Int) (r_10 : Int) (r_11 : Int) (r_12 : Int) (r_13 : Int) (r_14 : Int) (r_15 : Int) (r_16 : Int) (r_17 : Int), r_1 = (.agg #[(.int .i64 r_2), (.int .i64 r_3), (.int .i64 r_4), (.int .i64 r_5), (.int .i64 r_6), (.int .i64 r_7), (.int .i64 r_8), (.int .i64 r_9), (.int .i64 r_10), (.int .i64 r_11), (.int .i64 r_12), (.int .i64 r_13), (.int .i64 r_14), (.int .i64 r_15), (.int .i64 r_16), (.int .i64 r_17)]) ∧ (R (.returned (.int .i64 16))) m
def ann46 : Ann := { loop := [], cut := [] }
theorem den46 (R : Ending → HP → Prop) : denF Tryd.prog ann46 Tryd.f46.ntmps Tryd.f46.results.toList code46 [] R = F46  R := by kernel_rfl
theorem call46 : Callable Tryd.prog 46 := fun a w => Tryd.call46 a w
theorem F46_fn {R : Ending → HP → Prop} {m : HP} (h : F46  R m) : Does Tryd.prog 46 #[] m R :=
  fn_of_den mixed (ann := ann46) Tryd.func46 call46 (c := code46) (by kernel_rfl) (by kernel_rfl) (args := []) (Nat.le_of_ble_eq_true (by kernel_rfl)) (.inl (by kernel_rfl)) (by rw [den46]; exact h)
/-! treadle/class.Of -/
noncomputable def code47 : Code := (Tryd.f47.body).getD .skip
def F47_l7 (words_1 : Int) (b_19 : Nat) (lo_22 : Int) (hi_23 : Int) (again_21 : (Int × Int × Unit) → HP → Prop) (R : Ending → HP → Prop) : HP → Prop :=
  hIf (decide (lo_22 < hi_23))
    (hInt .i64 (lo_22 + hi_23) fun v_24 =>
  hQuo .i64 v_24 2 fun v_25 =>
  hIdx (some ⟨b_19, 0, none⟩) 16 v_25 1 fun a_26 =>
  hLoad (.int .i64) a_26 fun (v_27 : Int) =>
  hIf (decide (v_27 < words_1))
    (hInt .i64 (v_25 + 1) fun v_28 =>
  again_21 (v_28, hi_23, ()))
    (again_21 (lo_22, v_25, ())))
    (R (.returned (.tuple #[(.int .i64 lo_22), (.int .i64 0)])))
def F47 (words_1 : Int) (R : Ending → HP → Prop) : HP → Prop :=
  hIf (decide (words_1 < 1))
    (R (.returned (.tuple #[(.int .i64 0), (.int .i64 1)])))
    (hIf (decide (words_1 > 64))
    (R (.returned (.tuple #[(.int .i64 0), (.int .i64 2)])))
    (hCall Tryd.prog 68 #[] (fun ch => R (.panicked ch)) fun r_2 m => ∃ (r_3 : Int) (r_4 : Int) (r_5 : Int) (r_6 : Int) (r_7 : Int) (r_8 : Int) (r_9 : Int) (r_10 : Int) (r_11 : Int) (r_12 : Int) (r_13 : Int) (r_14 : Int) (r_15 : Int) (r_16 : Int) (r_17 : Int) (r_18 : Int), r_2 = (.agg #[(.int .i64 r_3), (.int .i64 r_4), (.int .i64 r_5), (.int .i64 r_6), (.int .i64 r_7), (.int .i64 r_8), (.int .i64 r_9), (.int .i64 r_10), (.int .i64 r_11), (.int .i64 r_12), (.int .i64 r_13), (.int .i64 r_14), (.int .i64 r_15), (.int .i64 r_16), (.int .i64 r_17), (.int .i64 r_18)]) ∧ (hNew #[(.int .i64 0), (.int .i64 0), (.int .i64 0), (.int .i64 0), (.int .i64 0), (.int .i64 0), (.int .i64 0), (.int .i64 0), (.int .i64 0), (.int .i64 0), (.int .i64 0), (.int .i64 0), (.int .i64 0), (.int .i64 0), (.int .i64 0), (.int .i64 0)] 133 fun b_19 =>
  hStore (.int .i64 r_3) ⟨b_19, 0, none⟩
    (hStore (.int .i64 r_4) ⟨b_19, 1, none⟩
    (hStore (.int .i64 r_5) ⟨b_19, 2, none⟩
    (hStore (.int .i64 r_6) ⟨b_19, 3, none⟩
    (hStore (.int .i64 r_7) ⟨b_19, 4, none⟩
    (hStore (.int .i64 r_8) ⟨b_19, 5, none⟩
    (hStore (.int .i64 r_9) ⟨b_19, 6, none⟩
    (hStore (.int .i64 r_10) ⟨b_19, 7, none⟩
    (hStore (.int .i64 r_11) ⟨b_19, 8, none⟩
    (hStore (.int .i64 r_12) ⟨b_19, 9, none⟩
    (hStore (.int .i64 r_13) ⟨b_19, 10, none⟩
    (hStore (.int .i64 r_14) ⟨b_19, 11, none⟩
    (hStore (.int .i64 r_15) ⟨b_19, 12, none⟩
    (hStore (.int .i64 r_16) ⟨b_19, 13, none⟩
    (hStore (.int .i64 r_17) ⟨b_19, 14, none⟩
    (hStore (.int .i64 r_18) ⟨b_19, 15, none⟩
    (hLoop (α := Int × Int × Unit) (0, 15, ()) fun x_20 again_21 => hAll fun _ => F47_l7 words_1 b_19 x_20.1 x_20.2.1 again_21 R))))))))))))))))) m))
def ann47 : Ann := { loop := [(7, [(5, (Ty.int .i64)), (6, (Ty.int .i64))])], cut := [] }
theorem den47 (words_1 : Int) (R : Ending → HP → Prop) : denF Tryd.prog ann47 Tryd.f47.ntmps Tryd.f47.results.toList code47 [(.int .i64 words_1)] R = F47 words_1 R := by kernel_rfl
theorem call47 : Callable Tryd.prog 47 := fun a w => Tryd.call47 a w
theorem F47_fn {words_1 : Int} {R : Ending → HP → Prop} {m : HP} (h : F47 words_1 R m) : Does Tryd.prog 47 #[(.int .i64 words_1)] m R :=
  fn_of_den mixed (ann := ann47) Tryd.func47 call47 (c := code47) (by kernel_rfl) (by kernel_rfl) (args := [(.int .i64 words_1)]) (Nat.le_of_ble_eq_true (by kernel_rfl)) (.inl (by kernel_rfl)) (by rw [den47]; exact h)
/-! treadle/class.sizes -/
noncomputable def code68 : Code := (Tryd.f68.body).getD .skip
def F68 (R : Ending → HP → Prop) : HP → Prop :=
  hNew #[(.int .i64 0), (.int .i64 0), (.int .i64 0), (.int .i64 0), (.int .i64 0), (.int .i64 0), (.int .i64 0), (.int .i64 0), (.int .i64 0), (.int .i64 0), (.int .i64 0), (.int .i64 0), (.int .i64 0), (.int .i64 0), (.int .i64 0), (.int .i64 0)] 133 fun b_1 =>
  hStore (.int .i64 1) ⟨b_1, 0, none⟩
    (hStore (.int .i64 2) ⟨b_1, 1, none⟩
    (hStore (.int .i64 3) ⟨b_1, 2, none⟩
    (hStore (.int .i64 4) ⟨b_1, 3, none⟩
    (hStore (.int .i64 5) ⟨b_1, 4, none⟩
    (hStore (.int .i64 6) ⟨b_1, 5, none⟩
    (hStore (.int .i64 8) ⟨b_1, 6, none⟩
    (hStore (.int .i64 10) ⟨b_1, 7, none⟩
    (hStore (.int .i64 12) ⟨b_1, 8, none⟩
    (hStore (.int .i64 16) ⟨b_1, 9, none⟩
    (hStore (.int .i64 20) ⟨b_1, 10, none⟩
    (hStore (.int .i64 24) ⟨b_1, 11, none⟩
    (hStore (.int .i64 32) ⟨b_1, 12, none⟩
    (hStore (.int .i64 40) ⟨b_1, 13, none⟩
    (hStore (.int .i64 48) ⟨b_1, 14, none⟩
    (hStore (.int .i64 64) ⟨b_1, 15, none⟩
    (hLoad (.int .i64) ⟨b_1, 0, none⟩ fun (r_2 : Int) =>
  hLoad (.int .i64) ⟨b_1, 1, none⟩ fun (r_3 : Int) =>
  hLoad (.int .i64) ⟨b_1, 2, none⟩ fun (r_4 : Int) =>
  hLoad (.int .i64) ⟨b_1, 3, none⟩ fun (r_5 : Int) =>
  hLoad (.int .i64) ⟨b_1, 4, none⟩ fun (r_6 : Int) =>
  hLoad (.int .i64) ⟨b_1, 5, none⟩ fun (r_7 : Int) =>
  hLoad (.int .i64) ⟨b_1, 6, none⟩ fun (r_8 : Int) =>
  hLoad (.int .i64) ⟨b_1, 7, none⟩ fun (r_9 : Int) =>
  hLoad (.int .i64) ⟨b_1, 8, none⟩ fun (r_10 : Int) =>
  hLoad (.int .i64) ⟨b_1, 9, none⟩ fun (r_11 : Int) =>
  hLoad (.int .i64) ⟨b_1, 10, none⟩ fun (r_12 : Int) =>
  hLoad (.int .i64) ⟨b_1, 11, none⟩ fun (r_13 : Int) =>
  hLoad (.int .i64) ⟨b_1, 12, none⟩ fun (r_14 : Int) =>
  hLoad (.int .i64) ⟨b_1, 13, none⟩ fun (r_15 : Int) =>
  hLoad (.int .i64) ⟨b_1, 14, none⟩ fun (r_16 : Int) =>
  hLoad (.int .i64) ⟨b_1, 15, none⟩ fun (r_17 : Int) =>
  R (.returned (.agg #[(.int .i64 r_2), (.int .i64 r_3), (.int .i64 r_4), (.int .i64 r_5), (.int .i64 r_6), (.int .i64 r_7), (.int .i64 r_8), (.int .i64 r_9), (.int .i64 r_10), (.int .i64 r_11), (.int .i64 r_12), (.int .i64 r_13), (.int .i64 r_14), (.int .i64 r_15), (.int .i64 r_16), (.int .i64 r_17)]))))))))))))))))))
def ann68 : Ann := { loop := [], cut := [] }
theorem den68 (R : Ending → HP → Prop) : denF Tryd.prog ann68 Tryd.f68.ntmps Tryd.f68.results.toList code68 [] R = F68  R := by kernel_rfl
theorem call68 : Callable Tryd.prog 68 := fun a w => Tryd.call68 a w
theorem F68_fn {R : Ending → HP → Prop} {m : HP} (h : F68  R m) : Does Tryd.prog 68 #[] m R :=
  fn_of_den mixed (ann := ann68) Tryd.func68 call68 (c := code68) (by kernel_rfl) (by kernel_rfl) (args := []) (Nat.le_of_ble_eq_true (by kernel_rfl)) (.inl (by kernel_rfl)) (by rw [den68]; exact h)
/-! treadle/class.Pages -/
noncomputable def code71 : Code := (Tryd.f71.body).getD .skip
def F71_l6 (v_3 : Int) (p_6 : Int) (again_5 : (Int × Unit) → HP → Prop) (R : Ending → HP → Prop) : HP → Prop :=
  hInt .i64 (p_6 * 64) fun v_7 =>
  hRem v_7 v_3 fun v_8 =>
  hQuo .i64 v_7 8 fun v_9 =>
  hIf (decide (v_8 ≤ v_9))
    (R (.returned (.int .i64 p_6)))
    (hInt .i64 (p_6 + 1) fun v_10 =>
  again_5 (v_10, ()))
def F71 (c_1 : Int) (R : Ending → HP → Prop) : HP → Prop :=
  hCall Tryd.prog 72 #[(.int .i64 c_1)] (fun ch => R (.panicked ch)) fun r_2 m => ∃ (v_3 : Int), r_2 = (.int .i64 v_3) ∧ (hIf (v_3 == 0)
    (R (.returned (.int .i64 0)))
    (hLoop (α := Int × Unit) (1, ()) fun x_4 again_5 => hAll fun _ => F71_l6 v_3 x_4.1 again_5 R)) m
def ann71 : Ann := { loop := [(6, [(4, (Ty.int .i64))])], cut := [] }
theorem den71 (c_1 : Int) (R : Ending → HP → Prop) : denF Tryd.prog ann71 Tryd.f71.ntmps Tryd.f71.results.toList code71 [(.int .i64 c_1)] R = F71 c_1 R := by kernel_rfl
theorem call71 : Callable Tryd.prog 71 := fun a w => Tryd.call71 a w
theorem F71_fn {c_1 : Int} {R : Ending → HP → Prop} {m : HP} (h : F71 c_1 R m) : Does Tryd.prog 71 #[(.int .i64 c_1)] m R :=
  fn_of_den mixed (ann := ann71) Tryd.func71 call71 (c := code71) (by kernel_rfl) (by kernel_rfl) (args := [(.int .i64 c_1)]) (Nat.le_of_ble_eq_true (by kernel_rfl)) (.inl (by kernel_rfl)) (by rw [den71]; exact h)
/-! treadle/class.Words -/
noncomputable def code72 : Code := (Tryd.f72.body).getD .skip
def F72 (c_1 : Int) (R : Ending → HP → Prop) : HP → Prop :=
  hIf (decide (c_1 < 0))
    (R (.returned (.int .i64 0)))
    (hCall Tryd.prog 46 #[] (fun ch => R (.panicked ch)) fun r_2 m => ∃ (v_3 : Int), r_2 = (.int .i64 v_3) ∧ (hIf (decide (c_1 ≥ v_3))
    (R (.returned (.int .i64 0)))
    (hCall Tryd.prog 68 #[] (fun ch => R (.panicked ch)) fun r_4 m => ∃ (r_5 : Int) (r_6 : Int) (r_7 : Int) (r_8 : Int) (r_9 : Int) (r_10 : Int) (r_11 : Int) (r_12 : Int) (r_13 : Int) (r_14 : Int) (r_15 : Int) (r_16 : Int) (r_17 : Int) (r_18 : Int) (r_19 : Int) (r_20 : Int), r_4 = (.agg #[(.int .i64 r_5), (.int .i64 r_6), (.int .i64 r_7), (.int .i64 r_8), (.int .i64 r_9), (.int .i64 r_10), (.int .i64 r_11), (.int .i64 r_12), (.int .i64 r_13), (.int .i64 r_14), (.int .i64 r_15), (.int .i64 r_16), (.int .i64 r_17), (.int .i64 r_18), (.int .i64 r_19), (.int .i64 r_20)]) ∧ (hElem (.int .i64) #[(.int .i64 r_5), (.int .i64 r_6), (.int .i64 r_7), (.int .i64 r_8), (.int .i64 r_9), (.int .i64 r_10), (.int .i64 r_11), (.int .i64 r_12), (.int .i64 r_13), (.int .i64 r_14), (.int .i64 r_15), (.int .i64 r_16), (.int .i64 r_17), (.int .i64 r_18), (.int .i64 r_19), (.int .i64 r_20)] c_1 16 fun (v_21 : Int) =>
  R (.returned (.int .i64 v_21))) m)) m)
def ann72 : Ann := { loop := [], cut := [] }
theorem den72 (c_1 : Int) (R : Ending → HP → Prop) : denF Tryd.prog ann72 Tryd.f72.ntmps Tryd.f72.results.toList code72 [(.int .i64 c_1)] R = F72 c_1 R := by kernel_rfl
theorem call72 : Callable Tryd.prog 72 := fun a w => Tryd.call72 a w
theorem F72_fn {c_1 : Int} {R : Ending → HP → Prop} {m : HP} (h : F72 c_1 R m) : Does Tryd.prog 72 #[(.int .i64 c_1)] m R :=
  fn_of_den mixed (ann := ann72) Tryd.func72 call72 (c := code72) (by kernel_rfl) (by kernel_rfl) (args := [(.int .i64 c_1)]) (Nat.le_of_ble_eq_true (by kernel_rfl)) (.inl (by kernel_rfl)) (by rw [den72]; exact h)
/-! treadle/class.Cells -/
noncomputable def code84 : Code := (Tryd.f84.body).getD .skip
def F84 (c_1 : Int) (R : Ending → HP → Prop) : HP → Prop :=
  hCall Tryd.prog 72 #[(.int .i64 c_1)] (fun ch => R (.panicked ch)) fun r_2 m => ∃ (v_3 : Int), r_2 = (.int .i64 v_3) ∧ (hIf (v_3 == 0)
    (R (.returned (.int .i64 0)))
    (hCall Tryd.prog 71 #[(.int .i64 c_1)] (fun ch => R (.panicked ch)) fun r_4 m => ∃ (v_5 : Int), r_4 = (.int .i64 v_5) ∧ (hInt .i64 (v_5 * 64) fun v_6 =>
  hCall Tryd.prog 72 #[(.int .i64 c_1)] (fun ch => R (.panicked ch)) fun r_7 m => ∃ (v_8 : Int), r_7 = (.int .i64 v_8) ∧ (hQuo .i64 v_6 v_8 fun v_9 =>
  R (.returned (.int .i64 v_9))) m) m)) m
def ann84 : Ann := { loop := [], cut := [] }
theorem den84 (c_1 : Int) (R : Ending → HP → Prop) : denF Tryd.prog ann84 Tryd.f84.ntmps Tryd.f84.results.toList code84 [(.int .i64 c_1)] R = F84 c_1 R := by kernel_rfl
theorem call84 : Callable Tryd.prog 84 := fun a w => Tryd.call84 a w
theorem F84_fn {c_1 : Int} {R : Ending → HP → Prop} {m : HP} (h : F84 c_1 R m) : Does Tryd.prog 84 #[(.int .i64 c_1)] m R :=
  fn_of_den mixed (ann := ann84) Tryd.func84 call84 (c := code84) (by kernel_rfl) (by kernel_rfl) (args := [(.int .i64 c_1)]) (Nat.le_of_ble_eq_true (by kernel_rfl)) (.inl (by kernel_rfl)) (by rw [den84]; exact h)
end Go.Proofs.YtolfcdjbchdkgaaDoor
/- The classes of cells: sizes, Of, Words, Pages, Cells. Own work. -/
namespace Go.Proofs.YtolfcdjbchdkgaaDoor
open Go Go.Hp
set_option maxRecDepth 100000
attribute [local irreducible] hLoad hStore hNew hInt hQuo hRem hShl hShr hIf hNil hIdx hCut hElem hByte hAppend hMake hCall hYield hGet hPut hDel hNewMap hLoop hLet hAll hRange hRec hEq hCmp bitv W Does HYield

def szL : List Nat := [1, 2, 3, 4, 5, 6, 8, 10, 12, 16, 20, 24, 32, 40, 48, 64]
def szC : Array Value := #[.int .i64 1, .int .i64 2, .int .i64 3, .int .i64 4, .int .i64 5, .int .i64 6, .int .i64 8, .int .i64 10, .int .i64 12, .int .i64 16, .int .i64 20, .int .i64 24, .int .i64 32, .int .i64 40, .int .i64 48, .int .i64 64]
def wordsN (c : Nat) : Nat := szL.getD c 0
def pagesN (c : Nat) : Nat := [1, 1, 1, 1, 1, 1, 1, 1, 1, 1, 1, 2, 1, 2, 3, 1].getD c 0
def cellsN (c : Nat) : Nat := [64, 32, 21, 16, 12, 10, 8, 6, 5, 4, 3, 5, 2, 3, 4, 1].getD c 0
theorem szC_get {c : Nat} (h : c < 16) : szC[c]? = some (.int .i64 (wordsN c : Nat)) := by
  rcases c with _ | _ | _ | _ | _ | _ | _ | _ | _ | _ | _ | _ | _ | _ | _ | _ | c
  all_goals first | rfl | omega
theorem words_facts {c : Nat} (h : c < 16) : 1 ≤ wordsN c ∧ wordsN c ≤ 64 ∧ 1 ≤ pagesN c ∧ pagesN c ≤ 3 ∧ 1 ≤ cellsN c ∧ cellsN c ≤ 64 ∧ cellsN c = pagesN c * 64 / wordsN c ∧ cellsN c * wordsN c ≤ pagesN c * 64 := by
  have key : ∀ c : Fin 16, 1 ≤ wordsN c.val ∧ wordsN c.val ≤ 64 ∧ 1 ≤ pagesN c.val ∧ pagesN c.val ≤ 3 ∧ 1 ≤ cellsN c.val ∧ cellsN c.val ≤ 64 ∧ cellsN c.val = pagesN c.val * 64 / wordsN c.val ∧ cellsN c.val * wordsN c.val ≤ pagesN c.val * 64 := by decide +kernel
  exact key ⟨c, h⟩
theorem pages_first {c : Nat} (h : c < 16) : pagesN c * 64 % wordsN c ≤ pagesN c * 64 / 8 ∧ ∀ p, 1 ≤ p → p < pagesN c → ¬ p * 64 % wordsN c ≤ p * 64 / 8 := by
  have key : ∀ c : Fin 16, pagesN c.val * 64 % wordsN c.val ≤ pagesN c.val * 64 / 8 ∧ ∀ p : Fin 3, 1 ≤ p.val → p.val < pagesN c.val → ¬ p.val * 64 % wordsN c.val ≤ p.val * 64 / 8 := by decide +kernel
  obtain ⟨h1, h2⟩ := key ⟨c, h⟩
  have := words_facts h
  exact ⟨h1, fun p h3 h4 => h2 ⟨p, by omega⟩ h3 h4⟩
theorem words_mono {c d : Nat} (h : c < d) (hd : d < 16) : wordsN c < wordsN d := by
  have key : ∀ c d : Fin 16, c.val < d.val → wordsN c.val < wordsN d.val := by decide +kernel
  exact key ⟨c, by omega⟩ ⟨d, hd⟩ h
theorem words_15 : wordsN 15 = 64 := rfl

/-- The class of the least cells that have so many words. -/
def IsOf (w c : Nat) : Prop := c < 16 ∧ w ≤ wordsN c ∧ ∀ i, i < c → wordsN i < w
theorem IsOf.uniq {w c d : Nat} (h1 : IsOf w c) (h2 : IsOf w d) : c = d := by
  rcases Nat.lt_trichotomy c d with h | h | h
  · have := h2.2.2 c h; have := h1.2.1; omega
  · exact h
  · have := h1.2.2 d h; have := h2.2.1; omega

theorem sizes_does {m : HP} : Does Tryd.prog 68 #[] m (ret (.agg szC) m) := by
  refine F68_fn ?_
  unfold F68
  refine hNew_of fun b => ?_
  iterate 16 refine hStore_at (by simp) ?_
  simp only [List.setIfInBounds_toArray, List.set_cons_zero, List.set_cons_succ]
  iterate 16 refine hLoad_int (by rfl) ?_
  exact ret.mk (Over.of _ _)

theorem ccount_does {m : HP} : Does Tryd.prog 46 #[] m (ret (.int .i64 16) m) := by
  refine F46_fn ?_
  unfold F46
  refine hCall_ret sizes_does ⟨_, _, _, _, _, _, _, _, _, _, _, _, _, _, _, _, rfl, ret.mk (Over.refl _)⟩

def wordsI (c : Int) : Int := if 0 ≤ c ∧ c < 16 then (wordsN c.toNat : Nat) else 0
theorem wordsI_nat {c : Nat} (h : c < 16) : wordsI (c : Int) = (wordsN c : Nat) := by unfold wordsI; rw [if_pos (by omega)]; rfl
theorem cwords_does (c : Int) {m : HP} : Does Tryd.prog 72 #[.int .i64 c] m (ret (.int .i64 (wordsI c)) m) := by
  refine F72_fn ?_
  unfold F72
  refine hIf_dec (fun h => ?_) (fun h => ?_)
  · unfold wordsI; rw [if_neg (by omega)]; exact ret.mk (Over.refl _)
  · refine hCall_ret ccount_does ⟨_, rfl, hIf_dec (fun h1 => ?_) (fun h1 => ?_)⟩
    · unfold wordsI; rw [if_neg (by omega)]; exact ret.mk (Over.refl _)
    · refine hCall_ret sizes_does ⟨_, _, _, _, _, _, _, _, _, _, _, _, _, _, _, _, rfl, ?_⟩
      obtain ⟨n, rfl⟩ := Int.eq_ofNat_of_zero_le (a := c) (by omega)
      refine hElem_int (by omega) (by omega) (szC_get (c := n) (by omega)) ?_
      rw [wordsI_nat (by omega)]; exact ret.mk (Over.refl _)

theorem cof_does (w : Int) {m : HP} : Does Tryd.prog 47 #[.int .i64 w] m fun e m' =>
    (w < 1 ∧ ret (.tuple #[.int .i64 0, .int .i64 1]) m e m') ∨ (64 < w ∧ ret (.tuple #[.int .i64 0, .int .i64 2]) m e m') ∨
    ∃ c : Nat, 1 ≤ w ∧ w ≤ 64 ∧ IsOf w.toNat c ∧ ret (.tuple #[.int .i64 (c : Int), .int .i64 0]) m e m' := by
  refine F47_fn ?_
  unfold F47
  refine hIf_dec (fun h => .inl ⟨h, ret.mk (Over.refl _)⟩) (fun h => hIf_dec (fun h1 => .inr (.inl ⟨by omega, ret.mk (Over.refl _)⟩)) (fun h1 => ?_))
  obtain ⟨w, rfl⟩ := Int.eq_ofNat_of_zero_le (a := w) (by omega)
  refine hCall_ret sizes_does ⟨_, _, _, _, _, _, _, _, _, _, _, _, _, _, _, _, rfl, ?_⟩
  refine hNew_of fun b => ?_
  iterate 16 refine hStore_at (by simp) ?_
  simp only [List.setIfInBounds_toArray, List.set_cons_zero, List.set_cons_succ]
  refine hLoop_of (fun d x m' => ∃ lo hi : Nat, lo ≤ hi ∧ hi < 16 ∧ d = hi - lo ∧ x = ((lo : Int), (hi : Int), ()) ∧ (∀ i, i < lo → wordsN i < w) ∧ w ≤ wordsN hi ∧ m' = pt b (.cells szC 133 (0, 0)) + m) ?_ ?_
  · exact ⟨_, 0, 15, by omega, by omega, rfl, rfl, fun i h => by omega, by rw [words_15]; omega, rfl⟩
  rintro d x m' ⟨lo, hi, h2, h3, rfl, rfl, h4, h5, rfl⟩
  refine hAll_of fun _ => ?_
  unfold F47_l7
  dsimp only
  refine hIf_dec (fun h6 => ?_) (fun h6 => ?_)
  · refine hInt_i64 (by omega) (by omega) (hQuo_pos (by omega) (by omega) (by omega) ?_)
    have e : ((lo : Int) + (hi : Int)) / 2 = (((lo + hi) / 2 : Nat) : Int) := by omega
    rw [e]
    refine hIdx_of (by omega) (by omega) ?_
    refine hLoad_int (x := (wordsN ((lo + hi) / 2) : Nat)) (by rw [show 0 + (((lo + hi) / 2 : Nat) : Int).toNat * 1 = (lo + hi) / 2 by omega]; exact szC_get (by omega)) ?_
    refine hIf_dec (fun h7 => ?_) (fun h7 => ?_)
    · refine hInt_i64 (by omega) (by omega) ⟨hi - ((lo + hi) / 2 + 1), by omega, (lo + hi) / 2 + 1, hi, by omega, h3, rfl, by rfl, fun i hi' => ?_, h5, rfl⟩
      rcases Nat.lt_or_ge i ((lo + hi) / 2) with h8 | h8
      · have := words_mono h8 (by omega); omega
      · obtain rfl : i = (lo + hi) / 2 := by omega
        omega
    · exact ⟨(lo + hi) / 2 - lo, by omega, lo, (lo + hi) / 2, by omega, by omega, rfl, rfl, h4, by omega, rfl⟩
  · obtain rfl : lo = hi := by omega
    exact .inr (.inr ⟨lo, by omega, by omega, ⟨h3, by simpa using h5, by simpa using h4⟩, ret.mk (Over.of _ _)⟩)

theorem cpages_does {c : Nat} (hc : c < 16) {m : HP} : Does Tryd.prog 71 #[.int .i64 (c : Int)] m (ret (.int .i64 (pagesN c : Nat)) m) := by
  obtain ⟨w1, w2, p1, p2, _⟩ := words_facts hc
  obtain ⟨f1, f2⟩ := pages_first hc
  refine F71_fn ?_
  unfold F71
  refine hCall_ret (cwords_does c) ⟨_, rfl, ?_⟩
  rw [wordsI_nat hc]
  refine hIf_eqF (by omega) ?_
  refine hLoop_of (fun d x m' => ∃ p : Nat, 1 ≤ p ∧ p ≤ pagesN c ∧ d = pagesN c - p ∧ x = ((p : Int), ()) ∧ m' = m) ⟨_, 1, by omega, p1, rfl, rfl, rfl⟩ ?_
  rintro d x m' ⟨p, h1, h2, rfl, rfl, rfl⟩
  refine hAll_of fun _ => ?_
  unfold F71_l6
  dsimp only
  refine hInt_i64 (by omega) (by omega) (hRem_pos (by omega) (by omega) (hQuo_pos (by omega) (by omega) (by omega) ?_))
  have e1 : ((p : Int) * 64) % (wordsN c : Nat) = ((p * 64 % wordsN c : Nat) : Int) := by rw [Int.natCast_emod]; congr 1
  have e2 : ((p : Int) * 64) / 8 = ((p * 64 / 8 : Nat) : Int) := by omega
  rw [e1, e2]
  refine hIf_dec (fun h3 => ?_) (fun h3 => ?_)
  · have : p = pagesN c := by
      rcases Nat.lt_or_ge p (pagesN c) with h4 | h4
      · exact absurd (by omega) (f2 p h1 h4)
      · omega
    subst this
    exact ret.mk (Over.refl _)
  · have : p ≠ pagesN c := by rintro rfl; omega
    exact hInt_i64 (by omega) (by omega) ⟨pagesN c - (p + 1), by omega, p + 1, by omega, by omega, rfl, rfl, rfl⟩

theorem ccells_does {c : Nat} (hc : c < 16) {m : HP} : Does Tryd.prog 84 #[.int .i64 (c : Int)] m (ret (.int .i64 (cellsN c : Nat)) m) := by
  obtain ⟨w1, w2, p1, p2, c1, c2, ce, _⟩ := words_facts hc
  refine F84_fn ?_
  unfold F84
  refine hCall_ret (cwords_does c) ⟨_, rfl, ?_⟩
  rw [wordsI_nat hc]
  refine hIf_eqF (by omega) (hCall_ret (cpages_does hc) ⟨_, rfl, hInt_i64 (by omega) (by omega) (hCall_ret (cwords_does c) ⟨_, rfl, ?_⟩)⟩)
  rw [wordsI_nat hc]
  refine hQuo_pos (by omega) (by omega) (by omega) ?_
  have e : ((pagesN c : Nat) : Int) * 64 / (wordsN c : Nat) = (cellsN c : Nat) := by rw [ce, Int.natCast_ediv]; congr 1
  rw [e]
  exact ret.mk (Over.refl _)

end Go.Proofs.YtolfcdjbchdkgaaDoor
/- Cells in blocks: the state, without any program. Own work. -/
namespace Go.Proofs.YtolfcdjbchdkgaaDoor
open Go Go.Hp
set_option maxRecDepth 100000

/-- A block: where it begins, its pages, its class (-1: one great cell, -2: pages alone), which cells are used, who holds it. -/
structure Blk where
  base : Nat
  pages : Nat
  cls : Int
  used : BitVec 64
  holder : Option Nat
def Blk.words (B : Blk) : Nat := if B.cls < 0 then B.pages * 64 else wordsN B.cls.toNat
def Blk.cells (B : Blk) : Nat := if B.cls = -2 then 0 else if B.cls < 0 then 1 else cellsN B.cls.toNat
def Blk.bit (B : Blk) (k : Nat) : Bool := B.used.getLsbD k
def Blk.full (B : Blk) : Prop := ∀ i, i < B.cells → B.bit i = true
def Blk.at_ (B : Blk) (k : Nat) : Nat := B.base * 64 + k * B.words
structure BOk (P : Nat) (B : Blk) : Prop where
  cls : B.cls = -2 ∨ B.cls = -1 ∨ (0 ≤ B.cls ∧ B.cls < 16 ∧ B.pages = pagesN B.cls.toNat)
  pos : 1 ≤ B.pages
  low : ∀ i, B.cells ≤ i → B.bit i = false
  hold : ∀ p, B.holder = some p → p < P ∧ 0 ≤ B.cls
/-- It isn't to be given back. -/
def Blk.live (B : Blk) : Prop := B.cls = -2 ∨ B.used ≠ 0#64 ∨ B.holder.isSome
structure COk (n P : Nat) (l : List Sp) (bs : List Blk) : Prop where
  lok : LOk n l
  tag : ∀ s ∈ l, s.tag = 0
  sub : ∀ B ∈ bs, ∃ s ∈ l, s.base = B.base ∧ s.pages = B.pages
  cov : ∀ s ∈ l, ∃ B ∈ bs, B.base = s.base
  bok : ∀ B ∈ bs, BOk P B
  nod : (bs.map Blk.base).Nodup
  one : ∀ B ∈ bs, ∀ B' ∈ bs, B.holder.isSome → B.holder = B'.holder → B.cls = B'.cls → B.base = B'.base

theorem Blk.cells_le {P : Nat} {B : Blk} (h : BOk P B) : B.cells ≤ 64 := by
  unfold Blk.cells
  split
  · omega
  split
  · omega
  · rcases h.cls with h1 | h1 | h1
    · omega
    · omega
    · have := words_facts (c := B.cls.toNat) (by omega); omega
theorem Blk.words_pos {P : Nat} {B : Blk} (h : BOk P B) : 1 ≤ B.words := by
  have := h.pos
  unfold Blk.words
  split
  · omega
  · rcases h.cls with h1 | h1 | h1
    · omega
    · omega
    · have := words_facts (c := B.cls.toNat) (by omega); omega
theorem Blk.room {P : Nat} {B : Blk} (h : BOk P B) : B.cells * B.words ≤ B.pages * 64 := by
  have := h.pos
  unfold Blk.cells Blk.words
  rcases h.cls with h1 | h1 | h1
  · simp [h1]
  · simp [h1]
  · rw [if_neg (by omega), if_neg (by omega), if_neg (by omega), h1.2.2]
    exact (words_facts (c := B.cls.toNat) (by omega)).2.2.2.2.2.2.2
theorem BOk.bit_lt {P : Nat} {B : Blk} (h : BOk P B) {k : Nat} (hk : B.bit k = true) : k < B.cells := by
  rcases Nat.lt_or_ge k B.cells with h1 | h1
  · exact h1
  · rw [h.low k h1] at hk; cases hk

/-- A word lies in a used cell. -/
structure Hit (bs : List Blk) (addr : Int) (B : Blk) (k : Nat) : Prop where
  mem : B ∈ bs
  bit : B.bit k = true
  lo : (B.at_ k : Nat) ≤ addr
  hi : addr < (B.at_ k + B.words : Nat)

/-- A word lies in a block's pages. -/
def Blk.has (B : Blk) (addr : Int) : Prop := ((B.base * 64 : Nat) : Int) ≤ addr ∧ addr < ((B.base + B.pages) * 64 : Nat)

section
variable {n P : Nat} {l : List Sp} {bs : List Blk}
theorem COk.base_inj (h : COk n P l bs) {B B' : Blk} (h1 : B ∈ bs) (h2 : B' ∈ bs) (e : B.base = B'.base) : B = B' := by
  have := h.nod
  obtain ⟨i, hi, rfl⟩ := List.mem_iff_getElem.1 h1
  obtain ⟨j, hj, rfl⟩ := List.mem_iff_getElem.1 h2
  have hij : i = j := by
    rcases Nat.lt_trichotomy i j with h3 | h3 | h3
    · have := List.pairwise_iff_getElem.1 this i j (by simpa using hi) (by simpa using hj) h3
      simp at this; exact absurd e this
    · exact h3
    · have := List.pairwise_iff_getElem.1 this j i (by simpa using hj) (by simpa using hi) h3
      simp at this; exact absurd e.symm this
  subst hij; rfl
theorem COk.sp (h : COk n P l bs) {B : Blk} (hB : B ∈ bs) : (⟨B.base, B.pages, 0⟩ : Sp) ∈ l := by
  obtain ⟨s, hs, h1, h2⟩ := h.sub B hB
  have h3 := h.tag s hs
  have : s = ⟨B.base, B.pages, 0⟩ := by cases s; simp_all
  rw [← this]; exact hs
theorem COk.apart (h : COk n P l bs) {B B' : Blk} (h1 : B ∈ bs) (h2 : B' ∈ bs) {p : Nat} (a1 : B.base ≤ p ∧ p < B.base + B.pages) (a2 : B'.base ≤ p ∧ p < B'.base + B'.pages) : B = B' := by
  have := h.lok.apart (h.sp h1) (h.sp h2) (p := p) a1 a2
  simp only [Sp.mk.injEq] at this
  exact h.base_inj h1 h2 this.1
theorem COk.has_uniq (h : COk n P l bs) {B B' : Blk} (h1 : B ∈ bs) (h2 : B' ∈ bs) {a : Int} (a1 : B.has a) (a2 : B'.has a) : B = B' := by
  unfold Blk.has at a1 a2
  exact h.apart h1 h2 (p := (a / 64).toNat) ⟨by omega, by omega⟩ ⟨by omega, by omega⟩
theorem COk.pages_le (h : COk n P l bs) {B : Blk} (hB : B ∈ bs) : B.base + B.pages ≤ n := (h.lok.pos _ (h.sp hB)).2
theorem Hit.has (h : COk n P l bs) {a : Int} {B : Blk} {k : Nat} (ht : Hit bs a B k) : B.has a := by
  have hb := h.bok B ht.mem
  have hk := hb.bit_lt ht.bit
  have hr := Blk.room hb
  have h1 := ht.lo; have h2 := ht.hi
  have := Nat.mul_le_mul_right B.words (show k + 1 ≤ B.cells by omega)
  rw [Nat.add_mul] at this
  unfold Blk.at_ at h1 h2
  unfold Blk.has
  constructor
  · omega
  · rw [Nat.add_mul]; omega
theorem Hit.uniq (h : COk n P l bs) {a : Int} {B B' : Blk} {k k' : Nat} (h1 : Hit bs a B k) (h2 : Hit bs a B' k') : B = B' ∧ k = k' := by
  obtain rfl := h.has_uniq h1.mem h2.mem (h1.has h) (h2.has h)
  refine ⟨rfl, ?_⟩
  have hw := Blk.words_pos (h.bok B h1.mem)
  have a1 := h1.lo; have a2 := h1.hi; have b1 := h2.lo; have b2 := h2.hi
  unfold Blk.at_ at a1 a2 b1 b2
  rcases Nat.lt_trichotomy k k' with h3 | h3 | h3
  · have := Nat.mul_le_mul_right B.words (show k + 1 ≤ k' by omega)
    rw [Nat.add_mul] at this; omega
  · exact h3
  · have := Nat.mul_le_mul_right B.words (show k' + 1 ≤ k by omega)
    rw [Nat.add_mul] at this; omega
/-- The cell of a word within a block, by division. -/
theorem hit_div {B : Blk} {a : Int} (hw : 1 ≤ B.words) (ha : B.has a) (k : Nat) : ((B.at_ k : Nat) ≤ a ∧ a < (B.at_ k + B.words : Nat)) ↔ (a.toNat - B.base * 64) / B.words = k := by
  unfold Blk.has at ha
  unfold Blk.at_
  obtain ⟨x, hx⟩ : ∃ x : Nat, a = ((B.base * 64 + x : Nat) : Int) := ⟨a.toNat - B.base * 64, by omega⟩
  subst hx
  rw [Int.toNat_natCast, Nat.add_sub_cancel_left, Nat.div_eq_iff (by omega)]
  constructor
  · rintro ⟨h1, h2⟩; constructor <;> omega
  · rintro ⟨h1, h2⟩; constructor <;> omega

/-- A block, by its place, turned into another. -/
def upd (bs : List Blk) (b : Nat) (f : Blk → Blk) : List Blk := bs.map fun B => if B.base = b then f B else B
theorem nodup_split {b1 b2 : List Blk} {B : Blk} (h : ((b1 ++ B :: b2).map Blk.base).Nodup) : ∀ x ∈ b1 ++ b2, x.base ≠ B.base := by
  simp only [List.map_append, List.map_cons] at h
  rw [List.nodup_append] at h
  obtain ⟨_, h2, h3⟩ := h
  rw [List.nodup_cons] at h2
  intro x hx e
  simp only [List.mem_append] at hx
  rcases hx with hx | hx
  · exact h3 x.base (List.mem_map.2 ⟨x, hx, rfl⟩) B.base (by simp) e
  · exact h2.1 (by rw [← e]; exact List.mem_map.2 ⟨x, hx, rfl⟩)
theorem upd_split {b1 b2 : List Blk} {B : Blk} {f : Blk → Blk} (h : ∀ x ∈ b1 ++ b2, x.base ≠ B.base) : upd (b1 ++ B :: b2) B.base f = b1 ++ f B :: b2 := by
  have key : ∀ l : List Blk, (∀ x ∈ l, x.base ≠ B.base) → (l.map fun C => if C.base = B.base then f C else C) = l := by
    intro l hl
    conv => rhs; rw [← List.map_id l]
    apply List.map_congr_left
    intro x hx
    rw [if_neg (hl x hx)]; rfl
  unfold upd
  rw [List.map_append, List.map_cons, if_pos rfl, key b1 fun x hx => h x (by simp [hx]), key b2 fun x hx => h x (by simp [hx])]
theorem mem_split {B : Blk} (hB : B ∈ bs) : ∃ b1 b2, bs = b1 ++ B :: b2 := List.append_of_mem hB

/-- Blocks turned, their places and classes kept. -/
theorem COk.map (h : COk n P l bs) {g : Blk → Blk} (hb : ∀ B ∈ bs, (g B).base = B.base) (hp : ∀ B ∈ bs, (g B).pages = B.pages) (hk : ∀ B ∈ bs, BOk P (g B))
    (h1 : ∀ B ∈ bs, ∀ B' ∈ bs, (g B).holder.isSome → (g B).holder = (g B').holder → (g B).cls = (g B').cls → B.base = B'.base) : COk n P l (bs.map g) := by
  refine ⟨h.lok, h.tag, ?_, ?_, ?_, ?_, ?_⟩
  · intro C hC; obtain ⟨B, hB, rfl⟩ := List.mem_map.1 hC
    obtain ⟨s, hs, e1, e2⟩ := h.sub B hB
    exact ⟨s, hs, by rw [hb B hB]; exact e1, by rw [hp B hB]; exact e2⟩
  · intro s hs; obtain ⟨B, hB, e⟩ := h.cov s hs
    exact ⟨g B, List.mem_map.2 ⟨B, hB, rfl⟩, by rw [hb B hB]; exact e⟩
  · intro C hC; obtain ⟨B, hB, rfl⟩ := List.mem_map.1 hC; exact hk B hB
  · rw [List.map_map, List.map_congr_left (g := Blk.base) (by intro B hB; exact hb B hB)]; exact h.nod
  · intro C hC C' hC' e1 e2 e3
    obtain ⟨B, hB, rfl⟩ := List.mem_map.1 hC; obtain ⟨B', hB', rfl⟩ := List.mem_map.1 hC'
    rw [hb B hB, hb B' hB']; exact h1 B hB B' hB' e1 e2 e3
/-- The used cells of one block. -/
theorem COk.used (h : COk n P l bs) {B : Blk} (hB : B ∈ bs) {u : BitVec 64} (hl : ∀ i, B.cells ≤ i → u.getLsbD i = false) :
    COk n P l (upd bs B.base fun C => { C with used := u }) := by
  refine h.map (fun C _ => by split <;> rfl) (fun C _ => by split <;> rfl) (fun C hC => ?_) (fun C hC C' hC' e1 e2 e3 => ?_)
  · split
    · rename_i e
      obtain rfl := h.base_inj hC hB e
      have := h.bok C hC
      exact ⟨this.cls, this.pos, hl, this.hold⟩
    · exact h.bok C hC
  · refine h.one C hC C' hC' ?_ ?_ ?_
    · revert e1; split <;> exact id
    · revert e2; split <;> split <;> exact id
    · revert e3; split <;> split <;> exact id
/-- What a processor holds of a class is let go, if it is full. -/
def release (bs : List Blk) (p : Nat) (c : Int) : List Blk := bs.map fun B => if B.holder = some p ∧ B.cls = c then { B with holder := none } else B
theorem COk.release (h : COk n P l bs) (p : Nat) (c : Int) : COk n P l (release bs p c) := by
  refine h.map (fun C _ => by split <;> rfl) (fun C _ => by split <;> rfl) (fun C hC => ?_) (fun C hC C' hC' e1 e2 e3 => ?_)
  · have hk := h.bok C hC
    split
    · exact ⟨hk.cls, hk.pos, hk.low, (fun q hq => by cases hq)⟩
    · exact hk
  · refine h.one C hC C' hC' ?_ ?_ ?_
    · revert e1; split
      · intro h1; cases h1
      · exact id
    · revert e1 e2; split
      · intro h1; cases h1
      · intro _; split
        · intro h2; rename_i hh _ ; simp only at h2; rw [h2]; exact absurd h2 (by intro h3; simp_all)
        · exact id
    · revert e3; split <;> split <;> exact id

/-- A processor holds a block. -/
theorem COk.hold (h : COk n P l bs) {B : Blk} (hB : B ∈ bs) {p : Nat} (hp : p < P) (hc : 0 ≤ B.cls) (hno : ∀ C ∈ bs, C.holder = some p → C.cls = B.cls → C.base = B.base) :
    COk n P l (upd bs B.base fun C => { C with holder := some p }) := by
  refine h.map (fun C _ => by split <;> rfl) (fun C _ => by split <;> rfl) (fun C hC => ?_) (fun C hC C' hC' e1 e2 e3 => ?_)
  · split
    · rename_i e
      obtain rfl := h.base_inj hC hB e
      have := h.bok C hC
      exact ⟨this.cls, this.pos, this.low, fun q hq => by simp only [Option.some.injEq] at hq; subst hq; exact ⟨hp, hc⟩⟩
    · exact h.bok C hC
  · by_cases a1 : C.base = B.base
    · obtain rfl := h.base_inj hC hB a1
      by_cases a2 : C'.base = C.base
      · exact a2.symm
      · rw [if_pos rfl, if_neg a2] at e2 e3
        exact (hno C' hC' e2.symm e3.symm).symm
    · by_cases a2 : C'.base = B.base
      · obtain rfl := h.base_inj hC' hB a2
        rw [if_neg a1, if_pos rfl] at e2 e3
        exact hno C hC e2 e3
      · rw [if_neg a1] at e1
        rw [if_neg a1, if_neg a2] at e2 e3
        exact h.one C hC C' hC' e1 e2 e3
theorem First.fits {c a : Nat} (hf : First (UL n l) c a) (hc : 1 ≤ c) : a + c ≤ n := by
  rcases Nat.lt_or_ge n (a + c) with h1 | h1
  · have := hf.1 (a + c - 1) (by omega) (by omega)
    unfold UL at this
    simp only [Bool.or_eq_false_iff, decide_eq_false_iff_not] at this
    omega
  · exact h1
theorem First.apart {c a : Nat} (hf : First (UL n l) c a) {s : Sp} (hs : s ∈ l) {p : Nat} (h1 : a ≤ p) (h2 : p < a + c) : ¬ s.has p := fun h3 => by
  have := hf.1 p h1 h2
  rw [UL_iff.2 (.inr ⟨s, hs, h3⟩)] at this; cases this
/-- A block of new pages. -/
theorem COk.add (h : COk n P l bs) {N : Blk} (hf : First (UL n l) N.pages N.base) (hk : BOk P N) (hno : ∀ C ∈ bs, ∀ p, N.holder = some p → C.holder = some p → C.cls = N.cls → False) :
    COk n P (insS ⟨N.base, N.pages, 0⟩ l) (bs ++ [N]) := by
  have hp := hk.pos
  have hfit := hf.fits hp
  have hnew : ∀ C ∈ bs, C.base ≠ N.base := fun C hC e => by
    have := (h.bok C hC).pos
    exact hf.apart (h.sp hC) (p := N.base) (Nat.le_refl _) (by omega) ⟨by simp only; omega, by simp only; omega⟩
  refine ⟨h.lok.ins hp (by simpa using hfit) (fun p h1 s hs => hf.apart hs h1.1 h1.2), ?_, ?_, ?_, ?_, ?_, ?_⟩
  · intro s hs
    rcases mem_insS.1 hs with rfl | hs
    · rfl
    · exact h.tag s hs
  · intro C hC
    rcases List.mem_append.1 hC with hC | hC
    · obtain ⟨s, hs, e⟩ := h.sub C hC
      exact ⟨s, mem_insS.2 (.inr hs), e⟩
    · rw [List.mem_singleton] at hC; subst hC
      exact ⟨_, mem_insS.2 (.inl rfl), rfl, rfl⟩
  · intro s hs
    rcases mem_insS.1 hs with rfl | hs
    · exact ⟨N, by simp, rfl⟩
    · obtain ⟨C, hC, e⟩ := h.cov s hs
      exact ⟨C, by simp [hC], e⟩
  · intro C hC
    rcases List.mem_append.1 hC with hC | hC
    · exact h.bok C hC
    · rw [List.mem_singleton] at hC; subst hC; exact hk
  · rw [List.map_append, List.map_cons, List.map_nil, List.nodup_append]
    refine ⟨h.nod, by simp, fun a ha b hb => ?_⟩
    rw [List.mem_singleton] at hb; subst hb
    obtain ⟨C, hC, rfl⟩ := List.mem_map.1 ha
    exact hnew C hC
  · intro C hC C' hC' e1 e2 e3
    rcases List.mem_append.1 hC with h1 | h1 <;> rcases List.mem_append.1 hC' with h2 | h2
    · exact h.one C h1 C' h2 e1 e2 e3
    · rw [List.mem_singleton] at h2; rw [h2] at e2 e3
      obtain ⟨p, hp⟩ := Option.isSome_iff_exists.1 e1
      exact (hno C h1 p (by rw [← e2]; exact hp) hp e3).elim
    · rw [List.mem_singleton] at h1; rw [h1] at e1 e2 e3
      obtain ⟨p, hp⟩ := Option.isSome_iff_exists.1 e1
      exact (hno C' h2 p hp (by rw [← e2]; exact hp) e3.symm).elim
    · rw [List.mem_singleton] at h1 h2; rw [h1, h2]
/-- A block's pages given back. -/
theorem COk.del {b1 b2 : List Blk} {B : Blk} (h : COk n P l (b1 ++ B :: b2)) : COk n P (delS B.base l) (b1 ++ b2) := by
  have hsub : ∀ C, C ∈ b1 ++ b2 → C ∈ b1 ++ B :: b2 := fun C hC => by simp at hC ⊢; rcases hC with h | h <;> simp [h]
  have hne := nodup_split h.nod
  refine ⟨h.lok.del _, fun s hs => h.tag s (mem_delS.1 hs).1, ?_, ?_, fun C hC => h.bok C (hsub C hC), ?_, fun C hC C' hC' => h.one C (hsub C hC) C' (hsub C' hC')⟩
  · intro C hC
    obtain ⟨s, hs, e⟩ := h.sub C (hsub C hC)
    exact ⟨s, mem_delS.2 ⟨hs, by rw [e.1]; exact hne C hC⟩, e⟩
  · intro s hs
    obtain ⟨hs1, hs2⟩ := mem_delS.1 hs
    obtain ⟨C, hC, e⟩ := h.cov s hs1
    refine ⟨C, ?_, e⟩
    simp only [List.mem_append, List.mem_cons] at hC ⊢
    rcases hC with h1 | rfl | h1
    · exact .inl h1
    · exact absurd e.symm hs2
    · exact .inr h1
  · have := h.nod
    simp only [List.map_append, List.map_cons] at this ⊢
    rw [List.nodup_append] at this ⊢
    obtain ⟨n1, n2, n3⟩ := this
    exact ⟨n1, (List.nodup_cons.1 n2).2, fun a ha b hb => n3 a ha b (by simp [hb])⟩
end
end Go.Proofs.YtolfcdjbchdkgaaDoor
/- Maps as functions; sums of heaplets over a list. Own work; nothing of any program. -/
namespace Go.Hp
open Go

/-- The entries are those of the function. -/
structure MapIs (k : IntKind) (es : Array MapEntry) (f : Int → Option Value) : Prop where
  keys : intKeys k es
  nodup : (es.toList.map (·.key)).Nodup
  find : ∀ n, mfind es n = f n

theorem MapIs.empty (k : IntKind) : MapIs k #[] fun _ => none := ⟨fun e he => by simp at he, by simp, fun n => by simp [mfind]⟩
theorem isKey_iff {k : IntKind} {v : Value} {n : Int} (hv : ∃ x, v = .int k x) : isKey n v = true ↔ v = .int k n := by
  obtain ⟨x, rfl⟩ := hv
  simp [isKey]
theorem midx_split {es : Array MapEntry} {n : Int} {i : Nat} (h : midx es n = some i) : ∃ l1 e l2, es.toList = l1 ++ e :: l2 ∧ l1.length = i ∧ isKey n e.key = true ∧ ∀ x ∈ l1, isKey n x.key = false := by
  simp only [midx, List.findIdx?_eq_some_iff_getElem] at h
  obtain ⟨hlt, hp, hn⟩ := h
  refine ⟨es.toList.take i, es.toList[i], es.toList.drop (i + 1), by rw [← List.drop_eq_getElem_cons, List.take_append_drop], by rw [List.length_take]; omega, hp, fun x hx => ?_⟩
  obtain ⟨j, hj, rfl⟩ := List.mem_iff_getElem.1 hx
  rw [List.length_take] at hj
  have := hn j (by omega)
  rw [List.getElem_take]
  simpa using this
theorem midx_none {es : Array MapEntry} {n : Int} (h : midx es n = none) : ∀ x ∈ es.toList, isKey n x.key = false := by
  simp only [midx, List.findIdx?_eq_none_iff] at h
  simpa using h
theorem isKey_ne {k : IntKind} {i n : Int} (h : i ≠ n) : isKey i (.int k n) = false := by
  simp only [isKey, decide_eq_false_iff_not]; exact fun e => h e.symm
theorem find_none {l : List MapEntry} {n : Int} (h : ∀ x ∈ l, isKey n x.key = false) : (l.find? fun e => isKey n e.key) = none := by
  rw [List.find?_eq_none]; intro x hx; rw [h x hx]; simp

theorem MapIs.put {k : IntKind} {es : Array MapEntry} {f : Int → Option Value} (h : MapIs k es f) (clock : Nat) (n : Int) (v : Value) : MapIs k (mput es clock k n v).1 fun i => if i = n then some v else f i := by
  unfold mput
  cases hm : midx es n with
  | none =>
    have hno := midx_none hm
    simp only
    refine ⟨fun e he => ?_, ?_, fun i => ?_⟩
    · simp only [Array.toList_push, List.mem_append, List.mem_singleton] at he
      rcases he with he | rfl
      · exact h.keys e he
      · exact ⟨n, rfl⟩
    · simp only [Array.toList_push, List.map_append, List.map_cons, List.map_nil]
      rw [List.nodup_append]
      refine ⟨h.nodup, by simp, fun a ha b hb => ?_⟩
      simp only [List.mem_singleton] at hb; subst hb
      obtain ⟨e, he, rfl⟩ := List.mem_map.1 ha
      intro e2
      have := hno e he
      rw [e2] at this; simp [isKey] at this
    · rw [← h.find]
      simp only [mfind, Array.toList_push, List.find?_append]
      by_cases e : i = n
      · subst e; rw [find_none hno]; simp [isKey]
      · rw [if_neg e]; simp [isKey_ne (k := k) e]
  | some j =>
    obtain ⟨l1, e, l2, hl, hlen, hk, hn⟩ := midx_split hm
    have hek : e.key = .int k n := (isKey_iff (h.keys e (by rw [hl]; simp))).1 hk
    simp only
    have hmod : (es.modify j fun e => { e with key := .int k n, val := v }).toList = l1 ++ { e with key := .int k n, val := v } :: l2 := by
      rw [Array.toList_modify, hl, ← hlen, List.modify_eq_take_cons_drop (by simp)]
      simp
    refine ⟨fun x hx => ?_, ?_, fun i => ?_⟩
    · rw [hmod] at hx
      simp only [List.mem_append, List.mem_cons] at hx
      rcases hx with hx | rfl | hx
      · exact h.keys x (by rw [hl]; simp [hx])
      · exact ⟨n, rfl⟩
      · exact h.keys x (by rw [hl]; simp [hx])
    · rw [hmod]
      have := h.nodup
      rw [hl] at this
      simp only [List.map_append, List.map_cons] at this ⊢
      rw [hek] at this; exact this
    · rw [← h.find]
      simp only [mfind, hmod, hl, List.find?_append, List.find?_cons]
      by_cases e2 : i = n
      · subst e2; rw [find_none hn]; simp [isKey]
      · rw [if_neg e2, hek, isKey_ne (k := k) e2]

theorem MapIs.del {k : IntKind} {es : Array MapEntry} {f : Int → Option Value} (h : MapIs k es f) (n : Int) : MapIs k (mdel es n) fun i => if i = n then none else f i := by
  unfold mdel
  cases hm : midx es n with
  | none =>
    have hno := midx_none hm
    refine ⟨h.keys, h.nodup, fun i => ?_⟩
    by_cases e : i = n
    · subst e; rw [if_pos rfl]; simp only [mfind]; rw [find_none hno]; rfl
    · rw [if_neg e]; exact h.find i
  | some j =>
    obtain ⟨l1, e, l2, hl, hlen, hk, hn⟩ := midx_split hm
    have hek : e.key = .int k n := (isKey_iff (h.keys e (by rw [hl]; simp))).1 hk
    simp only
    have hmod : (es.eraseIdxIfInBounds j).toList = l1 ++ l2 := by
      have hlt : j < es.size := by rw [← Array.length_toList, hl]; simp; omega
      rw [Array.eraseIdxIfInBounds, dif_pos hlt, Array.toList_eraseIdx, hl, ← hlen, List.eraseIdx_append_of_length_le (Nat.le_refl _), Nat.sub_self]; rfl
    have hnd := h.nodup
    rw [hl] at hnd
    simp only [List.map_append, List.map_cons] at hnd
    rw [List.nodup_append] at hnd
    obtain ⟨nd1, nd2, nd3⟩ := hnd
    rw [List.nodup_cons] at nd2
    refine ⟨fun x hx => ?_, ?_, fun i => ?_⟩
    · rw [hmod] at hx
      simp only [List.mem_append] at hx
      rcases hx with hx | hx
      · exact h.keys x (by rw [hl]; simp [hx])
      · exact h.keys x (by rw [hl]; simp [hx])
    · rw [hmod, List.map_append, List.nodup_append]
      exact ⟨nd1, nd2.2, fun a ha b hb => nd3 a ha b (by simp [hb])⟩
    · rw [← h.find]
      simp only [mfind, hmod, hl, List.find?_append, List.find?_cons]
      by_cases e2 : i = n
      · subst e2
        rw [find_none hn, if_pos rfl]
        rw [find_none fun x hx => ?_]
        · rfl
        · have hx2 := h.keys x (by rw [hl]; simp [hx])
          have : ¬ isKey i x.key = true := fun h3 => nd2.1 (by rw [hek, ← (isKey_iff hx2).1 h3]; exact List.mem_map.2 ⟨x, hx, rfl⟩)
          simpa using this
      · rw [if_neg e2, hek, isKey_ne (k := k) e2]

section
variable {m : HP}
theorem hGet_of {k : IntKind} {b : Nat} {n : Int} {es : Array MapEntry} {clock : Nat} {r : HP} {f : Int → Option Value} {K : Option Value → HP → Prop} [h : Has b m (.map es clock) r] (hm : MapIs k es f) (hk : K (f n) m) : hGet k (some b) n K m :=
  .inr ⟨b, es, clock, r, rfl, h.eq, hm.keys, by rw [hm.find]; exact hk⟩
theorem hPut_of {k : IntKind} {b : Nat} {n : Int} {v : Value} {es : Array MapEntry} {clock : Nat} {r : HP} {f : Int → Option Value} {K : HP → Prop} [h : Has b m (.map es clock) r] (hm : MapIs k es f)
    (hk : ∀ es' clock', MapIs k es' (fun i => if i = n then some v else f i) → K (pt b (.map es' clock') + r)) : hPut k (some b) n v K m :=
  ⟨b, es, clock, r, rfl, h.eq, hm.keys, hk _ _ (hm.put clock n v)⟩
theorem hDel_of {k : IntKind} {b : Nat} {n : Int} {es : Array MapEntry} {clock : Nat} {r : HP} {f : Int → Option Value} {K : HP → Prop} [h : Has b m (.map es clock) r] (hm : MapIs k es f)
    (hk : ∀ es' clock', MapIs k es' (fun i => if i = n then none else f i) → K (pt b (.map es' clock') + r)) : hDel k (some b) n K m :=
  ⟨b, es, clock, r, rfl, h.eq, hm.keys, hk _ _ (hm.del n)⟩
theorem hNewMap_of {K : Nat → HP → Prop} (hk : ∀ b, K b (pt b (.map #[] 0) + m)) : hNewMap K m := hk
end

theorem hCut_zero {m : HP} {a : Option Addr} {cap size : Nat} {hi : Int} {K : Sl → HP → Prop} (h1 : 0 ≤ hi) (h2 : hi ≤ cap) (hk : K ⟨a, hi.toNat, cap⟩ m) : hCut a cap 0 hi size K m := by
  refine ⟨Int.le_refl _, h1, h2, ?_⟩
  have e : (if (cap : Int) = 0 then a else a.map (·.add ((0 : Int).toNat * size))) = a := by
    split
    · rfl
    · rw [show (0 : Int).toNat * size = 0 by simp]
      cases a <;> rfl
  rw [e]
  simpa using hk
/-! ### Sums -/
def sumB {α : Type} (f : α → HP) : List α → HP
  | [] => 0
  | x :: l => f x + sumB f l
theorem sumB_append {α : Type} {f : α → HP} {a b : List α} : sumB f (a ++ b) = sumB f a + sumB f b := by
  induction a with
  | nil => simp [sumB]
  | cons x a ih => simp only [List.cons_append, sumB, ih, HP.add_assoc]
theorem sumB_mid {α : Type} {f : α → HP} {a b : List α} {x : α} : sumB f (a ++ x :: b) = f x + sumB f (a ++ b) := by
  rw [sumB_append, sumB_append]; simp only [sumB]; rw [HP.add_left_comm]
theorem sumB_congr {α : Type} {f g : α → HP} {l : List α} (h : ∀ x ∈ l, f x = g x) : sumB f l = sumB g l := by
  induction l with
  | nil => rfl
  | cons x l ih => simp only [sumB]; rw [h x (by simp), ih fun y hy => h y (by simp [hy])]
theorem sumB_map {α β : Type} {f : β → HP} {g : α → β} {l : List α} : sumB f (l.map g) = sumB (fun x => f (g x)) l := by
  induction l with
  | nil => rfl
  | cons x l ih => simp only [List.map_cons, sumB, ih]
/-- An element of a list, by its place. -/
theorem split_at {α : Type} {l : List α} {i : Nat} {x : α} (h : l[i]? = some x) : ∃ a b, l = a ++ x :: b ∧ a.length = i := by
  obtain ⟨hi, rfl⟩ := List.getElem?_eq_some_iff.1 h
  exact ⟨l.take i, l.drop (i + 1), by rw [← List.drop_eq_getElem_cons, List.take_append_drop], by rw [List.length_take]; omega⟩
theorem sumB_set {α : Type} {f : α → HP} {l : List α} {i : Nat} {x : α} (h : l[i]? = some x) : ∃ r, sumB f l = f x + r ∧ ∀ y, sumB f (l.set i y) = f y + r := by
  obtain ⟨a, b, rfl, rfl⟩ := split_at h
  refine ⟨sumB f (a ++ b), sumB_mid, fun y => ?_⟩
  rw [List.set_append_right _ _ (Nat.le_refl _), Nat.sub_self, List.set_cons_zero, sumB_mid]
end Go.Hp
/- Cells: the layout; OnesCount64, words, full; all spans, one by one. Own work. -/
namespace Go.Proofs.YtolfcdjbchdkgaaDoor
open Go Go.Hp
set_option maxRecDepth 100000
attribute [local irreducible] hLoad hStore hNew hInt hQuo hRem hShl hShr hIf hNil hIdx hCut hElem hByte hAppend hMake hCall hYield hGet hPut hDel hNewMap hLoop hLet hAll hRange hRec hEq hCmp bitv W Does HYield

theorem cM0 : (6148914691236517205 : Int) = W 6148914691236517205#64 := W_lit 6148914691236517205 (by decide)
theorem cM1 : (3689348814741910323 : Int) = W 3689348814741910323#64 := W_lit 3689348814741910323 (by decide)
theorem cM2 : (1085102592571150095 : Int) = W 1085102592571150095#64 := W_lit 1085102592571150095 (by decide)
theorem and127 (x : Nat) : bitv .and .i64 (x : Int) 127 = ((x % 128 : Nat) : Int) := by
  have e : bitv .and .i64 (x : Int) 127 = IntKind.i64.wrap ((BitVec.ofInt 64 (x : Int) &&& BitVec.ofInt 64 127).toNat : Nat) := by unfold bitv; rfl
  have h : (BitVec.ofInt 64 (x : Int) &&& BitVec.ofInt 64 127).toNat = x % 128 := by
    rw [BitVec.toNat_and, show (BitVec.ofInt 64 127).toNat = 2 ^ 7 - 1 by decide, Nat.and_two_pow_sub_one_eq_mod]
    have : (BitVec.ofInt 64 (x : Int)).toNat = x % 2 ^ 64 := by simp
    rw [this]; omega
  rw [e, h]
  exact wrap_i64 (by omega) (by omega)
theorem ones_does (x : BitVec 64) {m : HP} : Does Tryd.prog 83 #[.int .u64 (W x)] m (ret (.int .i64 (cntT x.getLsbD 64 : Nat)) m) := by
  obtain ⟨h1, h2⟩ := ones6_eq x
  refine F83_fn ?_
  unfold F83
  rw [cM0, cM1, cM2]
  refine hShr_W (by decide) ?_
  rw [bitv_and, bitv_and]
  refine hInt_addW (hShr_W (by decide) ?_)
  rw [bitv_and, bitv_and]
  refine hInt_addW (hShr_W (by decide) (hInt_addW ?_))
  rw [bitv_and]
  refine hShr_W (by decide) (hInt_addW (hShr_W (by decide) (hInt_addW (hShr_W (by decide) (hInt_addW ?_)))))
  have e : ones6 x = ones6 x := rfl
  conv at e => lhs; unfold ones6 ones3
  simp only [show (1 : Int).toNat = 1 from rfl, show (2 : Int).toNat = 2 from rfl, show (4 : Int).toNat = 4 from rfl, show (8 : Int).toNat = 8 from rfl, show (16 : Int).toNat = 16 from rfl, show (32 : Int).toNat = 32 from rfl]
  rw [e]
  refine hInt_i64W h1 ?_
  rw [and127, h2]
  exact ret.mk (Over.refl _)

/-! ### All spans, one by one -/
theorem _root_.Go.Hp.HYield.eqm {P : Program} {l : Nat} {args : Array Value} {m m' : HP} {R : Ending → HP → Prop} (h : HYield P l args m R) (e : m = m') : HYield P l args m' R := by subst e; exact h
theorem all67_gen {T : TL} {n : Nat} {l : List Sp} {X : HP} (h : SpanAt T n l X) {c0 lp : Nat} {J : List Sp → HP → Prop} {D : HP → Prop}
    (hJ : ∀ q M, J q M → Over (pt c0 (.cells #[.pointer (some ⟨T.t, 0, none⟩)] 23 (0, 0)) + X) M)
    (step : ∀ s ∈ l, ∀ M fr, J (l.filter fun t => decide (t.base < s.base)) M → HYield Tryd.prog lp #[s.val] (M + fr) fun e m' =>
      (e = .returned (.bool true) ∧ ∃ M', J ((l.filter fun t => decide (t.base < s.base)) ++ [s]) M' ∧ Over (M' + fr) m') ∨ (e = .returned (.bool false) ∧ ∃ M', D M' ∧ Over (M' + fr) m'))
    {m M : HP} (h0 : J [] M) (hM : Over M m) :
    Does Tryd.prog 67 #[.func (.yield lp) #[] #[], .pointer (some ⟨c0, 0, none⟩)] m fun e m' => (∃ v, e = .returned v) ∧ ((∃ M', J l M' ∧ Over M' m') ∨ ∃ M', D M' ∧ Over M' m') := by
  obtain ⟨us, l0, k, S, O, G, rfl⟩ := h
  have hnle := G.g.nle
  have hsl := G.slen
  obtain ⟨g0, hg0⟩ := hJ _ _ h0
  obtain ⟨g1, hg1⟩ := hM
  refine F67_fn ?_
  unfold F67
  haveI : Has c0 m (.cells #[.pointer (some ⟨T.t, 0, none⟩)] 23 (0, 0)) (spanX T n us (levels k l0) S O + g0 + g1) := ⟨by rw [hg1, hg0]; simp only [HP.add_assoc]⟩
  refine hLoad_ptr (by rfl) ?_
  refine hIf_false rfl ?_
  refine hLoop_of (fun d x m' => ∃ (a : Nat) (M : HP), a ≤ n ∧ d = n - a ∧ x = ((a : Int), ()) ∧ J (l.filter fun t => decide (t.base < a)) M ∧ (∀ t ∈ l, ¬ (t.base < a ∧ a < t.base + t.pages)) ∧ Over M m') ?_ ?_
  · exact ⟨_, 0, M, by omega, rfl, rfl, by rw [show (l.filter fun t => decide (t.base < 0)) = [] by simp]; exact h0, fun t ht h => by omega, g1, hg1⟩
  rintro d x m' ⟨a, M, ha, rfl, rfl, hown, hin, g, rfl⟩
  refine hAll_of fun _ => ?_
  unfold F67_l2
  dsimp only
  obtain ⟨g2, rfl⟩ := hJ _ _ hown
  unfold spanX at hown ⊢
  refine hLoad_ptr (by rfl) ?_
  refine hNil_some (hLoad_add (hLoad_slice (by rfl) ?_))
  dsimp only
  refine hIf_dec (fun h1 => ?_) (fun h1 => ?_)
  · have ha' : a < n := by omega
    refine hLoad_ptr (by rfl) ?_
    refine hNil_some (hLoad_add (hLoad_slice (by rfl) ?_))
    dsimp only
    refine hIdx_of (by omega) (by omega) ?_
    have e0 : 0 + (a : Int).toNat * 3 = a * 3 := by omega
    rw [e0]
    have hSa : S[a]? = some S[a] := List.getElem?_eq_getElem (by omega)
    refine hLoad_int (rowsSp (j := 0) (by omega) (by omega) hSa) ?_
    refine hLoad_add (hLoad_int (rowsSp (j := 1) (by omega) (by omega) hSa) ?_)
    refine hLoad_add (hLoad_int (rowsSp (j := 2) (by omega) (by omega) hSa) ?_)
    refine hNew_of fun b16 => hStore3_0 (hStore3_1 (hStore3_2 ?_))
    refine hLoad_int (by rfl) (hLoad_int (by rfl) (hLoad_int (by rfl) ?_))
    refine hEq_of (spEq _ _ _ _ _ _ _ _ _) ?_
    rcases Classical.em (∃ t ∈ l, t.base = a) with ⟨t, ht, rfl⟩ | hno
    · obtain ⟨h5, _⟩ := G.at_ t ht
      rw [h5] at hSa
      simp only [Option.some.injEq] at hSa
      rw [← hSa]
      have hpos := G.ok.pos t ht
      have hne : intsEq [((t.base : Int), 0), ((t.pages : Int), 0), (t.tag, 0)] = false := by
        simp only [intsEq, Bool.and_eq_false_iff, beq_eq_false_iff_ne]; right; left; omega
      rw [hne]
      refine hIf_false rfl (hLoad_int (by rfl) (hLoad_int (by rfl) (hLoad_int (by rfl) ?_)))
      have hstep := filter_step G.ok.sorted (fun s hs => (G.ok.pos s hs).1) ht
      have hst := step t ht _ (pt b16 (.cells #[.int .i64 (t.base : Int), .int .i64 (t.pages : Int), .int .i64 t.tag] 34 (0, 0)) + g) hown
      refine hYield_of (hst.eqm (by ac_rfl)) ?_
      rintro e m' (⟨rfl, M', hJ', g3, rfl⟩ | ⟨rfl, M', hD', g3, rfl⟩)
      · refine ⟨_, Over.refl _, _, rfl, hIf_false rfl (hLoad_int (by rfl) (hInt_i64 (by omega) (by omega) ⟨n - (t.base + t.pages), by omega, t.base + t.pages, M', by omega, rfl, by rw [show ((t.base : Int) + (t.pages : Int)) = ((t.base + t.pages : Nat) : Int) by omega], by rw [hstep]; exact hJ', fun u hu hh => ?_, Over.of _ _⟩))⟩
        have hu1 := G.ok.pos u hu
        have : u = t := by
          rcases Nat.le_total t.base u.base with h6 | h6
          · exact G.ok.apart hu ht (p := u.base) ⟨by omega, by omega⟩ ⟨by omega, by omega⟩
          · exact G.ok.apart hu ht (p := t.base) ⟨by omega, by omega⟩ ⟨by omega, by omega⟩
        subst this; omega
      · exact ⟨_, Over.refl _, _, rfl, hIf_true rfl ⟨⟨_, rfl⟩, .inr ⟨M', hD', Over.of _ _⟩⟩⟩
    · have hz := G.none_ a ha' fun t ht e => hno ⟨t, ht, e⟩
      rw [hz] at hSa
      simp only [Option.some.injEq] at hSa
      rw [← hSa]
      refine hIf_true rfl (hInt_i64 (by omega) (by omega) ⟨n - (a + 1), by omega, a + 1, _, by omega, rfl, rfl, ?_, fun t ht hh => ?_, .trans (Over.left _ _) (.trans' (Over.right (pt b16 (.cells #[.int .i64 (Sp.zero.base : Int), .int .i64 (Sp.zero.pages : Int), .int .i64 Sp.zero.tag] 34 (0, 0))) _) rfl)⟩)
      · have e : (l.filter fun t => decide (t.base < a + 1)) = l.filter fun t => decide (t.base < a) := by
          apply List.filter_congr
          intro t ht
          have : t.base ≠ a := fun e => hno ⟨t, ht, e⟩
          simp only [decide_eq_decide]; omega
        rw [e]; exact hown
      · have h6 := hin t ht
        have : t.base ≠ a := fun e => hno ⟨t, ht, e⟩
        omega
  · obtain rfl : a = n := by omega
    refine ⟨⟨_, rfl⟩, .inl ⟨_, ?_, Over.left _ _⟩⟩
    have e : (l.filter fun t => decide (t.base < a)) = l := by
      rw [List.filter_eq_self]; intro t ht; have := G.ok.pos t ht; simp; omega
    rw [e] at hown; exact hown
end Go.Proofs.YtolfcdjbchdkgaaDoor
/- Cells: the memory of a room; words, full, find, Find, Used, Counts, count. Own work. -/
namespace Go.Proofs.YtolfcdjbchdkgaaDoor
open Go Go.Hp
set_option maxRecDepth 100000
attribute [local irreducible] hLoad hStore hNew hInt hQuo hRem hShl hShr hIf hNil hIdx hCut hElem hByte hAppend hMake hCall hYield hGet hPut hDel hNewMap hLoop hLet hAll hRange hRec hEq hCmp bitv W Does HYield

structure CL where
  c : Nat
  T : TL
  mb : Nat
  hb : Nat
  hr : Nat → Nat
def blkC (B : Blk) : Array Value := #[.int .i64 (B.base : Int), .int .i64 (B.pages : Int), .int .i64 (B.cls + 1), .int .i64 B.cls, .int .u64 (W B.used), .bool B.holder.isSome]
def blkO (B : Blk) : Obj := .cells (blkC B) 107 (0, 0)
def blkH (adr : Nat → Nat) (B : Blk) : HP := if B.cls = -2 then 0 else pt (adr B.base) (blkO B)
def ptrC (adr : Nat → Nat) (x : Option Nat) : List Value := [.pointer (x.map fun b => ⟨adr b, 0, none⟩)]
theorem ptrC_len (adr : Nat → Nat) (x : Option Nat) : (ptrC adr x).length = 1 := rfl
def hrow (adr : Nat → Nat) (f : Nat → Option Nat) : Array Value := rows (ptrC adr) ((List.range 16).map f)
def rowH (C : CL) (adr : Nat → Nat) (M : Nat → Nat → Option Nat) (p : Nat) : HP := pt (C.hr p) (.cells (hrow adr (M p)) 102 (0, 0))
def holdH (C : CL) (adr : Nat → Nat) (M : Nat → Nat → Option Nat) (P : Nat) : HP := sumB (rowH C adr M) (List.range P)
def mapF (adr : Nat → Nat) (bs : List Blk) (k : Int) : Option Value := (bs.find? fun B => decide ((B.base : Int) = k) && decide (B.cls ≠ -2)).map fun B => .pointer (some ⟨adr B.base, 0, none⟩)
def headC (C : CL) (P cap : Nat) (nc nw : Int) : Array Value := #[.pointer (some ⟨C.T.t, 0, none⟩), .map (some C.mb), .slice (some ⟨C.hb, 0, none⟩) P cap, .int .i64 nc, .int .i64 nw]
def untag (l : List Sp) : List Sp := l.map fun s => ⟨s.base, s.pages, 0⟩

structure MGood (C : CL) (adr : Nat → Nat) (n P : Nat) (l : List Sp) (bs : List Blk) (lt : List Sp) (XT : HP) (es : Array MapEntry) (ho : Array Value) (M : Nat → Nat → Option Nat) : Prop where
  ok : COk n P l bs
  nle : n ≤ 4096
  ple : P ≤ 8
  span : SpanAt C.T n lt XT
  lt : untag lt = l
  map : MapIs .i64 es (mapF adr bs)
  ho : ∀ p, p < P → ho[p]? = some (.slice (some ⟨C.hr p, 0, none⟩) 16 16)
  mat : ∀ p c b, p < P → c < 16 → (M p c = some b ↔ ∃ B ∈ bs, B.base = b ∧ B.holder = some p ∧ B.cls = (c : Nat))
def cellX (C : CL) (adr : Nat → Nat) (P : Nat) (bs : List Blk) (nc nw : Int) (XT : HP) (es : Array MapEntry) (clock : Nat) (ho : Array Value) (cap : Nat) (M : Nat → Nat → Option Nat) : HP :=
  pt C.c (.cells (headC C P cap nc nw) 99 (0, 0)) + (XT + (pt C.mb (.map es clock) + (pt C.hb (.cells ho 100 (0, 0)) + (holdH C adr M P + sumB (blkH adr) bs))))
/-- A room for cells in memory, its counters aside. -/
def CellM (C : CL) (adr : Nat → Nat) (n P : Nat) (l : List Sp) (bs : List Blk) (nc nw : Int) (X : HP) : Prop :=
  ∃ lt XT es clock ho cap M, MGood C adr n P l bs lt XT es ho M ∧ X = cellX C adr P bs nc nw XT es clock ho cap M

theorem mem_untag {l : List Sp} {s : Sp} : s ∈ untag l ↔ ∃ t ∈ l, s = ⟨t.base, t.pages, 0⟩ := by
  unfold untag; simp only [List.mem_map]; constructor
  · rintro ⟨t, ht, rfl⟩; exact ⟨t, ht, rfl⟩
  · rintro ⟨t, ht, rfl⟩; exact ⟨t, ht, rfl⟩
theorem UL_untag {n : Nat} {l : List Sp} : UL n (untag l) = UL n l := by
  funext p
  rw [Bool.eq_iff_iff, UL_iff, UL_iff]
  constructor
  · rintro (h | ⟨s, hs, h⟩)
    · exact .inl h
    · obtain ⟨t, ht, rfl⟩ := mem_untag.1 hs
      exact .inr ⟨t, ht, h⟩
  · rintro (h | ⟨t, ht, h⟩)
    · exact .inl h
    · exact .inr ⟨_, mem_untag.2 ⟨t, ht, rfl⟩, h⟩
theorem untag_ins {s : Sp} {l : List Sp} : untag (insS s l) = insS ⟨s.base, s.pages, 0⟩ (untag l) := by
  induction l with
  | nil => rfl
  | cons t l ih =>
    unfold untag at ih ⊢
    simp only [insS, List.map_cons]
    split
    · rfl
    · simp only [List.map_cons, ih]
theorem untag_del {b : Nat} {l : List Sp} : untag (delS b l) = delS b (untag l) := by
  unfold untag delS
  rw [List.filter_map]; rfl

section
variable {C : CL} {adr : Nat → Nat} {n P : Nat} {l : List Sp} {bs : List Blk}
theorem mapF_none {k : Int} (h : ∀ B ∈ bs, (B.base : Int) = k → B.cls = -2) : mapF adr bs k = none := by
  unfold mapF
  rw [List.find?_eq_none.2]
  · rfl
  · intro B hB
    simp only [Bool.and_eq_true, decide_eq_true_eq, not_and, ne_eq, Decidable.not_not]
    exact h B hB
theorem mapF_some (hk : COk n P l bs) {B : Blk} (hB : B ∈ bs) (hc : B.cls ≠ -2) : mapF adr bs (B.base : Int) = some (.pointer (some ⟨adr B.base, 0, none⟩)) := by
  unfold mapF
  cases hf : bs.find? fun C => decide ((C.base : Int) = (B.base : Int)) && decide (C.cls ≠ -2) with
  | none => have := List.find?_eq_none.1 hf B hB; simp [hc] at this
  | some D =>
    have h1 := List.mem_of_find?_eq_some hf
    have h2 := List.find?_some hf
    simp only [Bool.and_eq_true, decide_eq_true_eq] at h2
    obtain rfl := hk.base_inj h1 hB (by omega)
    rfl
/-- A block in the sum. -/
theorem blocks_at {B : Blk} (hB : B ∈ bs) (hc : B.cls ≠ -2) (hk : COk n P l bs) : ∃ R, sumB (blkH adr) bs = pt (adr B.base) (blkO B) + R ∧
    ∀ f : Blk → Blk, (f B).base = B.base → (f B).cls = B.cls → sumB (blkH adr) (upd bs B.base f) = pt (adr B.base) (blkO (f B)) + R := by
  obtain ⟨b1, b2, rfl⟩ := mem_split hB
  refine ⟨sumB (blkH adr) (b1 ++ b2), ?_, fun f e1 e2 => ?_⟩
  · rw [sumB_mid]; unfold blkH; rw [if_neg hc]
  · rw [upd_split (nodup_split hk.nod), sumB_mid]
    conv => lhs; arg 1; unfold blkH
    rw [e2, if_neg hc, e1]
/-- A row of what is held. -/
theorem hold_at {M : Nat → Nat → Option Nat} {p : Nat} (hp : p < P) : ∃ R, holdH C adr M P = pt (C.hr p) (.cells (hrow adr (M p)) 102 (0, 0)) + R ∧
    ∀ M' : Nat → Nat → Option Nat, (∀ q, q ≠ p → M' q = M q) → holdH C adr M' P = pt (C.hr p) (.cells (hrow adr (M' p)) 102 (0, 0)) + R := by
  obtain ⟨a, b, hab, hl⟩ := split_at (l := List.range P) (i := p) (x := p) (by rw [List.getElem?_range hp])
  have hnd : (List.range P).Nodup := List.nodup_range
  rw [hab, List.nodup_append] at hnd
  obtain ⟨_, n2, n3⟩ := hnd
  rw [List.nodup_cons] at n2
  have hne : ∀ q ∈ a ++ b, q ≠ p := by
    intro q hq e
    subst e
    rcases List.mem_append.1 hq with h | h
    · exact n3 q h q (by simp) rfl
    · exact n2.1 h
  refine ⟨sumB (rowH C adr M) (a ++ b), ?_, fun M' hM => ?_⟩
  · unfold holdH; rw [hab, sumB_mid]; rfl
  · unfold holdH; rw [hab, sumB_mid, sumB_congr (f := rowH C adr M') (g := rowH C adr M) (fun q hq => by unfold rowH; rw [hM q (hne q hq)])]; rfl
theorem hrow_get {f : Nat → Option Nat} {c : Nat} (hc : c < 16) : (hrow adr f)[c]? = some (.pointer ((f c).map fun b => ⟨adr b, 0, none⟩)) := by
  unfold hrow
  rw [rows_get (ptrC_len adr) (i := c) (j := 0) (x := f c) (by omega) (by omega) (by rw [List.getElem?_map, List.getElem?_range hc]; rfl)]
  rfl
theorem hrow_size {f : Nat → Option Nat} : (hrow adr f).size = 16 := by unfold hrow; rw [rows_size (ptrC_len adr)]; simp
theorem hrow_set {f : Nat → Option Nat} {c : Nat} (hc : c < 16) (x : Option Nat) : (hrow adr f).setIfInBounds c (.pointer (x.map fun b => ⟨adr b, 0, none⟩)) = hrow adr fun i => if i = c then x else f i := by
  unfold hrow
  rw [rows_set (ptrC_len adr) (i := c) (j := 0) (x := f c) (x' := x) (by omega) (by omega) (by rw [List.getElem?_map, List.getElem?_range hc]; rfl) rfl]
  congr 1
  apply List.ext_getElem?
  intro i
  rw [List.getElem?_set, List.getElem?_map, List.getElem?_map]
  by_cases e : c = i
  · subst e; rw [if_pos rfl, List.getElem?_range hc]; simp [hc]
  · rw [if_neg e]
    by_cases hi : i < 16
    · rw [List.getElem?_range hi]; simp [Ne.symm e]
    · rw [List.getElem?_eq_none (by simpa using hi)]; rfl

/-! ### words, full -/
theorem cellwords_does {B : Blk} (hB : BOk P B) (hc : B.cls ≠ -2) (hn : B.base + B.pages ≤ 4096) {a : Nat} {m r : HP} [hs : Has a m (blkO B) r] :
    Does Tryd.prog 53 #[.pointer (some ⟨a, 0, none⟩)] m (ret (.int .i64 (B.words : Nat)) m) := by
  haveI : Has a m (.cells (blkC B) 107 (0, 0)) r := hs
  refine F53_fn ?_
  unfold F53
  have hcl := hB.cls
  refine hNil_some (hLoad_add (hLoad_int (by rfl) ?_))
  refine hIf_dec (fun h => ?_) (fun h => ?_)
  · refine hNil_some (hLoad_add (hLoad_int (by rfl) (hInt_i64 (by omega) (by omega) ?_)))
    unfold Blk.words
    rw [if_pos h]
    exact ret.eq (by push_cast; rfl) (Over.refl _)
  · refine hNil_some (hLoad_add (hLoad_int (by rfl) (hCall_ret (cwords_does _) ⟨_, rfl, ?_⟩)))
    unfold Blk.words
    rw [if_neg h]
    obtain ⟨c, hcc⟩ := Int.eq_ofNat_of_zero_le (a := B.cls) (by omega)
    rw [hcc, wordsI_nat (by omega)]
    exact ret.mk (Over.refl _)
open Classical in
theorem cellfull_does {B : Blk} (hB : BOk P B) (hc : 0 ≤ B.cls) {a : Nat} {m r : HP} [hs : Has a m (blkO B) r] :
    Does Tryd.prog 69 #[.pointer (some ⟨a, 0, none⟩)] m (ret (.bool (decide B.full)) m) := by
  haveI : Has a m (.cells (blkC B) 107 (0, 0)) r := hs
  have hcl := hB.cls
  have hle := Blk.cells_le hB
  refine F69_fn ?_
  unfold F69
  refine hNil_some (hLoad_add (hLoad_int (by rfl) (hNil_some (hLoad_add (hLoad_int (by rfl) ?_)))))
  refine hCall_ret (ones_does _) ⟨_, rfl, hLoad_add (hLoad_int (by rfl) ⟨rfl, ?_⟩)⟩
  obtain ⟨c, hcc⟩ := Int.eq_ofNat_of_zero_le (a := B.cls) (by omega)
  rw [hcc]
  refine hCall_ret (ccells_does (by omega)) ⟨_, rfl, ?_⟩
  refine ret.eq ?_ (Over.refl _)
  have hcells : B.cells = cellsN c := by unfold Blk.cells; rw [if_neg (by omega), if_neg (by omega), hcc]; rfl
  have h1 : cntT B.used.getLsbD 64 = cntT B.bit B.cells := cntT_more hle hB.low
  congr 1
  rw [h1, ← hcells]
  rw [Bool.eq_iff_iff]
  simp only [beq_iff_eq, decide_eq_true_eq, Int.natCast_inj]
  exact cntT_full
end
end Go.Proofs.YtolfcdjbchdkgaaDoor
/- Cells: find, Find, Used, Counts, count. Own work. -/
namespace Go.Proofs.YtolfcdjbchdkgaaDoor
open Go Go.Hp
set_option maxRecDepth 100000
attribute [local irreducible] hLoad hStore hNew hInt hQuo hRem hShl hShr hIf hNil hIdx hCut hElem hByte hAppend hMake hCall hYield hGet hPut hDel hNewMap hLoop hLet hAll hRange hRec hEq hCmp bitv W Does HYield

theorem bit_test (u : BitVec 64) (k : Nat) : (bitv .and .u64 (W (u >>> k)) 1 == 1) = u.getLsbD k := by
  have c1 : (1 : Int) = W 1#64 := W_lit 1 (by decide)
  rw [c1, bitv_and, Bool.eq_iff_iff, beq_iff_eq, W_inj]
  have e1 : ((u >>> k) &&& 1#64).toNat = (u >>> k).toNat % 2 := by
    rw [BitVec.toNat_and]; exact Nat.and_one_is_mod _
  have e2 : (u >>> k).getLsbD 0 = u.getLsbD k := by rw [BitVec.getLsbD_ushiftRight]; rfl
  rw [← e2]
  constructor
  · intro h
    have h1 := congrArg BitVec.toNat h
    rw [e1] at h1
    have h2 : (1#64).toNat = 1 := by decide
    rw [h2] at h1
    show (u >>> k).toNat.testBit 0 = true
    rw [Nat.testBit_zero]; exact decide_eq_true h1
  · intro h
    have h1 : (u >>> k).toNat.testBit 0 = true := h
    rw [Nat.testBit_zero] at h1
    apply BitVec.eq_of_toNat_eq
    rw [e1]
    have h2 : (1#64).toNat = 1 := by decide
    rw [h2]; exact of_decide_eq_true h1

theorem SpanAt.lok {T : TL} {n : Nat} {l : List Sp} {X : HP} (h : SpanAt T n l X) : LOk n l := by obtain ⟨us, l0, k, S, O, G, rfl⟩ := h; exact G.ok
theorem findS_untag {l : List Sp} {p : Int} : findS (untag l) p = (findS l p).map fun s => ⟨s.base, s.pages, 0⟩ := by
  unfold findS untag
  rw [List.find?_map]; rfl
theorem findS_isSome {l : List Sp} {p : Int} : (findS (untag l) p).isSome = (findS l p).isSome := by rw [findS_untag]; simp

section
variable {C : CL} {adr : Nat → Nat} {n P : Nat} {l : List Sp} {bs : List Blk} {nc nw : Int} {X : HP}
theorem MGood.block_of {lt : List Sp} {XT : HP} {es : Array MapEntry} {ho : Array Value} {M : Nat → Nat → Option Nat} (G : MGood C adr n P l bs lt XT es ho M) {s : Sp} (hs : s ∈ lt) : ∃ B ∈ bs, B.base = s.base ∧ B.pages = s.pages := by
  have h1 : (⟨s.base, s.pages, 0⟩ : Sp) ∈ l := by rw [← G.lt]; exact mem_untag.2 ⟨s, hs, rfl⟩
  obtain ⟨B, hB, e⟩ := G.ok.cov _ h1
  refine ⟨B, hB, e, ?_⟩
  obtain ⟨t, ht, e1, e2⟩ := G.ok.sub B hB
  have hp1 := G.ok.lok.pos _ h1
  simp only at hp1 e
  have := G.ok.lok.apart h1 ht (p := s.base) ⟨Nat.le_refl _, by simp only; omega⟩ ⟨by omega, by have := G.ok.lok.pos t ht; omega⟩
  rw [← e2, ← this]
theorem MGood.span_of {lt : List Sp} {XT : HP} {es : Array MapEntry} {ho : Array Value} {M : Nat → Nat → Option Nat} (G : MGood C adr n P l bs lt XT es ho M) {B : Blk} (hB : B ∈ bs) : ∃ s ∈ lt, s.base = B.base ∧ s.pages = B.pages := by
  have h1 := G.ok.sp hB
  rw [← G.lt] at h1
  obtain ⟨t, ht, e⟩ := mem_untag.1 h1
  simp only [Sp.mk.injEq] at e
  exact ⟨t, ht, e.1.symm, e.2.1.symm⟩

theorem cfind_does (h : CellM C adr n P l bs nc nw X) (addr : Int) (ha : addr ≤ 9223372036854775807) {m r : HP} [hs : Sub X m r] :
    Does Tryd.prog 52 #[.pointer (some ⟨C.c, 0, none⟩), .int .i64 addr] m fun e m' =>
      ((∀ B ∈ bs, B.cls ≠ -2 → ¬ B.has addr) ∧ ret (.tuple #[.pointer none, .int .i64 0, .bool false]) (X + r) e m') ∨
      ∃ B ∈ bs, B.cls ≠ -2 ∧ B.has addr ∧ ret (.tuple #[.pointer (some ⟨adr B.base, 0, none⟩), .int .i64 ((addr.toNat - B.base * 64) / B.words : Nat), .bool (B.bit ((addr.toNat - B.base * 64) / B.words))]) (X + r) e m' := by
  obtain ⟨lt, XT, es, clock, ho, cap, M, G, rfl⟩ := h
  have hnle := G.nle
  rw [hs.eq]
  refine F52_fn ?_
  unfold F52 cellX
  refine hIf_false rfl (hIf_dec (fun h => ?_) (fun h => ?_))
  · exact .inl ⟨fun B _ _ hh => by unfold Blk.has at hh; omega, ret.mk (Over.of _ _)⟩
  refine hNil_some (hLoad_ptr (by rfl) (hQuo_pos (by omega) ha (by omega) ?_))
  refine hCall_ret (sfind_does G.span _) ⟨_, _, _, _, rfl, ?_⟩
  refine hNew_of fun b11 => hStore3_0 (hStore3_1 (hStore3_2 ?_))
  cases hf : findS lt (addr / 64) with
  | none =>
    refine hIf_true rfl (.inl ⟨fun B hB hc hh => ?_, ret.mk (Over.of _ _)⟩)
    obtain ⟨s, hs1, e1, e2⟩ := G.span_of hB
    unfold Blk.has at hh
    have := findS_eq G.span.lok hs1 (p := (addr / 64).toNat) ⟨by omega, by omega⟩
    rw [show (((addr / 64).toNat : Nat) : Int) = addr / 64 by omega, hf] at this; cases this
  | some s =>
    obtain ⟨hs1, hs2, hs3⟩ := findS_mem hf
    obtain ⟨B, hB, e1, e2⟩ := G.block_of hs1
    have hhas : B.has addr := by unfold Blk.has; omega
    have hpl := G.ok.pages_le hB
    refine hIf_false rfl (hNil_some (hLoad_add (hLoad_map (by rfl) (hLoad_int (by rfl) (hGet_of G.map ?_)))))
    simp only [Option.getD_some]
    by_cases hc : B.cls = -2
    · rw [← e1, mapF_none fun D hD e => by rw [G.ok.base_inj hD hB (by omega)]; exact hc]
      refine ⟨none, rfl, hIf_true rfl (.inl ⟨fun D hD hdc hdh => ?_, ret.mk (Over.of _ _)⟩)⟩
      rw [G.ok.has_uniq hD hB hdh hhas] at hdc
      exact hdc hc
    · rw [← e1, mapF_some G.ok hB hc]
      refine ⟨_, rfl, hIf_false rfl ?_⟩
      obtain ⟨R, hR, _⟩ := blocks_at (adr := adr) hB hc G.ok
      rw [hR]
      have hw := Blk.words_pos (G.ok.bok B hB)
      have hh := hhas
      unfold Blk.has at hh
      refine hLoad_int (x := (B.base : Int)) (by rfl) (hInt_i64 (by omega) (by omega) (hInt_i64 (by omega) (by omega) ?_))
      refine hCall_ret (cellwords_does (G.ok.bok B hB) hc (by omega)) ⟨_, rfl, hLoad_int (x := (B.base : Int)) (by rfl) ⟨rfl, hQuo_pos (by omega) (by omega) (by omega) ?_⟩⟩
      obtain ⟨x, hx⟩ := Int.eq_ofNat_of_zero_le (a := addr) (by omega)
      have ek : (addr - (B.base : Int) * 64) / (B.words : Nat) = (((addr.toNat - B.base * 64) / B.words : Nat) : Int) := by
        rw [Int.natCast_ediv]; congr 1; omega
      rw [ek]
      refine hIf_dec (fun h1 => ?_) (fun h1 => ?_)
      · refine hNil_some (hLoad_add (hLoad_int (c := blkC B) (x := W B.used) (by rfl) (hShr_W (Int.natCast_nonneg _) ?_)))
        rw [Int.toNat_natCast, bit_test]
        exact .inr ⟨B, hB, hc, hhas, ret.mk (Over.of _ _)⟩
      · refine .inr ⟨B, hB, hc, hhas, ret.eq ?_ (Over.of _ _)⟩
        rw [show B.bit ((addr.toNat - B.base * 64) / B.words) = false from BitVec.getLsbD_of_ge _ _ (by omega)]

theorem cFind_does (h : CellM C adr n P l bs nc nw X) (addr : Int) (ha : addr ≤ 9223372036854775807) {m r : HP} [hs : Sub X m r] :
    Does Tryd.prog 24 #[.pointer (some ⟨C.c, 0, none⟩), .int .i64 addr] m fun e m' =>
      ((∀ B k, ¬ Hit bs addr B k) ∧ ret (.tuple #[.int .i64 0, .int .i64 0, .bool false]) (X + r) e m') ∨
      ∃ B k, Hit bs addr B k ∧ ret (.tuple #[.int .i64 (B.at_ k : Nat), .int .i64 (B.words : Nat), .bool true]) (X + r) e m' := by
  refine F24_fn ?_
  unfold F24
  have hok : COk n P l bs := by obtain ⟨_, _, _, _, _, _, _, G, _⟩ := h; exact G.ok
  have hnle : n ≤ 4096 := by obtain ⟨_, _, _, _, _, _, _, G, _⟩ := h; exact G.nle
  refine hCall_of (cfind_does h addr ha) ?_
  rintro e m' (⟨h1, rfl, ho⟩ | ⟨B, hB, hc, hh, rfl, ho⟩)
  · refine ⟨_, ho, _, _, _, rfl, hIf_true rfl (.inl ⟨fun B k ht => ?_, ret.mk (Over.refl _)⟩)⟩
    refine h1 B ht.mem (fun e => ?_) (ht.has hok)
    have := (hok.bok B ht.mem).bit_lt ht.bit
    unfold Blk.cells at this; rw [if_pos e] at this; omega
  · have hw := Blk.words_pos (hok.bok B hB)
    have hpl := hok.pages_le hB
    obtain ⟨k, hk⟩ : ∃ k, k = (addr.toNat - B.base * 64) / B.words := ⟨_, rfl⟩
    rw [← hk]
    have hdiv := (hit_div hw hh k).2 hk.symm
    refine ⟨_, ho, _, _, _, rfl, ?_⟩
    cases hb : B.bit k with
    | false =>
      refine hIf_true rfl (.inl ⟨fun D k' ht => ?_, ret.mk (Over.refl _)⟩)
      obtain rfl := hok.has_uniq ht.mem hB (ht.has hok) hh
      have e := (hit_div hw hh k').1 ⟨ht.lo, ht.hi⟩
      rw [← hk] at e; subst e
      rw [ht.bit] at hb; cases hb
    | true =>
      have ht : Hit bs addr B k := ⟨hB, hb, hdiv.1, hdiv.2⟩
      obtain ⟨lt, XT, es, clock, ho', cap, M, G, rfl⟩ := h
      unfold cellX
      obtain ⟨R, hR, _⟩ := blocks_at (adr := adr) hB hc G.ok
      rw [hR]
      have hkc := (hok.bok B hB).bit_lt hb
      have hroom := Blk.room (hok.bok B hB)
      have hm := Nat.mul_le_mul_right B.words (show k ≤ B.cells by omega)
      refine hIf_false rfl (hNil_some (hLoad_int (c := blkC B) (x := (B.base : Int)) (by rfl) (hInt_i64 (by omega) (by omega) ?_)))
      have hkw : ((k : Nat) : Int) * (B.words : Nat) = ((k * B.words : Nat) : Int) := by push_cast; rfl
      refine hCall_ret (cellwords_does (hok.bok B hB) hc (by omega)) ⟨_, rfl, hLoad_int (c := blkC B) (x := (B.base : Int)) (by rfl) ⟨rfl, ?_⟩⟩
      rw [hkw]
      refine hInt_i64 (by omega) (by omega) (hInt_i64 (by omega) (by omega) ?_)
      refine hCall_ret (cellwords_does (hok.bok B hB) hc (by omega)) ⟨_, rfl, hLoad_int (c := blkC B) (x := (B.base : Int)) (by rfl) ⟨rfl, ?_⟩⟩
      refine .inr ⟨B, k, ht, ret.eq ?_ (Over.refl _)⟩
      unfold Blk.at_
      rw [show ((B.base * 64 + k * B.words : Nat) : Int) = (B.base : Int) * 64 + ((k * B.words : Nat) : Int) by push_cast; rfl]

theorem cUsed_does (h : CellM C adr n P l bs nc nw X) (page : Int) {m r : HP} [hs : Sub X m r] :
    Does Tryd.prog 30 #[.pointer (some ⟨C.c, 0, none⟩), .int .i64 page] m (ret (.bool (findS l page).isSome) (X + r)) := by
  obtain ⟨lt, XT, es, clock, ho, cap, M, G, rfl⟩ := h
  rw [hs.eq]
  refine F30_fn ?_
  unfold F30 cellX
  refine hIf_false rfl (hNil_some (hLoad_ptr (by rfl) (hCall_ret (sfind_does G.span _) ⟨_, _, _, _, rfl, ?_⟩)))
  refine hNew_of fun b11 => hStore3_0 (hStore3_1 (hStore3_2 ?_))
  rw [← G.lt, findS_isSome]
  exact ret.mk (Over.of _ _)
theorem cCounts_does (h : CellM C adr n P l bs nc nw X) {m r : HP} [hs : Sub X m r] :
    Does Tryd.prog 26 #[.pointer (some ⟨C.c, 0, none⟩)] m (ret (.tuple #[.int .i64 nc, .int .i64 nw, .int .i64 (cntFree (UL n l) n : Nat)]) (X + r)) := by
  obtain ⟨lt, XT, es, clock, ho, cap, M, G, rfl⟩ := h
  rw [hs.eq]
  refine F26_fn ?_
  unfold F26 cellX
  refine hIf_false rfl (hNil_some (hLoad_ptr (by rfl) (hCall_of (scounts_does G.span) ?_)))
  rintro e m' ⟨x, hx, rfl, ho⟩
  refine ⟨_, ho, _, _, rfl, hNil_some (hLoad_add (hLoad_int (x := nc) (by rfl) (hNil_some (hLoad_add (hLoad_int (x := nw) (by rfl) ?_)))))⟩
  rw [← G.lt, UL_untag]
  exact ret.mk (Over.of _ _)
theorem ccountup_does (h : CellM C adr n P l bs nc nw X) {B : Blk} (hB : B ∈ bs) (hc : B.cls ≠ -2) {k : Nat} (hk : k ≤ B.cells) (h0 : 0 ≤ nc ∧ nc ≤ 1000000000000) (h1 : 0 ≤ nw ∧ nw ≤ 1000000000000) {m r : HP} [hs : Sub X m r] :
    Does Tryd.prog 49 #[.pointer (some ⟨C.c, 0, none⟩), .pointer (some ⟨adr B.base, 0, none⟩), .int .i64 (k : Int)] m fun e m' => ∃ X', CellM C adr n P l bs (nc + 1) (nw + (B.words : Nat)) X' ∧ ret (.int .i64 (B.at_ k : Nat)) (X' + r) e m' := by
  obtain ⟨lt, XT, es, clock, ho, cap, M, G, rfl⟩ := h
  have hbk := G.ok.bok B hB
  have hnle := G.nle
  have hpl := G.ok.pages_le hB
  have hroom := Blk.room hbk
  have hm := Nat.mul_le_mul_right B.words hk
  have hw2 : B.words ≤ 262144 := by
    unfold Blk.words; split
    · omega
    · rcases hbk.cls with e | e | e
      · omega
      · omega
      · have := words_facts (c := B.cls.toNat) (by omega); omega
  rw [hs.eq]
  refine F49_fn ?_
  unfold F49 cellX
  obtain ⟨R, hR, _⟩ := blocks_at (adr := adr) hB hc G.ok
  rw [hR]
  refine hNil_some (hLoad_add (hLoad_int (x := nc) (by rfl) (hInt_i64 (by omega) (by omega) (hNil_some (hStore_add (hStore_at (c := headC C P cap nc nw) (by simp [headC]) ?_))))))
  refine hNil_some (hLoad_add (hLoad_int (x := nw) (by rfl) ?_))
  refine hCall_ret (cellwords_does hbk hc (by omega)) ⟨_, rfl, hLoad_add (hLoad_int (x := nw) (by rfl) ⟨rfl, hInt_i64 (by omega) (by omega) (hNil_some (hStore_add (hStore_at (by simp [headC]) ?_)))⟩)⟩
  refine hNil_some (hLoad_int (c := blkC B) (x := (B.base : Int)) (by rfl) (hInt_i64 (by omega) (by omega) ?_))
  have hkw : ((k : Nat) : Int) * (B.words : Nat) = ((k * B.words : Nat) : Int) := by push_cast; rfl
  refine hCall_ret (cellwords_does hbk hc (by omega)) ⟨_, rfl, hLoad_int (c := blkC B) (x := (B.base : Int)) (by rfl) ⟨rfl, ?_⟩⟩
  rw [hkw]
  refine hInt_i64 (by omega) (by omega) (hInt_i64 (by omega) (by omega) ?_)
  rw [show (((headC C P cap nc nw).setIfInBounds (0 + 3) (.int .i64 (nc + 1))).setIfInBounds (0 + 4) (.int .i64 (nw + (B.words : Nat)))) = headC C P cap (nc + 1) (nw + (B.words : Nat)) from rfl]
  refine ⟨cellX C adr P bs (nc + 1) (nw + (B.words : Nat)) XT es clock ho cap M, ⟨lt, XT, es, clock, ho, cap, M, G, rfl⟩, ret.eq ?_ ?_⟩
  · unfold Blk.at_
    rw [show ((B.base * 64 + k * B.words : Nat) : Int) = (B.base : Int) * 64 + ((k * B.words : Nat) : Int) by push_cast; rfl]
  · unfold cellX
    rw [hR]
    exact Over.of _ _
end
end Go.Proofs.YtolfcdjbchdkgaaDoor
/- Cells: block, drop, Pages, Give. Own work. -/
namespace Go.Proofs.YtolfcdjbchdkgaaDoor
open Go Go.Hp
set_option maxRecDepth 100000
attribute [local irreducible] hLoad hStore hNew hInt hQuo hRem hShl hShr hIf hNil hIdx hCut hElem hByte hAppend hMake hCall hYield hGet hPut hDel hNewMap hLoop hLet hAll hRange hRec hEq hCmp bitv W Does HYield

theorem MapIs.congr' {k : IntKind} {es : Array MapEntry} {f g : Int → Option Value} (h : MapIs k es f) (e : ∀ i, f i = g i) : MapIs k es g := by
  have : f = g := funext e
  subst this; exact h
/-- Without the block that begins here. -/
def rem (bs : List Blk) (b : Nat) : List Blk := bs.filter fun B => B.base != b
theorem rem_split {b1 b2 : List Blk} {B : Blk} (h : ∀ x ∈ b1 ++ b2, x.base ≠ B.base) : rem (b1 ++ B :: b2) B.base = b1 ++ b2 := by
  have key : ∀ l : List Blk, (∀ x ∈ l, x.base ≠ B.base) → l.filter (fun C => C.base != B.base) = l := by
    intro l hl; rw [List.filter_eq_self]; intro x hx; simpa using hl x hx
  unfold rem
  rw [List.filter_append, List.filter_cons, key b1 fun x hx => h x (by simp [hx]), key b2 fun x hx => h x (by simp [hx])]
  simp
theorem mem_rem {bs : List Blk} {b : Nat} {C : Blk} : C ∈ rem bs b ↔ C ∈ bs ∧ C.base ≠ b := by unfold rem; simp

section
variable {C : CL} {adr : Nat → Nat} {n P : Nat} {l : List Sp} {bs : List Blk} {nc nw : Int} {X : HP}
theorem hold_congr {adr' : Nat → Nat} {M : Nat → Nat → Option Nat} (h : ∀ p c b, p < P → c < 16 → M p c = some b → adr' b = adr b) : holdH C adr' M P = holdH C adr M P := by
  unfold holdH
  refine sumB_congr fun p hp => ?_
  have hp' : p < P := by simpa using hp
  unfold rowH hrow rows
  congr 3
  rw [List.flatMap_def, List.flatMap_def, List.map_map, List.map_map]
  congr 1
  apply List.map_congr_left
  intro c hc
  have hc' : c < 16 := by simpa using hc
  simp only [Function.comp, ptrC]
  cases e : M p c with
  | none => rfl
  | some b => simp only [Option.map_some]; rw [h p c b hp' hc' e]
theorem blks_congr {adr' : Nat → Nat} (h : ∀ B ∈ bs, adr' B.base = adr B.base) : sumB (blkH adr') bs = sumB (blkH adr) bs :=
  sumB_congr fun B hB => by unfold blkH; rw [h B hB]
theorem mapF_congr {adr' : Nat → Nat} (h : ∀ B ∈ bs, adr' B.base = adr B.base) (k : Int) : mapF adr' bs k = mapF adr bs k := by
  unfold mapF
  cases e : bs.find? fun B => decide ((B.base : Int) = k) && decide (B.cls ≠ -2) with
  | none => rfl
  | some B => simp only [Option.map_some]; rw [h B (List.mem_of_find?_eq_some e)]
theorem mapF_add {N : Blk} (hk : COk n P l (bs ++ [N])) (k : Int) : mapF adr (bs ++ [N]) k = if k = (N.base : Int) then (if N.cls = -2 then none else some (.pointer (some ⟨adr N.base, 0, none⟩))) else mapF adr bs k := by
  by_cases e : k = (N.base : Int)
  · rw [if_pos e, e]
    by_cases e2 : N.cls = -2
    · rw [if_pos e2]
      exact mapF_none fun B hB e3 => by rw [hk.base_inj hB (show N ∈ bs ++ [N] by simp) (by omega)]; exact e2
    · rw [if_neg e2]; exact mapF_some hk (by simp) e2
  · rw [if_neg e]
    unfold mapF
    rw [List.find?_append]
    have : ([N].find? fun B => decide ((B.base : Int) = k) && decide (B.cls ≠ -2)) = none := by
      rw [List.find?_eq_none]; intro x hx; rw [List.mem_singleton] at hx; subst hx; simp; omega
    rw [this, Option.or_none]
theorem mapF_rem {b : Nat} (k : Int) : mapF adr (rem bs b) k = if k = (b : Int) then none else mapF adr bs k := by
  by_cases e : k = (b : Int)
  · rw [if_pos e]; exact mapF_none fun B hB e2 => absurd (mem_rem.1 hB).2 (by omega)
  · rw [if_neg e]
    unfold mapF rem
    congr 1
    rw [List.find?_filter]
    congr 1
    funext B
    by_cases e2 : (B.base : Int) = k
    · have e3 : B.base ≠ b := by omega
      simp [e3]
    · simp [e2]

theorem COk.rem (h : COk n P l bs) {B : Blk} (hB : B ∈ bs) : COk n P (delS B.base l) (rem bs B.base) := by
  obtain ⟨b1, b2, rfl⟩ := mem_split hB
  rw [rem_split (nodup_split h.nod)]
  exact h.del

theorem cblock_does (h : CellM C adr n P l bs nc nw X) {pages : Nat} {of : Int} (hp1 : 1 ≤ pages) (hp2 : pages ≤ 1000) (hof : of = -1 ∨ (0 ≤ of ∧ of < 16 ∧ pages = pagesN of.toNat)) {m r r2 : HP} {Tt : TypeId} {fr : Nat × Nat} [hs : Sub X m r] [Has 0 r (.cells deBc Tt fr) r2] :
    Does Tryd.prog 48 #[.pointer (some ⟨C.c, 0, none⟩), .int .i64 (pages : Int), .int .i64 of] m fun e m' =>
      (Nowhere (UL n l) pages ∧ ret (.tuple #[.pointer none, .int .i64 3]) (X + r) e m') ∨
      ∃ (a : Nat) (adr' : Nat → Nat) (X' : HP), First (UL n l) pages a ∧ CellM C adr' n P (insS ⟨a, pages, 0⟩ l) (bs ++ [⟨a, pages, of, 0#64, none⟩]) nc nw X' ∧ (∀ B ∈ bs, adr' B.base = adr B.base) ∧
        ret (.tuple #[.pointer (some ⟨adr' a, 0, none⟩), .int .i64 0]) (X' + r) e m' := by
  obtain ⟨lt, XT, es, clock, ho, cap, M, G, rfl⟩ := h
  rw [hs.eq]
  refine F48_fn ?_
  unfold F48 cellX
  refine hNil_some (hLoad_ptr (by rfl) (hInt_i64 (by omega) (by omega) ?_))
  refine hCall_of (salloc_does G.span (pages : Int) (of + 1) (by omega)) ?_
  have hUL : UL n lt = UL n l := by rw [← G.lt, UL_untag]
  rintro e m' (⟨h1, _⟩ | ⟨_, h1, rfl, hov⟩ | ⟨a, XT', h1, hf, hT, rfl, hov⟩)
  · omega
  · refine ⟨_, hov, _, _, _, _, rfl, hNew_of fun b12 => hStore3_0 (hStore3_1 (hStore3_2 (hIf_true rfl (.inl ⟨?_, ret.mk (Over.of _ _)⟩))))⟩
    rw [Int.toNat_natCast, hUL] at h1; exact h1
  · rw [Int.toNat_natCast] at hf hT
    rw [hUL] at hf
    refine ⟨_, hov, _, _, _, _, rfl, hNew_of fun b12 => hStore3_0 (hStore3_1 (hStore3_2 (hIf_false rfl ?_)))⟩
    refine hLoad_int (by rfl) (hLoad_int (by rfl) (hLoad_int (by rfl) (hNew_of fun b16 => ?_)))
    obtain ⟨N, hN⟩ : ∃ N : Blk, N = ⟨a, pages, of, 0#64, none⟩ := ⟨_, rfl⟩
    have hcell : (Obj.cells #[.int .i64 (a : Int), .int .i64 (pages : Int), .int .i64 (of + 1), .int .i64 of, .int .u64 0, .bool false] 107 (0, 0)) = blkO N := by
      subst hN; unfold blkO blkC; rw [c0]; rfl
    rw [hcell]
    have hbk : BOk P N := by
      subst hN
      exact ⟨by rcases hof with e | e
                · exact .inr (.inl e)
                · exact .inr (.inr e), hp1, fun i _ => by unfold Blk.bit; simp, fun p hp => by cases hp⟩
    have hok : COk n P (insS ⟨N.base, N.pages, 0⟩ l) (bs ++ [N]) := G.ok.add (by subst hN; exact hf) hbk (fun D _ p hp _ _ => by subst hN; cases hp)
    have hnew : ∀ D ∈ bs, D.base ≠ a := fun D hD e => by
      have := (G.ok.bok D hD).pos
      exact hf.apart (G.ok.sp hD) (p := a) (Nat.le_refl _) (by omega) ⟨by simp only; omega, by simp only; omega⟩
    refine hNil_some (hLoad_add (hLoad_map (by rfl) (hLoad_int (by rfl) (hPut_of G.map fun es' clock' hm => ?_))))
    have hagree : ∀ D ∈ bs, (fun x => if x = a then b16 else adr x) D.base = adr D.base := fun D hD => by simp only; rw [if_neg (hnew D hD)]
    refine .inr ⟨a, fun x => if x = a then b16 else adr x, cellX C (fun x => if x = a then b16 else adr x) P (bs ++ [N]) nc nw XT' es' clock' ho cap M, hf, ?_, hagree, ret.eq ?_ ?_⟩
    · rw [← hN]
      refine ⟨_, XT', es', clock', ho, cap, M, ⟨by rw [show (⟨a, pages, 0⟩ : Sp) = ⟨N.base, N.pages, 0⟩ by rw [hN]]; exact hok, G.nle, G.ple, hT, ?_, ?_, G.ho, fun p c b hp hc => ?_⟩, rfl⟩
      · rw [untag_ins, G.lt]
      · refine MapIs.congr' hm fun i => ?_
        rw [mapF_add hok, mapF_congr (adr := adr) (adr' := fun x => if x = a then b16 else adr x) hagree]
        subst hN
        simp only [if_true]
        rcases hof with e | e
        · rw [if_neg (show ¬ of = -2 by omega)]
        · rw [if_neg (show ¬ of = -2 by omega)]
      · rw [G.mat p c b hp hc]
        constructor
        · rintro ⟨B, hB, e⟩; exact ⟨B, by simp [hB], e⟩
        · rintro ⟨B, hB, e1, e2, e3⟩
          rcases List.mem_append.1 hB with hB | hB
          · exact ⟨B, hB, e1, e2, e3⟩
          · rw [List.mem_singleton] at hB; subst hB hN; cases e2
    · simp
    · unfold cellX
      rw [hold_congr (adr' := fun x => if x = a then b16 else adr x) (adr := adr) (fun p c b hp hc e => by
        obtain ⟨B, hB, e1, _⟩ := (G.mat p c b hp hc).1 e
        rw [← e1]; exact hagree B hB), sumB_append, blks_congr hagree]
      have e : sumB (blkH fun x => if x = a then b16 else adr x) [N] = pt b16 (blkO N) := by
        simp only [sumB, HP.add_zero]; unfold blkH; subst hN
        simp only [if_true]
        rcases hof with e | e
        · rw [if_neg (show ¬ of = -2 by omega)]
        · rw [if_neg (show ¬ of = -2 by omega)]
      rw [e]
      exact Over.of _ _

theorem cdrop_does (h : CellM C adr n P l bs nc nw X) {B : Blk} (hB : B ∈ bs) (hc : B.cls ≠ -2) {m r r2 : HP} {Tt : TypeId} {fr : Nat × Nat} [hs : Sub X m r] [Has 0 r (.cells deBc Tt fr) r2] :
    Does Tryd.prog 54 #[.pointer (some ⟨C.c, 0, none⟩), .pointer (some ⟨adr B.base, 0, none⟩)] m fun e m' =>
      (¬ (B.used = 0#64 ∧ B.holder = none) ∧ ret (.tuple #[]) (X + r) e m') ∨
      (B.used = 0#64 ∧ B.holder = none ∧ ∃ X', CellM C adr n P (delS B.base l) (rem bs B.base) nc nw X' ∧ ret (.tuple #[]) (X' + r) e m') := by
  obtain ⟨lt, XT, es, clock, ho, cap, M, G, rfl⟩ := h
  rw [hs.eq]
  refine F54_fn ?_
  unfold F54 cellX
  obtain ⟨b1, b2, hbs⟩ := mem_split hB
  have hsum : sumB (blkH adr) bs = pt (adr B.base) (blkO B) + sumB (blkH adr) (rem bs B.base) := by
    have hnd := G.ok.nod
    rw [hbs] at hnd ⊢
    rw [sumB_mid, rem_split (nodup_split hnd)]
    congr 1
    unfold blkH; rw [if_neg hc]
  rw [hsum]
  refine hNil_some (hLoad_add (hLoad_int (c := blkC B) (x := W B.used) (by rfl) ?_))
  refine hIf_eqW0 (fun h1 => ?_) (fun h1 => .inl ⟨fun h2 => h1 h2.1, ret.mk (Over.of _ _)⟩)
  refine hNil_some (hLoad_add (hLoad_bool (c := blkC B) (x := B.holder.isSome) (by rfl) ?_))
  refine hIf_not (hIf_split (fun h2 => .inl ⟨fun h3 => (by rw [h3.2] at h2; cases h2), ret.mk (Over.of _ _)⟩) (fun h2 => ?_))
  have h2' : B.holder = none := by simpa using h2
  refine hNil_some (hLoad_add (hLoad_map (by rfl) (hNil_some (hLoad_int (c := blkC B) (x := (B.base : Int)) (by rfl) (hDel_of G.map fun es' clock' hm => ?_)))))
  refine hNil_some (hLoad_ptr (by rfl) (hNil_some (hLoad_int (c := blkC B) (x := (B.base : Int)) (by rfl) ?_)))
  refine hCall_of (sfree_does G.span _) ?_
  obtain ⟨s0, hs0, e0, e1⟩ := G.span_of hB
  rintro e m' (⟨h3, _⟩ | ⟨s, XT', h3, h4, hT, rfl, hov⟩)
  · exact absurd (by omega) (h3 s0 hs0)
  refine ⟨_, hov, _, rfl, .inr ⟨h1, h2', cellX C adr P (rem bs B.base) nc nw XT' es' clock' ho cap M, ⟨_, XT', es', clock', ho, cap, M, ⟨G.ok.rem hB, G.nle, G.ple, hT, ?_, ?_, G.ho, fun p c b hp hc' => ?_⟩, rfl⟩, ?_⟩⟩
  · rw [untag_del, G.lt]; congr 1; omega
  · exact MapIs.congr' hm fun i => (mapF_rem i).symm
  · rw [G.mat p c b hp hc']
    constructor
    · rintro ⟨D, hD, d1, d2, d3⟩
      refine ⟨D, mem_rem.2 ⟨hD, fun e => ?_⟩, d1, d2, d3⟩
      rw [G.ok.base_inj hD hB e, h2'] at d2; cases d2
    · rintro ⟨D, hD, d⟩; exact ⟨D, (mem_rem.1 hD).1, d⟩
  · unfold cellX; exact ret.mk (Over.of _ _)

theorem cPages_does (h : CellM C adr n P l bs nc nw X) (c : Int) (hc : c ≤ 9223372036854775807) {m r r2 : HP} {Tt : TypeId} {fr : Nat × Nat} [hs : Sub X m r] [Has 0 r (.cells deBc Tt fr) r2] :
    Does Tryd.prog 34 #[.pointer (some ⟨C.c, 0, none⟩), .int .i64 c] m fun e m' =>
      (c < 1 ∧ ret (.tuple #[.int .i64 0, .int .i64 1]) (X + r) e m') ∨ (1 ≤ c ∧ Nowhere (UL n l) c.toNat ∧ ret (.tuple #[.int .i64 0, .int .i64 3]) (X + r) e m') ∨
      ∃ (a : Nat) (X' : HP), 1 ≤ c ∧ First (UL n l) c.toNat a ∧ CellM C adr n P (insS ⟨a, c.toNat, 0⟩ l) (bs ++ [⟨a, c.toNat, -2, 0#64, none⟩]) nc nw X' ∧ ret (.tuple #[.int .i64 (a : Int), .int .i64 0]) (X' + r) e m' := by
  obtain ⟨lt, XT, es, clock, ho, cap, M, G, rfl⟩ := h
  rw [hs.eq]
  refine F34_fn ?_
  unfold F34 cellX
  refine hIf_false rfl (hNil_some (hLoad_ptr (by rfl) ?_))
  refine hCall_of (salloc_does G.span c 0 hc) ?_
  have hUL : UL n lt = UL n l := by rw [← G.lt, UL_untag]
  rw [hUL]
  rintro e m' (⟨h1, rfl, hov⟩ | ⟨h1, h2, rfl, hov⟩ | ⟨a, XT', h1, hf, hT, rfl, hov⟩)
  · exact ⟨_, hov, _, _, _, _, rfl, hNew_of fun b12 => hStore3_0 (hStore3_1 (hStore3_2 (hLoad_int (by rfl) (.inl ⟨h1, ret.mk (Over.of _ _)⟩))))⟩
  · exact ⟨_, hov, _, _, _, _, rfl, hNew_of fun b12 => hStore3_0 (hStore3_1 (hStore3_2 (hLoad_int (by rfl) (.inr (.inl ⟨h1, h2, ret.mk (Over.of _ _)⟩)))))⟩
  · refine ⟨_, hov, _, _, _, _, rfl, hNew_of fun b12 => hStore3_0 (hStore3_1 (hStore3_2 (hLoad_int (by rfl) (.inr (.inr ⟨a, ?_⟩)))))⟩
    obtain ⟨N, hN⟩ : ∃ N : Blk, N = ⟨a, c.toNat, -2, 0#64, none⟩ := ⟨_, rfl⟩
    have hbk : BOk P N := by
      subst hN
      exact ⟨.inl rfl, by simp only; omega, fun i _ => by unfold Blk.bit; simp, fun p hp => by cases hp⟩
    have hok : COk n P (insS ⟨N.base, N.pages, 0⟩ l) (bs ++ [N]) := G.ok.add (by subst hN; exact hf) hbk (fun D _ p hp _ _ => by subst hN; cases hp)
    have hnew : ∀ D ∈ bs, D.base ≠ a := fun D hD e => by
      have := (G.ok.bok D hD).pos
      exact hf.apart (G.ok.sp hD) (p := a) (Nat.le_refl _) (by omega) ⟨by simp only; omega, by simp only; omega⟩
    refine ⟨cellX C adr P (bs ++ [N]) nc nw XT' es clock ho cap M, h1, hf, ?_, ?_⟩
    · rw [← hN]
      refine ⟨_, XT', es, clock, ho, cap, M, ⟨by rw [show (⟨a, c.toNat, 0⟩ : Sp) = ⟨N.base, N.pages, 0⟩ by rw [hN]]; exact hok, G.nle, G.ple, hT, ?_, ?_, G.ho, fun p c b hp hc => ?_⟩, rfl⟩
      · rw [untag_ins, G.lt]
      · refine MapIs.congr' G.map fun i => ?_
        rw [mapF_add hok]
        subst hN
        simp only [if_true]
        by_cases e : i = (a : Int)
        · rw [if_pos e]; exact mapF_none fun D hD e2 => absurd (hnew D hD) (by simp; omega)
        · rw [if_neg e]
      · rw [G.mat p c b hp hc]
        constructor
        · rintro ⟨B, hB, e⟩; exact ⟨B, by simp [hB], e⟩
        · rintro ⟨B, hB, e1, e2, e3⟩
          rcases List.mem_append.1 hB with hB | hB
          · exact ⟨B, hB, e1, e2, e3⟩
          · rw [List.mem_singleton] at hB; subst hB hN; cases e2
    · unfold cellX
      rw [sumB_append]
      have e : sumB (blkH adr) [N] = 0 := by
        simp only [sumB, HP.add_zero]; unfold blkH; subst hN; rfl
      rw [e, HP.add_zero]
      exact ret.mk (Over.of _ _)

theorem cGive_does (h : CellM C adr n P l bs nc nw X) (base : Int) {m r r2 : HP} {Tt : TypeId} {fr : Nat × Nat} [hs : Sub X m r] [Has 0 r (.cells deBc Tt fr) r2] :
    Does Tryd.prog 35 #[.pointer (some ⟨C.c, 0, none⟩), .int .i64 base] m fun e m' =>
      ((∀ B ∈ bs, B.cls = -2 → (B.base : Int) ≠ base) ∧ ret (.int .i64 4) (X + r) e m') ∨
      ∃ (B : Blk) (X' : HP), B ∈ bs ∧ B.cls = -2 ∧ (B.base : Int) = base ∧ CellM C adr n P (delS B.base l) (rem bs B.base) nc nw X' ∧ ret (.int .i64 0) (X' + r) e m' := by
  obtain ⟨lt, XT, es, clock, ho, cap, M, G, rfl⟩ := h
  rw [hs.eq]
  refine F35_fn ?_
  unfold F35 cellX
  refine hIf_false rfl (hNil_some (hLoad_ptr (by rfl) (hCall_ret (sfind_does G.span _) ⟨_, _, _, _, rfl, ?_⟩)))
  refine hNew_of fun b10 => hStore3_0 (hStore3_1 (hStore3_2 ?_))
  cases hf : findS lt base with
  | none =>
    refine hIf_true rfl (.inl ⟨fun B hB hc e => ?_, ret.mk (Over.of _ _)⟩)
    obtain ⟨s, hs1, e1, e2⟩ := G.span_of hB
    have := (G.ok.bok B hB).pos
    have h2 := findS_eq G.span.lok hs1 (p := s.base) ⟨Nat.le_refl _, by omega⟩
    rw [e1, e, hf] at h2; cases h2
  | some s =>
    obtain ⟨hs1, hs2, hs3⟩ := findS_mem hf
    obtain ⟨B, hB, e1, e2⟩ := G.block_of hs1
    refine hIf_false rfl (hLoad_int (x := (s.base : Int)) (by rfl) (hIf_ne (fun h1 => ?_) (fun h1 => ?_)))
    · refine .inl ⟨fun D hD hc e => h1 ?_, ret.mk (Over.of _ _)⟩
      have hp := (G.ok.bok D hD).pos
      have := G.ok.apart hD hB (p := D.base) ⟨Nat.le_refl _, by omega⟩ ⟨by omega, by omega⟩
      subst this; omega
    subst h1
    refine hNil_some (hLoad_add (hLoad_map (by rfl) (hGet_of G.map ?_)))
    by_cases hc : B.cls = -2
    · rw [← e1, mapF_none fun D hD e => by rw [G.ok.base_inj hD hB (by omega)]; exact hc]
      refine ⟨none, rfl, hIf_false rfl (hNil_some (hLoad_ptr (by rfl) ?_))⟩
      refine hCall_of (sfree_does G.span _) ?_
      rintro e m' (⟨h3, _⟩ | ⟨s', XT', h3, h4, hT, rfl, hov⟩)
      · exact absurd (by omega) (h3 s hs1)
      have hs' : s'.base = B.base := by omega
      refine ⟨_, hov, _, rfl, .inr ⟨B, cellX C adr P (rem bs B.base) nc nw XT' es clock ho cap M, hB, hc, rfl, ⟨_, XT', es, clock, ho, cap, M, ⟨G.ok.rem hB, G.nle, G.ple, hT, ?_, ?_, G.ho, fun p c b hp hc' => ?_⟩, rfl⟩, ?_⟩⟩
      · rw [untag_del, G.lt, hs']
      · refine MapIs.congr' G.map fun i => ?_
        rw [mapF_rem]
        by_cases e : i = (B.base : Int)
        · rw [if_pos e]; exact mapF_none fun D hD e3 => by rw [G.ok.base_inj hD hB (by omega)]; exact hc
        · rw [if_neg e]
      · rw [G.mat p c b hp hc']
        constructor
        · rintro ⟨D, hD, d1, d2, d3⟩
          refine ⟨D, mem_rem.2 ⟨hD, fun e => ?_⟩, d1, d2, d3⟩
          rw [G.ok.base_inj hD hB e] at d3; omega
        · rintro ⟨D, hD, d⟩; exact ⟨D, (mem_rem.1 hD).1, d⟩
      · unfold cellX
        obtain ⟨b1, b2, hbs⟩ := mem_split hB
        have hsum : sumB (blkH adr) bs = sumB (blkH adr) (rem bs B.base) := by
          have hnd := G.ok.nod
          rw [hbs] at hnd ⊢
          rw [sumB_mid, rem_split (nodup_split hnd)]
          conv => lhs; arg 1; unfold blkH
          rw [if_pos hc, HP.zero_add]
        rw [hsum]
        exact ret.mk (Over.of _ _)
    · rw [← e1, mapF_some G.ok hB hc]
      refine ⟨_, rfl, hIf_true rfl (.inl ⟨fun D hD hdc e => ?_, ret.mk (Over.of _ _)⟩)⟩
      rw [G.ok.base_inj hD hB (by omega)] at hdc
      exact hc hdc
end
end Go.Proofs.YtolfcdjbchdkgaaDoor
/- Cells: spare. Own work. -/
namespace Go.Proofs.YtolfcdjbchdkgaaDoor
open Go Go.Hp
set_option maxRecDepth 100000
attribute [local irreducible] hLoad hStore hNew hInt hQuo hRem hShl hShr hIf hNil hIdx hCut hElem hByte hAppend hMake hCall hYield hGet hPut hDel hNewMap hLoop hLet hAll hRange hRec hEq hCmp bitv W Does HYield

/-- Of a class, nobody's, with a free cell. -/
def Elig (c : Nat) (B : Blk) : Prop := B.cls = (c : Int) ∧ B.holder = none ∧ ¬ B.full
/-- The first of them. -/
def IsSpare (bs : List Blk) (c : Nat) (B : Blk) : Prop := B ∈ bs ∧ Elig c B ∧ ∀ D ∈ bs, Elig c D → B.base ≤ D.base

section
variable {C : CL} {adr : Nat → Nat} {n P : Nat} {l : List Sp} {bs : List Blk} {nc nw : Int} {X : HP}
theorem cspare_does (h : CellM C adr n P l bs nc nw X) {c : Nat} (hc16 : c < 16) {m r : HP} [hs : Sub X m r] :
    Does Tryd.prog 70 #[.pointer (some ⟨C.c, 0, none⟩), .int .i64 (c : Int)] m fun e m' =>
      ((∀ D ∈ bs, ¬ Elig c D) ∧ ret (.pointer none) (X + r) e m') ∨ ∃ B, IsSpare bs c B ∧ ret (.pointer (some ⟨adr B.base, 0, none⟩)) (X + r) e m' := by
  obtain ⟨lt, XT, es, clock, ho, cap, M, G, rfl⟩ := h
  rw [hs.eq]
  refine F70_fn (fun ch m' h => by rcases h with ⟨_, h, _⟩ | ⟨_, _, h, _⟩ <;> cases h) ?_
  unfold F70
  refine hNew_of fun b3 => hNew_of fun b4 => hNew_of fun b5 => ?_
  obtain ⟨Y, hY⟩ : ∃ Y, Y = cellX C adr P bs nc nw XT es clock ho cap M := ⟨_, rfl⟩
  haveI hc : Has C.c Y (.cells (headC C P cap nc nw) 99 (0, 0)) (XT + (pt C.mb (.map es clock) + (pt C.hb (.cells ho 100 (0, 0)) + (holdH C adr M P + sumB (blkH adr) bs)))) := ⟨by rw [hY]; rfl⟩
  haveI hx : Hp.Sub XT Y (pt C.c (.cells (headC C P cap nc nw) 99 (0, 0)) + (pt C.mb (.map es clock) + (pt C.hb (.cells ho 100 (0, 0)) + (holdH C adr M P + sumB (blkH adr) bs)))) := ⟨by rw [hY]; unfold cellX; rw [HP.add_left_comm]⟩
  haveI hmb : Has C.mb Y (.map es clock) (pt C.c (.cells (headC C P cap nc nw) 99 (0, 0)) + (XT + (pt C.hb (.cells ho 100 (0, 0)) + (holdH C adr M P + sumB (blkH adr) bs)))) := ⟨by rw [hY]; unfold cellX; ac_rfl⟩
  rw [← hY]
  refine hLoad_ptr (by rfl) (hNil_some (hLoad_ptr (c := headC C P cap nc nw) (by rfl) ?_))
  refine hCall_of (R := fun e m' => ∃ c0, e = .returned (.func (.func 67) #[] #[.pointer (some ⟨c0, 0, none⟩)]) ∧ m' = pt c0 (.cells #[.pointer (some ⟨C.T.t, 0, none⟩)] 23 (0, 0)) + (pt b5 (.cells #[.pointer none] 102 (0, 0)) + (pt b4 (.cells #[.int .i64 (c : Int)] 3 (0, 0)) + (pt b3 (.cells #[.pointer (some ⟨C.c, 0, none⟩)] 55 (0, 0)) + (Y + r)))))
    (F45_fn (by unfold F45; exact hNew_of fun c0 => ⟨c0, rfl, rfl⟩)) ?_
  rintro e m' ⟨c0, rfl, rfl⟩
  refine ⟨_, Over.refl _, _, rfl, ?_⟩
  refine hRange_of fun lp rr rc0 hl => ?_
  obtain ⟨F, hF⟩ : ∃ F : Obj → Value → HP, F = fun lo v => pt lp lo + (pt b5 (.cells #[v] 102 (0, 0)) + (pt b4 (.cells #[.int .i64 (c : Int)] 3 (0, 0)) + (pt b3 (.cells #[.pointer (some ⟨C.c, 0, none⟩)] 55 (0, 0)) + (pt c0 (.cells #[.pointer (some ⟨C.T.t, 0, none⟩)] 23 (0, 0)) + (pt rr (.deferred (some [])) + (Y + r)))))) := ⟨_, rfl⟩
  refine (all67_gen G.span (c0 := c0) (lp := lp) (J := fun q M => M = F (.loop (rcNext rc0)) (.pointer none) ∧ ∀ s ∈ q, ∀ D ∈ bs, D.base = s.base → ¬ Elig c D)
    (D := fun M => ∃ B, IsSpare bs c B ∧ M = F (.loop (rcDone (rcNext rc0) .ret)) (.pointer (some ⟨adr B.base, 0, none⟩))) ?_ ?_ (M := F (.loop (rcNext rc0)) (.pointer none)) ⟨rfl, fun s hs => by simp at hs⟩ ?_).up ?_
  · rintro q M ⟨rfl, _⟩
    rw [hF]
    exact Over.of _ _
  · rintro s hs1 M fr ⟨rfl, hq⟩
    obtain ⟨B, hB, e1, e2⟩ := G.block_of hs1
    have hless : ∀ D ∈ bs, D.base < B.base → ¬ Elig c D := fun D hD hlt => by
      obtain ⟨t, ht, t1, _⟩ := G.span_of hD
      exact hq t (List.mem_filter.2 ⟨ht, by simp only [decide_eq_true_eq]; omega⟩) D hD t1.symm
    obtain ⟨RR, hRR⟩ : ∃ RR : Ending → HP → Prop, RR = fun e m' => (e = .returned (.bool true) ∧ ∃ M', (M' = F (.loop (rcNext rc0)) (.pointer none) ∧ ∀ t ∈ (lt.filter fun t => decide (t.base < s.base)) ++ [s], ∀ D ∈ bs, D.base = t.base → ¬ Elig c D) ∧ Over (M' + fr) m') ∨
      (e = .returned (.bool false) ∧ ∃ M', (∃ B, IsSpare bs c B ∧ M' = F (.loop (rcDone (rcNext rc0) .ret)) (.pointer (some ⟨adr B.base, 0, none⟩))) ∧ Over (M' + fr) m') := ⟨_, rfl⟩
    refine HYield.up (R := RR) ?_ (fun e m' h => ⟨m', Over.refl _, by rw [hRR] at h; exact h⟩)
    have hnext : ∀ m', Over (F (.loop (rcNext rc0)) (.pointer none) + fr) m' → ¬ Elig c B → RR (.returned (.bool true)) m' := by
      intro m' ho hne
      rw [hRR]
      refine .inl ⟨rfl, _, ⟨rfl, fun t ht D hD e => ?_⟩, ho⟩
      rcases List.mem_append.1 ht with ht | ht
      · exact hq t ht D hD e
      · rw [List.mem_singleton] at ht; subst ht
        rw [G.ok.base_inj hD hB (by omega)]; exact hne
    have hdone : ∀ m', Over (F (.loop (rcDone (rcNext rc0) .ret)) (.pointer (some ⟨adr B.base, 0, none⟩)) + fr) m' → Elig c B → RR (.returned (.bool false)) m' := by
      intro m' ho hel
      rw [hRR]
      refine .inr ⟨rfl, _, ⟨B, ⟨hB, hel, fun D hD hdel => ?_⟩, rfl⟩, ho⟩
      rcases Nat.lt_or_ge D.base B.base with h4 | h4
      · exact absurd hdel (hless D hD h4)
      · exact h4
    clear hRR
    refine F70_y0 (a_16 := ⟨b3, 0, none⟩) (a_17 := ⟨b4, 0, none⟩) (a_18 := ⟨b5, 0, none⟩) (rc0 := rc0) (rc := rcNext rc0) hl rfl (m0 := (pt b5 (.cells #[.pointer none] 102 (0, 0)) + (pt b4 (.cells #[.int .i64 (c : Int)] 3 (0, 0)) + (pt b3 (.cells #[.pointer (some ⟨C.c, 0, none⟩)] 55 (0, 0)) + (pt c0 (.cells #[.pointer (some ⟨C.T.t, 0, none⟩)] 23 (0, 0)) + (pt rr (.deferred (some [])) + (Y + r)))))) + fr) (by rw [hF, HP.add_assoc]) ?_
    rw [hF] at hnext hdone ⊢
    dsimp only at hnext hdone ⊢
    unfold F70_r0
    refine hAll_of fun _ => hNew_of fun b22 => hStore3_0 (hStore3_1 (hStore3_2 (hRec_of ?_)))
    refine hLoad_ptr (by rfl) (hNil_some (hLoad_add (hLoad_map (c := headC C P cap nc nw) (by rfl) (hLoad_int (by rfl) (hGet_of G.map ?_)))))
    by_cases hcc : B.cls = -2
    · rw [← e1, mapF_none fun D hD e => by rw [G.ok.base_inj hD hB (by omega)]; exact hcc]
      refine ⟨none, rfl, hIf_false rfl (hRec_of (hnext _ ?_ ?_))⟩
      · rw [show rcNext (rcNext rc0) = rcNext rc0 from rfl]; exact Over.of _ _
      · intro hh; have := hh.1; omega
    · rw [← e1, mapF_some G.ok hB hcc]
      refine ⟨_, rfl, hIf_true rfl (hNil_some ?_)⟩
      obtain ⟨R, hR, _⟩ := blocks_at (adr := adr) hB hcc G.ok
      haveI hbb : Has (adr B.base) Y (blkO B) (pt C.c (.cells (headC C P cap nc nw) 99 (0, 0)) + (XT + (pt C.mb (.map es clock) + (pt C.hb (.cells ho 100 (0, 0)) + (holdH C adr M P + R))))) := ⟨by rw [hY]; unfold cellX; rw [hR]; ac_rfl⟩
      haveI : Has (adr B.base) Y (.cells (blkC B) 107 (0, 0)) (pt C.c (.cells (headC C P cap nc nw) 99 (0, 0)) + (XT + (pt C.mb (.map es clock) + (pt C.hb (.cells ho 100 (0, 0)) + (holdH C adr M P + R))))) := hbb
      refine hLoad_add (hLoad_int (c := blkC B) (x := B.cls) (by rfl) (hLoad_int (by rfl) (hIf_eq (fun h1 => ?_) (fun h1 => ?_))))
      · refine hNil_some (hLoad_add (hLoad_bool (c := blkC B) (x := B.holder.isSome) (by rfl) (hIf_not (hIf_split (fun h2 => ?_) (fun h2 => ?_)))))
        · refine hRec_of (hnext _ ?_ ?_)
          · rw [show rcNext (rcNext rc0) = rcNext rc0 from rfl]; exact Over.of _ _
          · intro hh; rw [hh.2.1] at h2; cases h2
        · refine hCall_ret (cellfull_does (G.ok.bok B hB) (by omega)) ⟨_, rfl, ?_⟩
          refine hIf_not (hIf_split (fun h3 => ?_) (fun h3 => ?_))
          · refine hRec_of (hnext _ ?_ ?_)
            · rw [show rcNext (rcNext rc0) = rcNext rc0 from rfl]; exact Over.of _ _
            · intro hh; exact hh.2.2 (by simpa using h3)
          · refine hStore1_0 (hRec_of (hdone _ ?_ ⟨h1, by simpa using h2, by simpa using h3⟩))
            exact Over.of _ _
      · refine hRec_of (hnext _ ?_ ?_)
        · rw [show rcNext (rcNext rc0) = rcNext rc0 from rfl]; exact Over.of _ _
        · intro hh; exact h1 hh.1
  · rw [hF]
    simp only
    rw [show Obj.loop rc0 = .loop (rcNext rc0) by rw [hl.next]]
    exact Over.of _ _
  · rintro e m3 ⟨hv, (⟨M', ⟨rfl, hq⟩, hov⟩ | ⟨M', ⟨B, hB, rfl⟩, hov⟩)⟩
    · refine ⟨_, hov, hv, rcNext rc0, _, by rw [hF], rfl, ?_⟩
      refine hStore1_0 (gone (hLoad_ptr (by rfl) (.inl ⟨fun D hD hel => ?_, ret.mk (Over.of _ _)⟩)))
      obtain ⟨t, ht, t1, _⟩ := G.span_of hD
      exact hq t ht D hD t1.symm hel
    · refine ⟨_, hov, hv, rcDone (rcNext rc0) .ret, _, by rw [hF], rfl, ?_⟩
      exact gone (hLoad_ptr (by rfl) (.inr ⟨B, hB, ret.mk (Over.of _ _)⟩))
end
end Go.Proofs.YtolfcdjbchdkgaaDoor
/- Cells: take. Own work. -/
namespace Go.Proofs.YtolfcdjbchdkgaaDoor
open Go Go.Hp
set_option maxRecDepth 100000
attribute [local irreducible] hLoad hStore hNew hInt hQuo hRem hShl hShr hIf hNil hIdx hCut hElem hByte hAppend hMake hCall hYield hGet hPut hDel hNewMap hLoop hLet hAll hRange hRec hEq hCmp bitv W Does HYield

/-- What taking a block comes to: the spans and the blocks behind it, and where the block begins. -/
def TakeR (n : Nat) (l : List Sp) (bs : List Blk) (p c : Nat) (l' : List Sp) (bs' : List Blk) (o : Option Nat) : Prop :=
  (∃ B ∈ bs, B.holder = some p ∧ B.cls = (c : Int) ∧ ¬ B.full ∧ l' = l ∧ bs' = bs ∧ o = some B.base) ∨
  ((∀ B ∈ bs, B.holder = some p → B.cls = (c : Int) → B.full) ∧
    ((∃ B, IsSpare (release bs p c) c B ∧ l' = l ∧ bs' = upd (release bs p c) B.base (fun D => { D with holder := some p }) ∧ o = some B.base) ∨
     ((∀ B ∈ release bs p c, ¬ Elig c B) ∧ Nowhere (UL n l) (pagesN c) ∧ l' = l ∧ bs' = release bs p c ∧ o = none) ∨
     ((∀ B ∈ release bs p c, ¬ Elig c B) ∧ ∃ a, First (UL n l) (pagesN c) a ∧ l' = insS ⟨a, pagesN c, 0⟩ l ∧ bs' = release bs p c ++ [⟨a, pagesN c, (c : Int), 0#64, some p⟩] ∧ o = some a)))

theorem blkC_hold (B : Blk) (h : Option Nat) : (blkC B).setIfInBounds 5 (.bool h.isSome) = blkC { B with holder := h } := rfl
theorem blkC_used (B : Blk) (u : BitVec 64) : (blkC B).setIfInBounds 4 (.int .u64 (W u)) = blkC { B with used := u } := rfl
theorem release_none {bs : List Blk} {p : Nat} {c : Int} (h : ∀ B ∈ bs, B.holder = some p → B.cls = c → False) : release bs p c = bs := by
  unfold release
  conv => rhs; rw [← List.map_id bs]
  apply List.map_congr_left
  intro B hB
  rw [if_neg fun e => h B hB e.1 e.2]; rfl
theorem release_one {n P : Nat} {l : List Sp} {bs : List Blk} (hk : COk n P l bs) {p : Nat} {c : Int} {B : Blk} (hB : B ∈ bs) (h1 : B.holder = some p) (h2 : B.cls = c) : release bs p c = upd bs B.base fun D => { D with holder := none } := by
  unfold release upd
  apply List.map_congr_left
  intro D hD
  by_cases e : D.base = B.base
  · obtain rfl := hk.base_inj hD hB e
    rw [if_pos ⟨h1, h2⟩, if_pos rfl]
  · rw [if_neg e, if_neg fun e2 => e (hk.one D hD B hB (by rw [e2.1]; rfl) (by rw [e2.1, h1]) (by rw [e2.2, h2]))]
theorem release_no {bs : List Blk} {p : Nat} {c : Int} : ∀ B ∈ release bs p c, B.holder = some p → B.cls = c → False := by
  intro B hB e1 e2
  obtain ⟨D, hD, rfl⟩ := List.mem_map.1 hB
  split at e1
  · cases e1
  · rename_i hn
    rw [if_neg hn] at e2
    exact hn ⟨e1, e2⟩

section
variable {C : CL} {adr : Nat → Nat} {n P : Nat} {l : List Sp} {bs : List Blk} {nc nw : Int} {X : HP}
theorem CellM.ok (h : CellM C adr n P l bs nc nw X) : COk n P l bs := by obtain ⟨_, _, _, _, _, _, _, G, _⟩ := h; exact G.ok
theorem CellM.nle (h : CellM C adr n P l bs nc nw X) : n ≤ 4096 := by obtain ⟨_, _, _, _, _, _, _, G, _⟩ := h; exact G.nle
theorem CellM.ple (h : CellM C adr n P l bs nc nw X) : P ≤ 8 := by obtain ⟨_, _, _, _, _, _, _, G, _⟩ := h; exact G.ple
theorem mapF_upd {b : Nat} {f : Blk → Blk} (hf : ∀ B, (f B).base = B.base ∧ (f B).cls = B.cls) (k : Int) : mapF adr (upd bs b f) k = mapF adr bs k := by
  unfold mapF upd
  rw [List.find?_map]
  have e : (fun B => decide ((B.base : Int) = k) && decide (B.cls ≠ -2)) ∘ (fun B : Blk => if B.base = b then f B else B) = fun B => decide ((B.base : Int) = k) && decide (B.cls ≠ -2) := by
    funext B
    simp only [Function.comp]
    split
    · rw [(hf B).1, (hf B).2]
    · rfl
  rw [e]
  cases bs.find? fun B => decide ((B.base : Int) = k) && decide (B.cls ≠ -2) with
  | none => rfl
  | some B =>
    simp only [Option.map_some]
    split
    · rw [(hf B).1]
    · rfl

/-- A processor lets go or takes hold: the pieces of memory. -/
theorem hold_parts (h : CellM C adr n P l bs nc nw X) {B : Blk} (hB : B ∈ bs) {p c : Nat} (hp : p < P) (hc : c < 16) (hcls : B.cls = (c : Int)) {x : Option Nat}
    (hx : (x = none ∧ B.holder = some p) ∨ (x = some p ∧ B.holder = none ∧ ∀ D ∈ bs, D.holder = some p → D.cls = (c : Int) → False)) :
    ∃ (cap : Nat) (ho row : Array Value) (Y : HP),
      X = pt C.c (.cells (headC C P cap nc nw) 99 (0, 0)) + (pt C.hb (.cells ho 100 (0, 0)) + (pt (C.hr p) (.cells row 102 (0, 0)) + (pt (adr B.base) (.cells (blkC B) 107 (0, 0)) + Y))) ∧
      ho[p]? = some (.slice (some ⟨C.hr p, 0, none⟩) 16 16) ∧ row.size = 16 ∧
      CellM C adr n P l (upd bs B.base fun D => { D with holder := x }) nc nw
        (pt C.c (.cells (headC C P cap nc nw) 99 (0, 0)) + (pt C.hb (.cells ho 100 (0, 0)) + (pt (C.hr p) (.cells (row.setIfInBounds c (.pointer (x.map fun _ => ⟨adr B.base, 0, none⟩))) 102 (0, 0)) + (pt (adr B.base) (.cells ((blkC B).setIfInBounds 5 (.bool x.isSome)) 107 (0, 0)) + Y)))) := by
  obtain ⟨lt, XT, es, clock, ho, cap, M, G, rfl⟩ := h
  have hc2 : B.cls ≠ -2 := by omega
  obtain ⟨R, hR, hR2⟩ := blocks_at (adr := adr) hB hc2 G.ok
  obtain ⟨S, hS, hS2⟩ := hold_at (C := C) (adr := adr) (M := M) hp
  obtain ⟨M', hM'⟩ : ∃ M' : Nat → Nat → Option Nat, M' = fun q d => if q = p then (if d = c then x.map (fun _ => B.base) else M p d) else M q d := ⟨_, rfl⟩
  have hMp : M' p = fun d => if d = c then x.map (fun _ => B.base) else M p d := by subst hM'; funext d; show (if p = p then _ else _) = _; rw [if_pos rfl]
  have hMq : ∀ q, q ≠ p → M' q = M q := fun q hq => by subst hM'; funext d; simp only; rw [if_neg hq]
  refine ⟨cap, ho, hrow adr (M p), XT + (pt C.mb (.map es clock) + (S + R)), ?_, G.ho p hp, hrow_size, lt, XT, es, clock, ho, cap, M', ⟨?_, G.nle, G.ple, G.span, G.lt, ?_, G.ho, fun q d b hq hd => ?_⟩, ?_⟩
  · unfold cellX; rw [hR, hS]; unfold blkO; ac_rfl
  · rcases hx with ⟨rfl, h1⟩ | ⟨rfl, h1, h2⟩
    · have := G.ok.release p c
      rw [release_one G.ok hB h1 hcls] at this; exact this
    · exact G.ok.hold hB hp (by omega) fun D hD e1 e2 => (h2 D hD e1 (by rw [e2, hcls])).elim
  · exact MapIs.congr' G.map fun i => (mapF_upd (f := fun D => { D with holder := x }) (fun D => ⟨rfl, rfl⟩) i).symm
  · by_cases eq : q = p ∧ d = c
    · obtain ⟨rfl, rfl⟩ := eq
      rw [hMp]
      simp only [if_true]
      rcases hx with ⟨rfl, h1⟩ | ⟨rfl, h1, h2⟩
      · simp only [Option.map_none, reduceCtorEq, false_iff]
        rintro ⟨D, hD, e1, e2, e3⟩
        rw [← release_one G.ok hB h1 hcls] at hD
        exact release_no D hD e2 e3
      · simp only [Option.map_some, Option.some.injEq]
        constructor
        · intro e
          exact ⟨_, List.mem_map.2 ⟨B, hB, rfl⟩, by rw [if_pos rfl]; exact e, by rw [if_pos rfl], by rw [if_pos rfl]; exact hcls⟩
        · rintro ⟨D, hD, e1, e2, e3⟩
          obtain ⟨D', hD', rfl⟩ := List.mem_map.1 hD
          by_cases e4 : D'.base = B.base
          · rw [if_pos e4] at e1; rw [← e1]; exact e4.symm
          · rw [if_neg e4] at e2 e3
            exact (h2 D' hD' e2 e3).elim
    · have e0 : M' q d = M q d := by
        subst hM'
        simp only
        by_cases e1 : q = p
        · rw [if_pos e1, if_neg fun e2 => eq ⟨e1, e2⟩, e1]
        · rw [if_neg e1]
      rw [e0, G.mat q d b hq hd]
      constructor
      · rintro ⟨D, hD, e1, e2, e3⟩
        have hne : D.base ≠ B.base := fun e4 => by
          obtain rfl := G.ok.base_inj hD hB e4
          rcases hx with ⟨rfl, h1⟩ | ⟨rfl, h1, h2⟩
          · rw [h1] at e2; simp only [Option.some.injEq] at e2
            exact eq ⟨e2.symm, by omega⟩
          · rw [h1] at e2; cases e2
        exact ⟨_, List.mem_map.2 ⟨D, hD, rfl⟩, by rw [if_neg hne]; exact e1, by rw [if_neg hne]; exact e2, by rw [if_neg hne]; exact e3⟩
      · rintro ⟨D, hD, e1, e2, e3⟩
        obtain ⟨D', hD', rfl⟩ := List.mem_map.1 hD
        by_cases e4 : D'.base = B.base
        · rw [if_pos e4] at e2 e3
          obtain rfl := G.ok.base_inj hD' hB e4
          simp only at e2 e3
          rcases hx with ⟨rfl, h1⟩ | ⟨rfl, h1, h2⟩
          · cases e2
          · simp only [Option.some.injEq] at e2
            exact (eq ⟨e2.symm, by omega⟩).elim
        · rw [if_neg e4] at e1 e2 e3
          exact ⟨D', hD', e1, e2, e3⟩
  · unfold cellX
    have e1 : (hrow adr (M p)).setIfInBounds c (.pointer (x.map fun _ => ⟨adr B.base, 0, none⟩)) = hrow adr (M' p) := by
      rw [hMp, ← hrow_set hc]
      congr 2
      cases x <;> rfl
    rw [e1, blkC_hold, hR2 _ rfl rfl, hS2 M' hMq]
    unfold blkO; ac_rfl

theorem j12_does (h : CellM C adr n P l bs nc nw X) {B : Blk} (hB : B ∈ bs) {p c : Nat} (hp : p < P) (hc : c < 16) (hcls : B.cls = (c : Int)) (hh : B.holder = none) (hno : ∀ D ∈ bs, D.holder = some p → D.cls = (c : Int) → False)
    {r g : HP} {R : Ending → HP → Prop} (hR : ∀ X' m', CellM C adr n P l (upd bs B.base fun D => { D with holder := some p }) nc nw X' → Over (X' + r) m' → R (.returned (.tuple #[.pointer (some ⟨adr B.base, 0, none⟩), .int .i64 0])) m') :
    F50_j12 (some ⟨C.c, 0, none⟩) (p : Int) (c : Int) (some ⟨adr B.base, 0, none⟩) R (X + r + g) := by
  obtain ⟨cap, ho, row, Y, rfl, h1, h2, hM⟩ := hold_parts h hB hp hc hcls (x := some p) (.inr ⟨rfl, hh, hno⟩)
  have e1 : 0 + (p : Int).toNat * 1 = p := by omega
  have e2 : 0 + (c : Int).toNat * 1 = c := by omega
  unfold F50_j12
  refine hNil_some (hLoad_add (hLoad_slice (c := headC C P cap nc nw) (by rfl) ?_))
  dsimp only
  refine hIdx_of (by omega) (by omega) (hLoad_slice (by rw [e1]; exact h1) ?_)
  dsimp only
  refine hNil_some (hStore_add (hStore_at (by simp [blkC]) (hIdx_of (by omega) (by omega) (hStore_at (by rw [e2, h2]; exact hc) ?_))))
  rw [e2]
  exact hR _ _ hM (by simp only [Option.map_some, Option.isSome_some, Nat.zero_add]; exact Over.of _ _)

theorem j6_does (h : CellM C adr n P l bs nc nw X) {p c : Nat} (hp : p < P) (hc : c < 16) (hno : ∀ D ∈ bs, D.holder = some p → D.cls = (c : Int) → False)
    {r r2 g : HP} {Tt : TypeId} {fr : Nat × Nat} [Has 0 r (.cells deBc Tt fr) r2] {R : Ending → HP → Prop}
    (hR1 : ∀ B X' m', IsSpare bs c B → CellM C adr n P l (upd bs B.base fun D => { D with holder := some p }) nc nw X' → Over (X' + r) m' → R (.returned (.tuple #[.pointer (some ⟨adr B.base, 0, none⟩), .int .i64 0])) m')
    (hR2 : ∀ m', (∀ D ∈ bs, ¬ Elig c D) → Nowhere (UL n l) (pagesN c) → Over (X + r) m' → R (.returned (.tuple #[.pointer none, .int .i64 3])) m')
    (hR3 : ∀ a adr' X' m', (∀ D ∈ bs, ¬ Elig c D) → First (UL n l) (pagesN c) a → CellM C adr' n P (insS ⟨a, pagesN c, 0⟩ l) (bs ++ [⟨a, pagesN c, (c : Int), 0#64, some p⟩]) nc nw X' → Over (X' + r) m' →
      R (.returned (.tuple #[.pointer (some ⟨adr' a, 0, none⟩), .int .i64 0])) m') :
    F50_j6 (some ⟨C.c, 0, none⟩) (p : Int) (c : Int) R (X + r + g) := by
  have hw := words_facts hc
  unfold F50_j6
  refine hLet_of (fun s m' => ∃ (o : Option Addr), s = (o, ()) ∧ ((∃ B, IsSpare bs c B ∧ o = some ⟨adr B.base, 0, none⟩ ∧ Over (X + r) m') ∨
    ∃ a adr' X', (∀ D ∈ bs, ¬ Elig c D) ∧ First (UL n l) (pagesN c) a ∧ CellM C adr' n P (insS ⟨a, pagesN c, 0⟩ l) (bs ++ [⟨a, pagesN c, (c : Int), 0#64, none⟩]) nc nw X' ∧ o = some ⟨adr' a, 0, none⟩ ∧ Over (X' + r) m')) ?_ ?_
  · refine hCall_of (cspare_does h hc) ?_
    rintro e m' (⟨hne, rfl, ho⟩ | ⟨B, hB, rfl, ho⟩)
    · refine ⟨_, ho, _, rfl, hIf_true rfl (hCall_ret (cpages_does hc) ⟨_, rfl, ?_⟩)⟩
      refine hCall_of (cblock_does h (pages := pagesN c) (of := (c : Int)) (by omega) (by omega) (.inr ⟨by omega, by omega, by simp⟩)) ?_
      rintro e m2 (⟨h1, rfl, ho2⟩ | ⟨a, adr', X', h1, hM, _, rfl, ho2⟩)
      · exact ⟨_, ho2, _, _, rfl, hIf_true rfl (hR2 _ hne h1 (Over.of _ _))⟩
      · exact ⟨_, ho2, _, _, rfl, hIf_false rfl ⟨_, rfl, .inr ⟨a, adr', X', hne, h1, hM, rfl, Over.of _ _⟩⟩⟩
    · exact ⟨_, ho, _, rfl, hIf_false rfl ⟨_, rfl, .inl ⟨B, hB, rfl, Over.of _ _⟩⟩⟩
  · rintro s m' ⟨o, rfl, (⟨B, hB, rfl, g2, rfl⟩ | ⟨a, adr', X', hne, hf, hM, rfl, g2, rfl⟩)⟩
    · refine hAll_of fun _ => ?_
      dsimp only
      exact j12_does h hB.1 hp hc hB.2.1.1 hB.2.1.2.1 hno fun X' m' h1 h2 => hR1 B X' m' hB h1 h2
    · refine hAll_of fun _ => ?_
      dsimp only
      obtain ⟨N, hN⟩ : ∃ N : Blk, N = ⟨a, pagesN c, (c : Int), 0#64, none⟩ := ⟨_, rfl⟩
      have ea : a = N.base := by rw [hN]
      rw [← hN] at hM
      rw [ea]
      have hupd : upd (bs ++ [N]) N.base (fun D => { D with holder := some p }) = bs ++ [⟨a, pagesN c, (c : Int), 0#64, some p⟩] := by
        have := upd_split (b1 := bs) (b2 := []) (B := N) (f := fun D => { D with holder := some p }) (nodup_split hM.ok.nod)
        rw [this, hN]
      refine j12_does hM (B := N) (by simp) hp hc (by rw [hN]) (by rw [hN]) (fun D hD e1 e2 => ?_) fun X' m' h1 h2 => ?_
      · rcases List.mem_append.1 hD with hD | hD
        · exact hno D hD e1 e2
        · rw [List.mem_singleton] at hD; subst hD; rw [hN] at e1; cases e1
      · rw [hupd] at h1
        rw [← ea]
        exact hR3 a adr' X' m' hne hf h1 h2

theorem j6_same (c p o : Int) (a : Option Addr) (R : Ending → HP → Prop) : F50_j6_2 a p o R = F50_j6 a p o R := rfl

theorem ctake_does (h : CellM C adr n P l bs nc nw X) {p c : Nat} (hp : p < P) (hc : c < 16) {m r r2 : HP} {Tt : TypeId} {fr : Nat × Nat} [hs : Sub X m r] [Has 0 r (.cells deBc Tt fr) r2] :
    Does Tryd.prog 50 #[.pointer (some ⟨C.c, 0, none⟩), .int .i64 (p : Int), .int .i64 (c : Int)] m fun e m' =>
      ∃ l' bs' o adr' X', TakeR n l bs p c l' bs' o ∧ CellM C adr' n P l' bs' nc nw X' ∧
        ret (.tuple #[.pointer (o.map fun b => ⟨adr' b, 0, none⟩), .int .i64 (if o.isSome then 0 else 3)]) (X' + r) e m' := by
  obtain ⟨lt, XT, es, clock, ho, cap, M, G, hX⟩ := id h
  have e1 : 0 + (p : Int).toNat * 1 = p := by omega
  have e2 : 0 + (c : Int).toNat * 1 = c := by omega
  rw [hs.eq]
  refine F50_fn ?_
  unfold F50
  obtain ⟨S, hS, _⟩ := hold_at (C := C) (adr := adr) (M := M) hp
  haveI i1 : Has C.c X (.cells (headC C P cap nc nw) 99 (0, 0)) (XT + (pt C.mb (.map es clock) + (pt C.hb (.cells ho 100 (0, 0)) + (holdH C adr M P + sumB (blkH adr) bs)))) := ⟨hX⟩
  haveI i2 : Has C.hb X (.cells ho 100 (0, 0)) (pt C.c (.cells (headC C P cap nc nw) 99 (0, 0)) + (XT + (pt C.mb (.map es clock) + (holdH C adr M P + sumB (blkH adr) bs)))) := ⟨by rw [hX]; unfold cellX; ac_rfl⟩
  haveI i3 : Has (C.hr p) X (.cells (hrow adr (M p)) 102 (0, 0)) (pt C.c (.cells (headC C P cap nc nw) 99 (0, 0)) + (XT + (pt C.mb (.map es clock) + (pt C.hb (.cells ho 100 (0, 0)) + (S + sumB (blkH adr) bs))))) := ⟨by rw [hX]; unfold cellX; rw [hS]; ac_rfl⟩
  refine hNil_some (hLoad_add (hLoad_slice (c := headC C P cap nc nw) (by rfl) ?_))
  dsimp only
  refine hIdx_of (by omega) (by omega) (hLoad_slice (by rw [e1]; exact G.ho p hp) ?_)
  dsimp only
  refine hIdx_of (by omega) (by omega) (hLoad_ptr (by rw [e2]; exact hrow_get hc) ?_)
  cases hm : M p c with
  | none =>
    have hno : ∀ D ∈ bs, D.holder = some p → D.cls = (c : Int) → False := fun D hD d1 d2 => by
      have := (G.mat p c D.base hp hc).2 ⟨D, hD, rfl, d1, d2⟩
      rw [hm] at this; cases this
    have hrel := release_none hno
    refine hIf_false rfl (hLet_of (fun s m' => m' = X + r) (hIf_false rfl rfl) ?_)
    rintro s m' rfl
    refine hAll_of fun _ => ?_
    rw [j6_same 0, ← HP.add_zero (X + r)]
    refine j6_does h hp hc hno (fun B X' m' h1 h2 h3 => ?_) (fun m' h1 h2 h3 => ?_) (fun a adr' X' m' h1 h2 h3 h4 => ?_)
    · exact ⟨_, _, _, adr, X', .inr ⟨fun D hD d1 d2 => (hno D hD d1 d2).elim, .inl ⟨B, by rw [hrel]; exact h1, rfl, by rw [hrel], rfl⟩⟩, h2, ret.mk h3⟩
    · exact ⟨l, _, none, adr, X, .inr ⟨fun D hD d1 d2 => (hno D hD d1 d2).elim, .inr (.inl ⟨by rw [hrel]; exact h1, h2, rfl, rfl, rfl⟩)⟩, by rw [hrel]; exact h, ret.mk h3⟩
    · exact ⟨_, _, some a, adr', X', .inr ⟨fun D hD d1 d2 => (hno D hD d1 d2).elim, .inr (.inr ⟨by rw [hrel]; exact h1, a, h2, rfl, rfl, rfl⟩)⟩, by rw [hrel]; exact h3, ret.mk h4⟩
  | some b =>
    obtain ⟨B, hB, rfl, hh, hcls⟩ := (G.mat p c b hp hc).1 hm
    have hc2 : B.cls ≠ -2 := by omega
    obtain ⟨Rb, hRb, _⟩ := blocks_at (adr := adr) hB hc2 G.ok
    haveI i4 : Has (adr B.base) X (blkO B) (pt C.c (.cells (headC C P cap nc nw) 99 (0, 0)) + (XT + (pt C.mb (.map es clock) + (pt C.hb (.cells ho 100 (0, 0)) + (holdH C adr M P + Rb))))) := ⟨by rw [hX]; unfold cellX; rw [hRb]; ac_rfl⟩
    refine hIf_true rfl (hCall_ret (cellfull_does (G.ok.bok B hB) (by omega)) ⟨_, rfl, hIf_not (hIf_split (fun h1 => ?_) (fun h1 => ?_))⟩)
    · have hfull : B.full := by simpa using h1
      have hall : ∀ D ∈ bs, D.holder = some p → D.cls = (c : Int) → D.full := fun D hD d1 d2 => by
        rw [G.ok.base_inj hD hB (G.ok.one D hD B hB (by rw [d1]; rfl) (by rw [d1, hh]) (by rw [d2, hcls]))]; exact hfull
      have hrel := release_one G.ok hB hh hcls
      refine hLet_of (fun s m' => ∃ X1, CellM C adr n P l (release bs p c) nc nw X1 ∧ Over (X1 + r) m') ?_ ?_
      · refine hIf_true rfl ?_
        obtain ⟨cap', ho', row, Y, hXY, h2, h3, hM⟩ := hold_parts h hB hp hc hcls (x := none) (.inl ⟨rfl, hh⟩)
        rw [← hrel] at hM
        clear i1 i2 i3 i4
        rw [hXY]
        refine hNil_some (hLoad_add (hLoad_slice (c := headC C P cap' nc nw) (by rfl) ?_))
        dsimp only
        refine hIdx_of (by omega) (by omega) (hLoad_slice (by rw [e1]; exact h2) ?_)
        dsimp only
        refine hNil_some (hStore_add (hStore_at (by simp [blkC]) (hIdx_of (by omega) (by omega) (hStore_at (by rw [e2, h3]; exact hc) ?_))))
        rw [e2]
        exact ⟨_, hM, by simp only [Option.map_none, Option.isSome_none, Nat.zero_add]; exact Over.of _ _⟩
      · rintro s m' ⟨X1, hM, g, rfl⟩
        refine hAll_of fun _ => ?_
        refine j6_does hM hp hc release_no (fun B X' m' h1 h2 h3 => ?_) (fun m' h1 h2 h3 => ?_) (fun a adr' X' m' h1 h2 h3 h4 => ?_)
        · exact ⟨_, _, _, adr, X', .inr ⟨hall, .inl ⟨B, h1, rfl, rfl, rfl⟩⟩, h2, ret.mk h3⟩
        · exact ⟨l, _, none, adr, X1, .inr ⟨hall, .inr (.inl ⟨h1, h2, rfl, rfl, rfl⟩)⟩, hM, ret.mk h3⟩
        · exact ⟨_, _, some a, adr', X', .inr ⟨hall, .inr (.inr ⟨h1, a, h2, rfl, rfl, rfl⟩)⟩, h3, ret.mk h4⟩
    · exact ⟨l, bs, some B.base, adr, X, .inl ⟨B, hB, hh, hcls, by simpa using h1, rfl, rfl, rfl⟩, h, ret.mk (Over.of _ _)⟩
end
end Go.Proofs.YtolfcdjbchdkgaaDoor
/- Cells: counters; what Alloc, Free, Flush come to (no program). Own work. -/
namespace Go.Proofs.YtolfcdjbchdkgaaDoor
open Go Go.Hp
set_option maxRecDepth 100000

def cellsT (bs : List Blk) : Nat := (bs.map fun B => cntT B.bit 64).sum
def wordsT (bs : List Blk) : Nat := (bs.map fun B => cntT B.bit 64 * B.words).sum
def Live (bs : List Blk) : Prop := ∀ B ∈ bs, B.live
def setb (u : BitVec 64) (k : Nat) : BitVec 64 := u ||| (1#64 <<< k)
def clrb (u : BitVec 64) (k : Nat) : BitVec 64 := u &&& ~~~(1#64 <<< k)
theorem setb_get {u : BitVec 64} {k i : Nat} (hk : k < 64) : (setb u k).getLsbD i = if i = k then true else u.getLsbD i := by
  unfold setb
  rw [BitVec.getLsbD_or, show 1#64 <<< k = BitVec.twoPow 64 k from rfl, BitVec.getLsbD_twoPow]
  by_cases e : i = k
  · subst e; simp [hk]
  · rw [if_neg e]; simp [Ne.symm e]
theorem clrb_get {u : BitVec 64} {k i : Nat} (hk : k < 64) : (clrb u k).getLsbD i = if i = k then false else u.getLsbD i := by
  unfold clrb
  rw [BitVec.getLsbD_and, BitVec.getLsbD_not, show 1#64 <<< k = BitVec.twoPow 64 k from rfl, BitVec.getLsbD_twoPow]
  by_cases e : i = k
  · subst e; simp [hk]
  · rw [if_neg e]
    by_cases h64 : i < 64
    · simp [Ne.symm e, h64]
    · simp [h64]; exact (BitVec.getLsbD_of_ge _ _ (by omega))

/-- The first cell that is free. -/
def IsFree (B : Blk) (k : Nat) : Prop := k < B.cells ∧ B.bit k = false ∧ ∀ i, i < k → B.bit i = true
theorem IsFree.uniq {B : Blk} {k j : Nat} (h1 : IsFree B k) (h2 : IsFree B j) : k = j := by
  rcases Nat.lt_trichotomy k j with h | h | h
  · have := h2.2.2 k h; rw [h1.2.1] at this; cases this
  · exact h
  · have := h1.2.2 j h; rw [h2.2.1] at this; cases this
theorem isFree_tz {P : Nat} {B : Blk} (hB : BOk P B) (hf : ¬ B.full) : IsFree B (tz (~~~B.used)) := by
  have hle := Blk.cells_le hB
  have hex : ∃ i, i < B.cells ∧ B.bit i = false := by
    apply Classical.byContradiction
    intro h
    exact hf fun i hi => by
      cases e : B.bit i with
      | true => rfl
      | false => exact absurd ⟨i, hi, e⟩ h
  obtain ⟨i, hi, hbi⟩ := hex
  have h1 : (~~~B.used).getLsbD i = true := by
    rw [BitVec.getLsbD_not, show B.used.getLsbD i = false from hbi]; simp; omega
  have hti : tz (~~~B.used) ≤ i := by
    rcases Nat.lt_or_ge i (tz (~~~B.used)) with h2 | h2
    · rw [tz_low h2] at h1; cases h1
    · exact h2
  refine ⟨by omega, ?_, fun j hj => ?_⟩
  · have := tz_bit (x := ~~~B.used) (by omega)
    rw [BitVec.getLsbD_not] at this
    simp only [Bool.and_eq_true, Bool.not_eq_true'] at this
    exact this.2
  · have := tz_low hj
    rw [BitVec.getLsbD_not] at this
    have h64 : j < 64 := by omega
    simp [h64] at this
    exact this

section
variable {n P : Nat} {l : List Sp} {bs : List Blk}
theorem sum_upd (hk : COk n P l bs) {B : Blk} (hB : B ∈ bs) {f : Blk → Blk} (g : Blk → Nat) : ((upd bs B.base f).map g).sum + g B = (bs.map g).sum + g (f B) := by
  obtain ⟨b1, b2, rfl⟩ := mem_split hB
  rw [upd_split (nodup_split hk.nod)]
  simp only [List.map_append, List.map_cons, List.sum_append, List.sum_cons]
  omega
theorem sum_rem (hk : COk n P l bs) {B : Blk} (hB : B ∈ bs) (g : Blk → Nat) : ((rem bs B.base).map g).sum + g B = (bs.map g).sum := by
  obtain ⟨b1, b2, rfl⟩ := mem_split hB
  rw [rem_split (nodup_split hk.nod)]
  simp only [List.map_append, List.map_cons, List.sum_append, List.sum_cons]
  omega
theorem sum_map_same {g : Blk → Blk} {f : Blk → Nat} (h : ∀ B ∈ bs, f (g B) = f B) : ((bs.map g).map f).sum = (bs.map f).sum := by
  rw [List.map_map]
  congr 1
  apply List.map_congr_left
  intro B hB; exact h B hB
theorem setb_cells {B : Blk} (hB : BOk P B) {k : Nat} (hk : IsFree B k) : cntT (setb B.used k).getLsbD 64 = cntT B.bit 64 + 1 := by
  have := Blk.cells_le hB
  have h64 : k < 64 := by have := hk.1; omega
  exact cntT_set h64 hk.2.1 (by rw [setb_get h64, if_pos rfl]) (fun i hi => by rw [setb_get h64, if_neg hi]; rfl)
theorem clrb_cells {B : Blk} (hB : BOk P B) {k : Nat} (hk : B.bit k = true) : cntT (clrb B.used k).getLsbD 64 + 1 = cntT B.bit 64 := by
  have := Blk.cells_le hB
  have h64 : k < 64 := by have := hB.bit_lt hk; omega
  exact (cntT_set h64 (by rw [clrb_get h64, if_pos rfl]) hk (fun i hi => by rw [clrb_get h64, if_neg hi]; rfl)).symm
theorem setb_low {B : Blk} (hB : BOk P B) {k : Nat} (hk : k < B.cells) : ∀ i, B.cells ≤ i → (setb B.used k).getLsbD i = false := by
  have := Blk.cells_le hB
  intro i hi
  rw [setb_get (by omega), if_neg (by omega)]; exact hB.low i hi
theorem clrb_low {B : Blk} (hB : BOk P B) {k : Nat} (hk : k < B.cells) : ∀ i, B.cells ≤ i → (clrb B.used k).getLsbD i = false := by
  have := Blk.cells_le hB
  intro i hi
  rw [clrb_get (by omega), if_neg (by omega)]; exact hB.low i hi
theorem setb_ne {u : BitVec 64} {k : Nat} (hk : k < 64) : setb u k ≠ 0#64 := fun e => by
  have := setb_get (u := u) (i := k) hk
  rw [e] at this; simp at this

theorem nodup_len : ∀ (n : Nat) (l : List Nat), l.Nodup → (∀ x ∈ l, x < n) → l.length ≤ n
  | 0, l, _, h => by
    cases l with
    | nil => simp
    | cons x l => have := h x (by simp); omega
  | n + 1, l, hn, h => by
    have ih := nodup_len n (l.erase n) (hn.erase n) (fun x hx => by
      rw [hn.mem_erase_iff] at hx
      have := h x hx.2; omega)
    by_cases e : n ∈ l
    · rw [List.length_erase_of_mem e] at ih; omega
    · rw [List.erase_of_not_mem e] at ih; omega
theorem COk.len (hk : COk n P l bs) : bs.length ≤ n := by
  have := nodup_len n (bs.map Blk.base) hk.nod (fun x hx => by
    obtain ⟨B, hB, rfl⟩ := List.mem_map.1 hx
    have := hk.pages_le hB; have := (hk.bok B hB).pos; omega)
  simpa using this
theorem sum_le {f : Blk → Nat} {c : Nat} : ∀ {bs : List Blk}, (∀ B ∈ bs, f B ≤ c) → (bs.map f).sum ≤ bs.length * c
  | [], _ => by simp
  | B :: bs, h => by
    simp only [List.map_cons, List.sum_cons, List.length_cons, Nat.add_mul]
    have := sum_le (f := f) (c := c) (bs := bs) fun D hD => h D (by simp [hD])
    have := h B (by simp)
    omega
theorem COk.counts (hk : COk n P l bs) (hn : n ≤ 4096) : cellsT bs ≤ 262144 ∧ wordsT bs ≤ 1073741824 := by
  have hl := hk.len
  constructor
  · have := sum_le (f := fun B => cntT B.bit 64) (c := 64) (bs := bs) fun B _ => cntT_le _ _
    unfold cellsT
    have := Nat.mul_le_mul_right 64 (show bs.length ≤ 4096 by omega)
    omega
  · have := sum_le (f := fun B => cntT B.bit 64 * B.words) (c := 262144) (bs := bs) fun B hB => by
      have hb := hk.bok B hB
      have h1 : cntT B.bit 64 = cntT B.bit B.cells := cntT_more (Blk.cells_le hb) hb.low
      have h2 := cntT_le B.bit B.cells
      have h3 := Blk.room hb
      have h4 := hk.pages_le hB
      have h5 := Nat.mul_le_mul_right B.words h2

      rw [h1]; omega
    unfold wordsT
    have := Nat.mul_le_mul_right 262144 (show bs.length ≤ 4096 by omega)
    omega

theorem sorted_uniq : ∀ {l l' : List Sp}, l.Pairwise (fun s t => s.base < t.base) → l'.Pairwise (fun s t => s.base < t.base) → (∀ s, s ∈ l ↔ s ∈ l') → l = l'
  | [], [], _, _, _ => rfl
  | [], t :: l', _, _, h => by have := (h t).2 (by simp); simp at this
  | s :: l, [], _, _, h => by have := (h s).1 (by simp); simp at this
  | s :: l, t :: l', h1, h2, h => by
    have p1 := List.pairwise_cons.1 h1
    have p2 := List.pairwise_cons.1 h2
    have e : s = t := by
      rcases List.mem_cons.1 ((h s).1 (by simp)) with e | e
      · exact e
      · rcases List.mem_cons.1 ((h t).2 (by simp)) with e2 | e2
        · exact e2.symm
        · have := p2.1 s e; have := p1.1 t e2; omega
    subst e
    congr 1
    refine sorted_uniq p1.2 p2.2 fun u => ?_
    constructor
    · intro hu
      rcases List.mem_cons.1 ((h u).1 (by simp [hu])) with e | e
      · subst e; have := p1.1 u hu; omega
      · exact e
    · intro hu
      rcases List.mem_cons.1 ((h u).2 (by simp [hu])) with e | e
      · subst e; have := p2.1 u hu; omega
      · exact e
theorem COk.l_uniq {l' : List Sp} (h : COk n P l bs) (h' : COk n P l' bs) : l = l' := by
  have so : ∀ {l : List Sp}, COk n P l bs → l.Pairwise fun s t => s.base < t.base := fun {l} h =>
    List.Pairwise.imp_of_mem (fun {a b} ha hb hab => by have := (h.lok.pos a ha).1; omega) h.lok.sorted
  have me : ∀ {l : List Sp}, COk n P l bs → ∀ s, s ∈ l ↔ ∃ B ∈ bs, s = ⟨B.base, B.pages, 0⟩ := fun {l} h s => by
    constructor
    · intro hs
      obtain ⟨B, hB, e⟩ := h.cov s hs
      refine ⟨B, hB, ?_⟩
      have h1 := (h.lok.pos s hs).1
      have h2 := (h.bok B hB).pos
      exact h.lok.apart hs (h.sp hB) (p := s.base) ⟨Nat.le_refl _, by omega⟩ ⟨by simp only; omega, by simp only; omega⟩
    · rintro ⟨B, hB, rfl⟩; exact h.sp hB
  exact sorted_uniq (so h) (so h') fun s => by rw [me h, me h']

/-! ### Take -/
theorem TakeR.block {p c : Nat} (hc : c < 16) {l' : List Sp} {bs' : List Blk} {b : Nat} (h : TakeR n l bs p c l' bs' (some b)) : ∃ B ∈ bs', B.base = b ∧ B.cls = (c : Int) ∧ B.holder = some p ∧ ¬ B.full := by
  rcases h with ⟨B, hB, h1, h2, h3, _, rfl, h4⟩ | ⟨_, ⟨B, hB, _, rfl, h4⟩ | ⟨_, _, _, _, h4⟩ | ⟨_, a, _, _, rfl, h4⟩⟩
  · simp only [Option.some.injEq] at h4; subst h4
    exact ⟨B, hB, rfl, h2, h1, h3⟩
  · simp only [Option.some.injEq] at h4; subst h4
    exact ⟨_, List.mem_map.2 ⟨B, hB.1, rfl⟩, by rw [if_pos rfl], by rw [if_pos rfl]; exact hB.2.1.1, by rw [if_pos rfl], by rw [if_pos rfl]; exact hB.2.1.2.2⟩
  · cases h4
  · simp only [Option.some.injEq] at h4; subst h4
    refine ⟨_, List.mem_append.2 (.inr (List.mem_singleton.2 rfl)), rfl, rfl, rfl, fun hf => ?_⟩
    have hw := words_facts hc
    have := hf 0 (by unfold Blk.cells; simp only; rw [if_neg (by omega), if_neg (by omega)]; simp only [Int.toNat_natCast]; omega)
    unfold Blk.bit at this; simp at this
theorem release_sum {p : Nat} {c : Int} {f : Blk → Nat} (hf : ∀ B h, f { B with holder := h } = f B) : ((release bs p c).map f).sum = (bs.map f).sum := by
  unfold release
  refine sum_map_same fun B _ => ?_
  split
  · exact hf B none
  · rfl
theorem upd_sum {b : Nat} {h : Option Nat} {f : Blk → Nat} (hf : ∀ B h, f { B with holder := h } = f B) : ((upd bs b fun D => { D with holder := h }).map f).sum = (bs.map f).sum := by
  unfold upd
  refine sum_map_same fun B _ => ?_
  split
  · exact hf B h
  · rfl
theorem TakeR.sums {p c : Nat} {l' : List Sp} {bs' : List Blk} {o : Option Nat} (h : TakeR n l bs p c l' bs' o) : cellsT bs' = cellsT bs ∧ wordsT bs' = wordsT bs := by
  unfold cellsT wordsT
  have e1 : ∀ (B : Blk) (h : Option Nat), (fun B : Blk => cntT B.bit 64) { B with holder := h } = (fun B : Blk => cntT B.bit 64) B := fun _ _ => rfl
  have e2 : ∀ (B : Blk) (h : Option Nat), (fun B : Blk => cntT B.bit 64 * B.words) { B with holder := h } = (fun B : Blk => cntT B.bit 64 * B.words) B := fun _ _ => rfl
  have z : ∀ a pg cl h, cntT (Blk.bit ⟨a, pg, cl, 0#64, h⟩) 64 = 0 := fun a pg cl h => cntT_zero.2 fun i _ => by unfold Blk.bit; simp
  rcases h with ⟨B, hB, h1, h2, h3, _, rfl, h4⟩ | ⟨_, ⟨B, hB, _, rfl, h4⟩ | ⟨_, _, _, rfl, h4⟩ | ⟨_, a, _, _, rfl, h4⟩⟩
  · exact ⟨rfl, rfl⟩
  · rw [upd_sum e1, upd_sum e2, release_sum e1, release_sum e2]; exact ⟨rfl, rfl⟩
  · rw [release_sum e1, release_sum e2]; exact ⟨rfl, rfl⟩
  · rw [List.map_append, List.map_append, List.sum_append, List.sum_append, release_sum e1, release_sum e2]
    simp [z]
theorem release_live {p c : Nat} (hc : c < 16) (hl : Live bs) (hf : ∀ B ∈ bs, B.holder = some p → B.cls = (c : Int) → B.full) : Live (release bs p c) := by
  intro B hB
  obtain ⟨D, hD, rfl⟩ := List.mem_map.1 hB
  split
  · rename_i e
    refine .inr (.inl fun e2 => ?_)
    have h1 := hf D hD e.1 e.2
    have h2 : 0 < D.cells := by
      unfold Blk.cells; rw [if_neg (by omega), if_neg (by omega), e.2]
      have := words_facts hc; simp only [Int.toNat_natCast]; omega
    have h3 := h1 0 h2
    unfold Blk.bit at h3; simp only at e2; rw [e2] at h3; simp at h3
  · exact hl D hD
theorem TakeR.live {p c : Nat} (hc : c < 16) (hl : Live bs) {l' : List Sp} {bs' : List Blk} {o : Option Nat} (h : TakeR n l bs p c l' bs' o) : Live bs' := by
  rcases h with ⟨B, hB, h1, h2, h3, _, rfl, h4⟩ | ⟨hf, ⟨B, hB, _, rfl, h4⟩ | ⟨_, _, _, rfl, h4⟩ | ⟨_, a, _, _, rfl, h4⟩⟩
  · exact hl
  · intro D hD
    obtain ⟨D', hD', rfl⟩ := List.mem_map.1 hD
    split
    · exact .inr (.inr rfl)
    · exact release_live hc hl hf D' hD'
  · exact release_live hc hl hf
  · intro D hD
    rcases List.mem_append.1 hD with hD | hD
    · exact release_live hc hl hf D hD
    · rw [List.mem_singleton] at hD; subst hD; exact .inr (.inr rfl)
end
end Go.Proofs.YtolfcdjbchdkgaaDoor
/- Cells: New, Alloc, Free. Own work. -/
namespace Go.Proofs.YtolfcdjbchdkgaaDoor
open Go Go.Hp
set_option maxRecDepth 100000
attribute [local irreducible] hLoad hStore hNew hInt hQuo hRem hShl hShr hIf hNil hIdx hCut hElem hByte hAppend hMake hCall hYield hGet hPut hDel hNewMap hLoop hLet hAll hRange hRec hEq hCmp bitv W Does HYield

/-- A room for cells: its blocks. -/
def CellAt (C : CL) (n P : Nat) (l : List Sp) (bs : List Blk) (X : HP) : Prop := ∃ adr, CellM C adr n P l bs (cellsT bs : Nat) (wordsT bs : Nat) X ∧ Live bs

section
variable {C : CL} {adr : Nat → Nat} {n P : Nat} {l : List Sp} {bs : List Blk} {nc nw : Int} {X : HP}
/-- The used cells of a block: the pieces of memory. -/
theorem used_parts (h : CellM C adr n P l bs nc nw X) {B : Blk} (hB : B ∈ bs) (hc : B.cls ≠ -2) :
    ∃ Y, X = pt (adr B.base) (.cells (blkC B) 107 (0, 0)) + Y ∧ ∀ u : BitVec 64, (∀ i, B.cells ≤ i → u.getLsbD i = false) →
      CellM C adr n P l (upd bs B.base fun D => { D with used := u }) nc nw (pt (adr B.base) (.cells ((blkC B).setIfInBounds 4 (.int .u64 (W u))) 107 (0, 0)) + Y) := by
  obtain ⟨lt, XT, es, clock, ho, cap, M, G, rfl⟩ := h
  obtain ⟨R, hR, hR2⟩ := blocks_at (adr := adr) hB hc G.ok
  refine ⟨pt C.c (.cells (headC C P cap nc nw) 99 (0, 0)) + (XT + (pt C.mb (.map es clock) + (pt C.hb (.cells ho 100 (0, 0)) + (holdH C adr M P + R)))), ?_, fun u hu => ?_⟩
  · unfold cellX; rw [hR]; unfold blkO; ac_rfl
  · refine ⟨lt, XT, es, clock, ho, cap, M, ⟨G.ok.used hB hu, G.nle, G.ple, G.span, G.lt, ?_, G.ho, fun p c b hp hc' => ?_⟩, ?_⟩
    · exact MapIs.congr' G.map fun i => (mapF_upd (f := fun D => { D with used := u }) (fun D => ⟨rfl, rfl⟩) i).symm
    · rw [G.mat p c b hp hc']
      constructor
      · rintro ⟨D, hD, e1, e2, e3⟩
        refine ⟨_, List.mem_map.2 ⟨D, hD, rfl⟩, ?_, ?_, ?_⟩
        · split <;> exact e1
        · split <;> exact e2
        · split <;> exact e3
      · rintro ⟨D, hD, e1, e2, e3⟩
        obtain ⟨D', hD', rfl⟩ := List.mem_map.1 hD
        refine ⟨D', hD', ?_, ?_, ?_⟩
        · revert e1; split <;> exact id
        · revert e2; split <;> exact id
        · revert e3; split <;> exact id
    · unfold cellX
      rw [blkC_used, hR2 _ rfl rfl]
      unfold blkO; ac_rfl

/-- What a call of Alloc comes to. -/
def AllocR (n P : Nat) (l : List Sp) (bs : List Blk) (p w : Int) (bs' : List Blk) (v e : Int) : Prop :=
  ((p < 0 ∨ (P : Int) ≤ p ∨ w < 1) ∧ bs' = bs ∧ v = 0 ∧ e = 1) ∨
  (¬ (p < 0 ∨ (P : Int) ≤ p ∨ w < 1) ∧ 1024 < w ∧ bs' = bs ∧ v = 0 ∧ e = 2) ∨
  (¬ (p < 0 ∨ (P : Int) ≤ p ∨ w < 1) ∧ w ≤ 1024 ∧ 64 < w ∧ Nowhere (UL n l) ((w.toNat + 63) / 64) ∧ bs' = bs ∧ v = 0 ∧ e = 3) ∨
  (¬ (p < 0 ∨ (P : Int) ≤ p ∨ w < 1) ∧ w ≤ 1024 ∧ 64 < w ∧ ∃ a, First (UL n l) ((w.toNat + 63) / 64) a ∧ bs' = bs ++ [⟨a, (w.toNat + 63) / 64, -1, 1#64, none⟩] ∧ v = (a * 64 : Nat) ∧ e = 0) ∨
  (¬ (p < 0 ∨ (P : Int) ≤ p ∨ w < 1) ∧ w ≤ 64 ∧ ∃ c l' bs1 o, IsOf w.toNat c ∧ TakeR n l bs p.toNat c l' bs1 o ∧
    ((o = none ∧ bs' = bs1 ∧ v = 0 ∧ e = 3) ∨ ∃ B k, B ∈ bs1 ∧ o = some B.base ∧ IsFree B k ∧ bs' = upd bs1 B.base (fun D => { D with used := setb B.used k }) ∧ v = (B.at_ k : Nat) ∧ e = 0))

theorem upd_live {b : Nat} {u : BitVec 64} (hl : Live bs) (hu : u ≠ 0#64) : Live (upd bs b fun D => { D with used := u }) := by
  intro D hD
  obtain ⟨D', hD', rfl⟩ := List.mem_map.1 hD
  split
  · exact .inr (.inl hu)
  · exact hl D' hD'

theorem calloc_does (h : CellAt C n P l bs X) (p w : Int) {m r r2 : HP} {Tt : TypeId} {fr : Nat × Nat} [hs : Sub X m r] [Has 0 r (.cells deBc Tt fr) r2] :
    Does Tryd.prog 23 #[.pointer (some ⟨C.c, 0, none⟩), .int .i64 p, .int .i64 w] m fun e m' =>
      ∃ l' bs' v x X', AllocR n P l bs p w bs' v x ∧ CellAt C n P l' bs' X' ∧ ret (.tuple #[.int .i64 v, .int .i64 x]) (X' + r) e m' := by
  obtain ⟨adr, h, hl⟩ := id h
  rename CellAt C n P l bs X => hat
  have hok := h.ok
  have hnle := h.nle
  have hple := h.ple
  obtain ⟨hc1, hc2⟩ := hok.counts hnle
  rw [hs.eq]
  refine F23_fn ?_
  unfold F23
  refine hIf_false rfl (hIf_dec (fun h1 => ?_) (fun h1 => ?_))
  · exact ⟨l, bs, 0, 1, X, .inl ⟨.inl h1, rfl, rfl, rfl⟩, hat, ret.mk (Over.refl _)⟩
  have hhead : ∃ cap r', Has C.c X (.cells (headC C P cap (cellsT bs : Nat) (wordsT bs : Nat)) 99 (0, 0)) r' := by
    obtain ⟨lt, XT, es, clock, ho, cap, M, G, rfl⟩ := h
    exact ⟨cap, _, ⟨rfl⟩⟩
  obtain ⟨cap, r', hhas⟩ := hhead
  refine hNil_some (hLoad_add (hLoad_slice (c := headC C P cap (cellsT bs : Nat) (wordsT bs : Nat)) (by rfl) ?_))
  dsimp only
  refine hIf_dec (fun h2 => ?_) (fun h2 => ?_)
  · exact ⟨l, bs, 0, 1, X, .inl ⟨.inr (.inl (by omega)), rfl, rfl, rfl⟩, hat, ret.mk (Over.refl _)⟩
  refine hIf_dec (fun h3 => ?_) (fun h3 => ?_)
  · exact ⟨l, bs, 0, 1, X, .inl ⟨.inr (.inr h3), rfl, rfl, rfl⟩, hat, ret.mk (Over.refl _)⟩
  have hgood : ¬ (p < 0 ∨ (P : Int) ≤ p ∨ w < 1) := by omega
  refine hIf_dec (fun h4 => ?_) (fun h4 => ?_)
  · exact ⟨l, bs, 0, 2, X, .inr (.inl ⟨hgood, by omega, rfl, rfl, rfl⟩), hat, ret.mk (Over.refl _)⟩
  obtain ⟨p, rfl⟩ := Int.eq_ofNat_of_zero_le (a := p) (by omega)
  refine hCall_of (cof_does w) ?_
  rintro e m' (⟨h5, _⟩ | ⟨h5, rfl, ho⟩ | ⟨c, h5, h6, hof, rfl, ho⟩)
  · omega
  · refine ⟨_, ho, _, _, rfl, hIf_neT (by omega) (hInt_i64 (by omega) (by omega) (hInt_i64 (by omega) (by omega) (hQuo_pos (by omega) (by omega) (by omega) ?_)))⟩
    have ew : (w + 64 - 1) / 64 = (((w.toNat + 63) / 64 : Nat) : Int) := by omega
    rw [ew]
    refine hCall_of (cblock_does h (pages := (w.toNat + 63) / 64) (of := -1) (by omega) (by omega) (.inl rfl)) ?_
    rintro e m2 (⟨h7, rfl, ho2⟩ | ⟨a, adr', X', h7, hM, _, rfl, ho2⟩)
    · exact ⟨_, ho2, _, _, rfl, hIf_neT (by omega) ⟨l, bs, 0, 3, X, .inr (.inr (.inl ⟨hgood, by omega, h5, h7, rfl, rfl, rfl⟩)), hat, ret.mk (Over.of _ _)⟩⟩
    · obtain ⟨N, hN⟩ : ∃ N : Blk, N = ⟨a, (w.toNat + 63) / 64, -1, 0#64, none⟩ := ⟨_, rfl⟩
      have ea : a = N.base := by rw [hN]
      rw [← hN] at hM
      have hNm : N ∈ bs ++ [N] := by simp
      have hNc : N.cells = 1 := by rw [hN]; rfl
      obtain ⟨Y, rfl, hY⟩ := used_parts hM hNm (by rw [hN]; simp)
      have h1s : ∀ i, N.cells ≤ i → (1#64).getLsbD i = false := fun i hi => by
        rw [show (1#64) = BitVec.twoPow 64 0 from rfl, BitVec.getLsbD_twoPow]; simp; omega
      have hM2 := hY 1#64 h1s
      rw [ea]
      refine ⟨_, ho2, _, _, rfl, hIf_neF rfl (hNil_some (hStore_add (hStore_at (by simp [blkC]) ?_)))⟩
      have e1 : (blkC N).setIfInBounds (0 + 4) (.int .u64 1) = (blkC N).setIfInBounds 4 (.int .u64 (W 1#64)) := by rw [show (1 : Int) = W 1#64 from W_lit 1 (by decide)]
      rw [e1]
      obtain ⟨Z, hZ⟩ : ∃ Z, Z = pt (adr' N.base) (.cells ((blkC N).setIfInBounds 4 (.int .u64 (W 1#64))) 107 (0, 0)) + Y := ⟨_, rfl⟩
      rw [← hZ] at hM2
      have hupd : upd (bs ++ [N]) N.base (fun D => { D with used := 1#64 }) = bs ++ [⟨a, (w.toNat + 63) / 64, -1, 1#64, none⟩] := by
        have := upd_split (b1 := bs) (b2 := []) (B := N) (f := fun D => { D with used := 1#64 }) (nodup_split hM.ok.nod)
        rw [this, hN]
      rw [hupd] at hM2
      rw [← HP.add_assoc (pt (adr' N.base) _) Y, ← hZ]
      obtain ⟨N1, hN1⟩ : ∃ N1 : Blk, N1 = ⟨a, (w.toNat + 63) / 64, -1, 1#64, none⟩ := ⟨_, rfl⟩
      rw [← hN1] at hM2
      have eb : N.base = N1.base := by rw [hN, hN1]
      rw [eb]
      refine hCall_of (ccountup_does hM2 (B := N1) (by simp) (by rw [hN1]; simp) (k := 0) (by omega) ⟨by omega, by omega⟩ ⟨by omega, by omega⟩) ?_
      rintro e m3 ⟨X3, hM3, rfl, ho3⟩
      have hbit : cntT N1.bit 64 = 1 := by
        rw [hN1]; show cntT (1#64).getLsbD 64 = 1; decide +kernel
      refine ⟨_, ho3, _, rfl, insS ⟨a, (w.toNat + 63) / 64, 0⟩ l, bs ++ [N1], (a * 64 : Nat), 0, X3, .inr (.inr (.inr (.inl ⟨hgood, by omega, h5, a, h7, by rw [hN1], rfl, rfl⟩))), ⟨adr', ?_, ?_⟩, ret.eq ?_ (Over.of _ _)⟩
      · have c1 : ((cellsT (bs ++ [N1]) : Nat) : Int) = (cellsT bs : Nat) + 1 := by
          unfold cellsT; rw [List.map_append, List.sum_append]; simp [hbit]
        have c2 : ((wordsT (bs ++ [N1]) : Nat) : Int) = (wordsT bs : Nat) + (N1.words : Nat) := by
          unfold wordsT; rw [List.map_append, List.sum_append]; simp [hbit]
        rw [c1, c2]; exact hM3
      · intro D hD
        rcases List.mem_append.1 hD with hD | hD
        · exact hl D hD
        · rw [List.mem_singleton] at hD; subst hD hN1; exact .inr (.inl (by simp))
      · unfold Blk.at_; rw [hN1]; simp
  · refine ⟨_, ho, _, _, rfl, hIf_neF rfl ?_⟩
    refine hCall_of (ctake_does h (p := p) (by omega) hof.1) ?_
    rintro e m2 ⟨l', bs1, o, adr', X', hT, hM, rfl, ho2⟩
    obtain ⟨s1, s2⟩ := hT.sums
    have hl1 := hT.live hof.1 hl
    cases o with
    | none =>
      refine ⟨_, ho2, _, _, rfl, hIf_neT (by decide) ?_⟩
      exact ⟨l', bs1, 0, 3, X', .inr (.inr (.inr (.inr ⟨hgood, h6, c, l', bs1, none, hof, by simpa using hT, .inl ⟨rfl, rfl, rfl, rfl⟩⟩))), ⟨adr', by rw [s1, s2]; exact hM, hl1⟩, ret.mk (Over.of _ _)⟩
    | some b =>
      obtain ⟨B, hB, rfl, hcls, hhold, hnf⟩ := hT.block hof.1
      have hbk := hM.ok.bok B hB
      have hfree := isFree_tz hbk hnf
      obtain ⟨k, hk⟩ : ∃ k, k = tz (~~~B.used) := ⟨_, rfl⟩
      rw [← hk] at hfree
      have hk64 : k < 64 := by have := Blk.cells_le hbk; have := hfree.1; omega
      refine ⟨_, ho2, _, _, rfl, hIf_neF rfl ?_⟩
      obtain ⟨Y, rfl, hY⟩ := used_parts hM hB (by omega)
      have hM2 := hY _ (setb_low hbk hfree.1)
      refine hNil_some (hLoad_add (hLoad_int (c := blkC B) (x := W B.used) (by rfl) ?_))
      rw [bitv_not]
      refine hCall_ret (tz_does _) ⟨_, rfl, ?_⟩
      rw [← hk]
      refine hNil_some (hLoad_add (hLoad_int (c := blkC B) (x := W B.used) (by rfl) ?_))
      have c1 : (1 : Int) = W 1#64 := W_lit 1 (by decide)
      rw [c1]
      refine hShl_W (by omega) ?_
      rw [bitv_or, Int.toNat_natCast]
      refine hNil_some (hStore_add (hStore_at (by simp [blkC]) ?_))
      have e1 : (blkC B).setIfInBounds (0 + 4) (.int .u64 (W (B.used ||| 1#64 <<< k))) = (blkC B).setIfInBounds 4 (.int .u64 (W (setb B.used k))) := rfl
      rw [e1]
      obtain ⟨Z, hZ⟩ : ∃ Z, Z = pt (adr' B.base) (.cells ((blkC B).setIfInBounds 4 (.int .u64 (W (setb B.used k)))) 107 (0, 0)) + Y := ⟨_, rfl⟩
      rw [← hZ] at hM2
      obtain ⟨B1, hB1⟩ : ∃ B1 : Blk, B1 = { B with used := setb B.used k } := ⟨_, rfl⟩
      have hB1m : B1 ∈ upd bs1 B.base (fun D => { D with used := setb B.used k }) := List.mem_map.2 ⟨B, hB, by rw [if_pos rfl, hB1]⟩
      have eb : B.base = B1.base := by rw [hB1]
      have ew : B1.words = B.words := by rw [hB1]; rfl
      have eat : B1.at_ k = B.at_ k := by rw [hB1]; rfl
      simp only [Option.map_some]
      rw [← HP.add_assoc (pt (adr' B.base) _) Y, ← hZ, eb]
      refine hCall_of (ccountup_does hM2 (B := B1) hB1m (by rw [hB1]; simp only; omega) (k := k) (by rw [hB1]; exact Nat.le_of_lt hfree.1) ⟨by omega, by omega⟩ ⟨by omega, by omega⟩) ?_
      rintro e m3 ⟨X3, hM3, rfl, ho3⟩
      refine ⟨_, ho3, _, rfl, l', _, (B.at_ k : Nat), 0, X3, .inr (.inr (.inr (.inr ⟨hgood, h6, c, l', bs1, some B.base, hof, by simpa using hT, .inr ⟨B, k, hB, rfl, hfree, rfl, rfl, rfl⟩⟩))), ⟨adr', ?_, ?_⟩, ret.eq ?_ (Over.refl _)⟩
      · have q1 := sum_upd hM.ok hB (f := fun D => { D with used := setb B.used k }) (fun D => cntT D.bit 64)
        have q2 := sum_upd hM.ok hB (f := fun D => { D with used := setb B.used k }) (fun D => cntT D.bit 64 * D.words)
        have q3 := setb_cells hbk hfree
        have q4 : cntT (Blk.bit { B with used := setb B.used k }) 64 = cntT B.bit 64 + 1 := q3
        have q5 : Blk.words { B with used := setb B.used k } = B.words := rfl
        simp only [q4, q5] at q1 q2
        rw [Nat.add_mul, Nat.one_mul] at q2
        have w1 : ((cellsT (upd bs1 B.base fun D => { D with used := setb B.used k }) : Nat) : Int) = (cellsT bs : Nat) + 1 := by rw [← s1]; unfold cellsT; omega
        have w2 : ((wordsT (upd bs1 B.base fun D => { D with used := setb B.used k }) : Nat) : Int) = (wordsT bs : Nat) + (B1.words : Nat) := by rw [← s2, ew]; unfold wordsT; omega
        rw [w1, w2]; exact hM3
      · exact upd_live hl1 (setb_ne hk64)
      · rw [eat]
end
end Go.Proofs.YtolfcdjbchdkgaaDoor
/- Cells: Free, Flush. Own work. -/
namespace Go.Proofs.YtolfcdjbchdkgaaDoor
open Go Go.Hp
set_option maxRecDepth 100000
attribute [local irreducible] hLoad hStore hNew hInt hQuo hRem hShl hShr hIf hNil hIdx hCut hElem hByte hAppend hMake hCall hYield hGet hPut hDel hNewMap hLoop hLet hAll hRange hRec hEq hCmp bitv W Does HYield

/-- What a call of Free comes to. -/
def FreeR (bs : List Blk) (addr : Int) (bs' : List Blk) (e : Int) : Prop :=
  ((∀ B k, Hit bs addr B k → addr ≠ (B.at_ k : Nat)) ∧ bs' = bs ∧ e = 4) ∨
  ∃ B k, Hit bs addr B k ∧ addr = (B.at_ k : Nat) ∧ e = 0 ∧
    ((clrb B.used k = 0#64 ∧ B.holder = none ∧ bs' = rem bs B.base) ∨ (¬ (clrb B.used k = 0#64 ∧ B.holder = none) ∧ bs' = upd bs B.base fun D => { D with used := clrb B.used k }))

theorem rem_upd {bs : List Blk} {b : Nat} {f : Blk → Blk} (hf : ∀ B, (f B).base = B.base) : rem (upd bs b f) b = rem bs b := by
  unfold rem upd
  induction bs with
  | nil => rfl
  | cons B bs ih =>
    simp only [List.map_cons, List.filter_cons, ih]
    by_cases e : B.base = b
    · rw [if_pos e]
      have e2 : ((f B).base != b) = false := by rw [hf, e]; simp
      have e3 : (B.base != b) = false := by rw [e]; simp
      rw [e2, e3]; rfl
    · rw [if_neg e]

section
variable {C : CL} {adr : Nat → Nat} {n P : Nat} {l : List Sp} {bs : List Blk} {nc nw : Int} {X : HP}
theorem head_parts (h : CellM C adr n P l bs nc nw X) {B : Blk} (hB : B ∈ bs) (hc : B.cls ≠ -2) :
    ∃ cap Y, X = pt C.c (.cells (headC C P cap nc nw) 99 (0, 0)) + (pt (adr B.base) (blkO B) + Y) ∧ ∀ nc' nw', CellM C adr n P l bs nc' nw' (pt C.c (.cells (headC C P cap nc' nw') 99 (0, 0)) + (pt (adr B.base) (blkO B) + Y)) := by
  obtain ⟨lt, XT, es, clock, ho, cap, M, G, rfl⟩ := h
  obtain ⟨R, hR, hR2⟩ := blocks_at (adr := adr) hB hc G.ok
  refine ⟨cap, XT + (pt C.mb (.map es clock) + (pt C.hb (.cells ho 100 (0, 0)) + (holdH C adr M P + R))), ?_, fun nc' nw' => ⟨lt, XT, es, clock, ho, cap, M, G, ?_⟩⟩
  · unfold cellX; rw [hR]; ac_rfl
  · unfold cellX; rw [hR]; ac_rfl

theorem cfree_does (h : CellAt C n P l bs X) (addr : Int) (ha : addr ≤ 9223372036854775807) {m r r2 : HP} {Tt : TypeId} {fr : Nat × Nat} [hs : Sub X m r] [Has 0 r (.cells deBc Tt fr) r2] :
    Does Tryd.prog 25 #[.pointer (some ⟨C.c, 0, none⟩), .int .i64 addr] m fun e m' =>
      ∃ l' bs' x X', FreeR bs addr bs' x ∧ CellAt C n P l' bs' X' ∧ ret (.int .i64 x) (X' + r) e m' := by
  obtain ⟨adr, h, hl⟩ := id h
  rename CellAt C n P l bs X => hat
  have hok := h.ok
  have hnle := h.nle
  obtain ⟨hc1, hc2⟩ := hok.counts hnle
  rw [hs.eq]
  refine F25_fn ?_
  unfold F25
  refine hIf_false rfl (hCall_of (cfind_does h addr ha) ?_)
  rintro e m' (⟨h1, rfl, ho⟩ | ⟨B, hB, hc, hh, rfl, ho⟩)
  · refine ⟨_, ho, _, _, _, rfl, hIf_true rfl ⟨l, bs, 4, X, .inl ⟨fun B k ht => ?_, rfl, rfl⟩, hat, ret.mk (Over.refl _)⟩⟩
    refine absurd (ht.has hok) (h1 B ht.mem fun e => ?_)
    have := (hok.bok B ht.mem).bit_lt ht.bit
    unfold Blk.cells at this; rw [if_pos e] at this; omega
  · have hbk := hok.bok B hB
    have hw := Blk.words_pos hbk
    have hpl := hok.pages_le hB
    obtain ⟨k, hk⟩ : ∃ k, k = (addr.toNat - B.base * 64) / B.words := ⟨_, rfl⟩
    rw [← hk]
    have hdiv := (hit_div hw hh k).2 hk.symm
    refine ⟨_, ho, _, _, _, rfl, ?_⟩
    cases hb : B.bit k with
    | false =>
      refine hIf_true rfl ⟨l, bs, 4, X, .inl ⟨fun D k' ht => ?_, rfl, rfl⟩, hat, ret.mk (Over.refl _)⟩
      obtain rfl := hok.has_uniq ht.mem hB (ht.has hok) hh
      have e := (hit_div hw hh k').1 ⟨ht.lo, ht.hi⟩
      rw [← hk] at e; subst e
      rw [ht.bit] at hb; cases hb
    | true =>
      have ht : Hit bs addr B k := ⟨hB, hb, hdiv.1, hdiv.2⟩
      have hkc := hbk.bit_lt hb
      have hk64 : k < 64 := by have := Blk.cells_le hbk; omega
      have hroom := Blk.room hbk
      have hm := Nat.mul_le_mul_right B.words (show k ≤ B.cells by omega)
      have hkw : ((k : Nat) : Int) * (B.words : Nat) = ((k * B.words : Nat) : Int) := by push_cast; rfl
      have hat_ : ((B.at_ k : Nat) : Int) = (B.base : Int) * 64 + ((k * B.words : Nat) : Int) := by unfold Blk.at_; push_cast; rfl
      obtain ⟨Y, rfl, hY⟩ := used_parts h hB hc
      haveI : Has (adr B.base) (pt (adr B.base) (.cells (blkC B) 107 (0, 0)) + Y + r) (blkO B) (Y + r) := ⟨HP.add_assoc _ _ _⟩
      refine hIf_false rfl (hNil_some (hLoad_int (c := blkC B) (x := (B.base : Int)) (by rfl) (hInt_i64 (by omega) (by omega) ?_)))
      refine hCall_ret (cellwords_does hbk hc (by omega)) ⟨_, rfl, hLoad_int (c := blkC B) (x := (B.base : Int)) (by rfl) ⟨rfl, ?_⟩⟩
      rw [hkw]
      refine hInt_i64 (by omega) (by omega) (hInt_i64 (by omega) (by omega) (hIf_ne (fun h1 => ?_) (fun h1 => ?_)))
      · refine ⟨l, bs, 4, _, .inl ⟨fun D k' ht' e => ?_, rfl, rfl⟩, hat, ret.mk (Over.refl _)⟩
        obtain ⟨rfl, rfl⟩ := ht'.uniq hok ht
        omega
      · have hM2 := hY _ (clrb_low hbk hkc)
        refine hNil_some (hLoad_add (hLoad_int (c := blkC B) (x := W B.used) (by rfl) ?_))
        have c1 : (1 : Int) = W 1#64 := W_lit 1 (by decide)
        have c1' : hShl .u64 1 (k : Int) = hShl .u64 (W 1#64) (k : Int) := by rw [← c1]
        rw [c1']
        refine hShl_W (by omega) ?_
        rw [bitv_andNot, Int.toNat_natCast]
        refine hNil_some (hStore_add (hStore_at (by simp [blkC]) ?_))
        have e1 : (blkC B).setIfInBounds (0 + 4) (.int .u64 (W (B.used &&& ~~~(1#64 <<< k)))) = (blkC B).setIfInBounds 4 (.int .u64 (W (clrb B.used k))) := rfl
        rw [e1]
        obtain ⟨Z, hZ⟩ : ∃ Z, Z = pt (adr B.base) (.cells ((blkC B).setIfInBounds 4 (.int .u64 (W (clrb B.used k)))) 107 (0, 0)) + Y := ⟨_, rfl⟩
        rw [← hZ] at hM2
        rw [← HP.add_assoc (pt (adr B.base) _) Y, ← hZ]
        obtain ⟨B1, hB1⟩ : ∃ B1 : Blk, B1 = { B with used := clrb B.used k } := ⟨_, rfl⟩
        have hB1m : B1 ∈ upd bs B.base (fun D => { D with used := clrb B.used k }) := List.mem_map.2 ⟨B, hB, by rw [if_pos rfl, hB1]⟩
        have eb : B.base = B1.base := by rw [hB1]
        have ew : B1.words = B.words := by rw [hB1]; rfl
        have hbk1 := hM2.ok.bok B1 hB1m
        have hpl1 := hM2.ok.pages_le hB1m
        have hc1' : B1.cls ≠ -2 := by rw [hB1]; exact hc
        clear hZ
        obtain ⟨cap, Y2, rfl, hY2⟩ := head_parts hM2 hB1m hc1'
        rw [eb]
        have hw2 : B1.words ≤ 262144 := by
          rw [ew]; unfold Blk.words; split
          · omega
          · rcases hbk.cls with e | e | e
            · omega
            · omega
            · have := words_facts (c := B.cls.toNat) (by omega); omega
        refine hNil_some (hLoad_add (hLoad_int (c := headC C P cap _ _) (x := (cellsT bs : Nat)) (by rfl) (hInt_i64 (by omega) (by omega) (hNil_some (hStore_add (hStore_at (by simp [headC]) ?_))))))
        refine hNil_some (hLoad_add (hLoad_int (x := (wordsT bs : Nat)) (by rfl) ?_))
        refine hCall_ret (cellwords_does hbk1 hc1' (by omega)) ⟨_, rfl, hLoad_add (hLoad_int (x := (wordsT bs : Nat)) (by rfl) ⟨rfl, hInt_i64 (by omega) (by omega) (hNil_some (hStore_add (hStore_at (by simp [headC]) ?_)))⟩)⟩
        rw [show (((headC C P cap (cellsT bs : Nat) (wordsT bs : Nat)).setIfInBounds (0 + 3) (.int .i64 ((cellsT bs : Nat) - 1))).setIfInBounds (0 + 4) (.int .i64 ((wordsT bs : Nat) - (B1.words : Nat)))) = headC C P cap ((cellsT bs : Nat) - 1) ((wordsT bs : Nat) - (B1.words : Nat)) from rfl]
        have hM3 := hY2 ((cellsT bs : Nat) - 1) ((wordsT bs : Nat) - (B1.words : Nat))
        rw [← HP.add_assoc (pt C.c _)]
        have q1 := sum_upd hok hB (f := fun D => { D with used := clrb B.used k }) (fun D => cntT D.bit 64)
        have q2 := sum_upd hok hB (f := fun D => { D with used := clrb B.used k }) (fun D => cntT D.bit 64 * D.words)
        have q3 := clrb_cells hbk hb
        have q4 : cntT (Blk.bit { B with used := clrb B.used k }) 64 + 1 = cntT B.bit 64 := q3
        have q5 : Blk.words { B with used := clrb B.used k } = B.words := rfl
        have q6 : (cntT (Blk.bit { B with used := clrb B.used k }) 64 + 1) * B.words = cntT B.bit 64 * B.words := by rw [q4]
        rw [Nat.add_mul, Nat.one_mul] at q6
        simp only [q5] at q1 q2
        have w1 : ((cellsT (upd bs B.base fun D => { D with used := clrb B.used k }) : Nat) : Int) = (cellsT bs : Nat) - 1 := by unfold cellsT; omega
        have w2 : ((wordsT (upd bs B.base fun D => { D with used := clrb B.used k }) : Nat) : Int) = (wordsT bs : Nat) - (B1.words : Nat) := by rw [ew]; unfold wordsT; omega
        refine hCall_of (cdrop_does hM3 hB1m hc1') ?_
        have eu : B1.used = clrb B.used k := by rw [hB1]
        have eh : B1.holder = B.holder := by rw [hB1]
        rintro e m3 (⟨h3, rfl, ho3⟩ | ⟨h3, h4, X', hM4, rfl, ho3⟩)
        · rw [eu, eh] at h3
          refine ⟨_, ho3, l, _, 0, _, .inr ⟨B, k, ht, by omega, rfl, .inr ⟨h3, rfl⟩⟩, ⟨adr, by rw [w1, w2]; exact hM3, fun D hD => ?_⟩, ret.mk (Over.refl _)⟩
          obtain ⟨D', hD', rfl⟩ := List.mem_map.1 hD
          split
          · rename_i e4
            obtain rfl := hok.base_inj hD' hB e4
            by_cases e5 : clrb D'.used k = 0#64
            · refine .inr (.inr ?_)
              cases e6 : D'.holder with
              | none => exact absurd ⟨e5, e6⟩ h3
              | some q => simp [e6]
            · exact .inr (.inl e5)
          · exact hl D' hD'
        · rw [← eb, rem_upd (f := fun D => { D with used := clrb B.used k }) (fun _ => rfl)] at hM4
          rw [eu] at h3
          rw [eh] at h4
          refine ⟨_, ho3, delS B.base l, rem bs B.base, 0, X', .inr ⟨B, k, ht, by omega, rfl, .inl ⟨h3, h4, rfl⟩⟩, ⟨adr, ?_, fun D hD => hl D (mem_rem.1 hD).1⟩, ret.mk (Over.refl _)⟩
          have z1 : cntT (Blk.bit { B with used := clrb B.used k }) 64 = 0 := cntT_zero.2 fun i _ => by unfold Blk.bit; simp only; rw [h3]; simp
          rw [z1] at q4 q6
          have r1 := sum_rem hok hB (fun D => cntT D.bit 64)
          have r2 := sum_rem hok hB (fun D => cntT D.bit 64 * D.words)
          have v1 : ((cellsT (rem bs B.base) : Nat) : Int) = (cellsT bs : Nat) - 1 := by unfold cellsT; omega
          have v2 : ((wordsT (rem bs B.base) : Nat) : Int) = (wordsT bs : Nat) - (B1.words : Nat) := by rw [ew]; unfold wordsT; omega
          rw [v1, v2]; exact hM4

/-! ### Flush -/
def liveB (B : Blk) : Bool := B.cls == -2 || B.used != 0#64 || B.holder.isSome
theorem liveB_iff {B : Blk} : liveB B = true ↔ B.live := by
  unfold liveB Blk.live
  simp only [Bool.or_eq_true, beq_iff_eq, bne_iff_ne, or_assoc]
def letGo (p : Nat) (c : Int) (B : Blk) : Blk := if B.holder = some p ∧ B.cls < c then { B with holder := none } else B
/-- What is left when a processor has let go its blocks of the classes below c. -/
def flushTo (p : Nat) (c : Int) (bs : List Blk) : List Blk := (bs.map (letGo p c)).filter liveB
theorem flush_zero (hk : COk n P l bs) (hl : Live bs) (p : Nat) : flushTo p 0 bs = bs := by
  unfold flushTo
  have e : bs.map (letGo p 0) = bs := by
    conv => rhs; rw [← List.map_id bs]
    apply List.map_congr_left
    intro B hB
    unfold letGo
    rw [if_neg]; rfl
    rintro ⟨h1, h2⟩
    have := ((hk.bok B hB).hold p h1).2; omega
  rw [e, List.filter_eq_self]
  intro B hB; exact liveB_iff.2 (hl B hB)
theorem flush_live (p : Nat) (c : Int) : Live (flushTo p c bs) := fun B hB => liveB_iff.1 (List.mem_filter.1 hB).2
theorem flush_step (p : Nat) (c : Nat) : flushTo p ((c + 1 : Nat) : Int) bs = (release (flushTo p (c : Int) bs) p c).filter liveB := by
  unfold flushTo release
  induction bs with
  | nil => rfl
  | cons B bs ih =>
    simp only [List.map_cons, List.filter_cons]
    have e : letGo p ((c + 1 : Nat) : Int) B = if (letGo p c B).holder = some p ∧ (letGo p c B).cls = (c : Int) then { (letGo p c B) with holder := none } else letGo p c B := by
      unfold letGo
      by_cases h1 : B.holder = some p ∧ B.cls < (c : Int)
      · rw [if_pos h1, if_pos ⟨h1.1, by omega⟩, if_neg]
        rintro ⟨h2, _⟩; cases h2
      · rw [if_neg h1]
        by_cases h2 : B.holder = some p ∧ B.cls = (c : Int)
        · rw [if_pos h2, if_pos ⟨h2.1, by omega⟩]
        · rw [if_neg h2, if_neg]
          rintro ⟨h3, h4⟩
          exact h2 ⟨h3, by
            have : ¬ B.cls < (c : Int) := fun h5 => h1 ⟨h3, h5⟩
            omega⟩
    cases hl : liveB (letGo p c B) with
    | true =>
      simp only [if_true, List.map_cons, List.filter_cons]
      rw [← e, ih]
    | false =>
      have h1 : ¬ ((letGo p c B).holder = some p ∧ (letGo p c B).cls = (c : Int)) := fun h => by
        unfold liveB at hl; rw [h.1] at hl; simp at hl
      rw [if_neg h1] at e
      rw [e, hl, ih]
      rfl
theorem filter_live (hl : Live bs) : bs.filter liveB = bs := by
  rw [List.filter_eq_self]; intro B hB; exact liveB_iff.2 (hl B hB)
theorem filter_upd (hk : COk n P l bs) (hl : Live bs) {B : Blk} (hB : B ∈ bs) (hc : B.cls ≠ -2) :
    (upd bs B.base fun D => { D with holder := none }).filter liveB = if B.used = 0#64 then rem bs B.base else upd bs B.base fun D => { D with holder := none } := by
  obtain ⟨b1, b2, rfl⟩ := mem_split hB
  have hnd := nodup_split hk.nod
  rw [upd_split hnd, rem_split hnd, List.filter_append, List.filter_cons, filter_live (fun D hD => hl D (by simp [hD])), filter_live (bs := b2) (fun D hD => hl D (by simp [hD]))]
  have e : liveB { B with holder := none } = (B.used != 0#64) := by
    unfold liveB
    have : (B.cls == -2) = false := by simpa using hc
    simp [this]
  rw [e]
  by_cases h : B.used = 0#64
  · rw [if_pos h, h]; simp
  · rw [if_neg h, if_pos (by simpa using h)]

/-- What a call of Flush comes to. -/
def FlushR (P : Nat) (bs : List Blk) (p : Int) (bs' : List Blk) (e : Int) : Prop :=
  ((p < 0 ∨ (P : Int) ≤ p) ∧ bs' = bs ∧ e = 1) ∨ (¬ (p < 0 ∨ (P : Int) ≤ p) ∧ bs' = flushTo p.toNat 16 bs ∧ e = 0)

theorem cflush_does (h : CellAt C n P l bs X) (p : Int) {m r r2 : HP} {Tt : TypeId} {fr : Nat × Nat} [hs : Sub X m r] [Has 0 r (.cells deBc Tt fr) r2] :
    Does Tryd.prog 33 #[.pointer (some ⟨C.c, 0, none⟩), .int .i64 p] m fun e m' =>
      ∃ l' bs' x X', FlushR P bs p bs' x ∧ CellAt C n P l' bs' X' ∧ ret (.int .i64 x) (X' + r) e m' := by
  obtain ⟨adr, h, hl⟩ := id h
  rename CellAt C n P l bs X => hat
  have hok := h.ok
  have hple := h.ple
  rw [hs.eq]
  refine F33_fn ?_
  unfold F33
  refine hIf_false rfl (hIf_dec (fun h1 => ?_) (fun h1 => ?_))
  · exact ⟨l, bs, 1, X, .inl ⟨.inl h1, rfl, rfl⟩, hat, ret.mk (Over.refl _)⟩
  obtain ⟨lt, XT, es, clock, ho, cap, M, G, hX⟩ := id h
  haveI i1 : Has C.c X (.cells (headC C P cap (cellsT bs : Nat) (wordsT bs : Nat)) 99 (0, 0)) (XT + (pt C.mb (.map es clock) + (pt C.hb (.cells ho 100 (0, 0)) + (holdH C adr M P + sumB (blkH adr) bs)))) := ⟨hX⟩
  haveI i2 : Has C.hb X (.cells ho 100 (0, 0)) (pt C.c (.cells (headC C P cap (cellsT bs : Nat) (wordsT bs : Nat)) 99 (0, 0)) + (XT + (pt C.mb (.map es clock) + (holdH C adr M P + sumB (blkH adr) bs)))) := ⟨by rw [hX]; unfold cellX; ac_rfl⟩
  refine hNil_some (hLoad_add (hLoad_slice (c := headC C P cap (cellsT bs : Nat) (wordsT bs : Nat)) (by rfl) ?_))
  dsimp only
  refine hIf_dec (fun h2 => ?_) (fun h2 => ?_)
  · exact ⟨l, bs, 1, X, .inl ⟨.inr (by omega), rfl, rfl⟩, hat, ret.mk (Over.refl _)⟩
  obtain ⟨p, rfl⟩ := Int.eq_ofNat_of_zero_le (a := p) (by omega)
  have e1 : 0 + (p : Int).toNat * 1 = p := by omega
  refine hNil_some (hLoad_add (hLoad_slice (c := headC C P cap (cellsT bs : Nat) (wordsT bs : Nat)) (by rfl) ?_))
  dsimp only
  refine hIdx_of (by omega) (by omega) (hLoad_slice (by rw [e1]; exact G.ho p (by omega)) ?_)
  refine hLoop_of (fun d x m' => ∃ (i : Nat) (l' : List Sp) (X' : HP), i ≤ 16 ∧ d = 16 - i ∧ x = ((i : Int), ()) ∧ CellAt C n P l' (flushTo p (i : Int) bs) X' ∧ Over (X' + r) m') ?_ ?_
  · exact ⟨_, 0, l, X, by omega, rfl, rfl, by rw [show ((0 : Nat) : Int) = 0 from rfl, flush_zero hok hl]; exact hat, Over.refl _⟩
  clear i1 i2
  rintro d x m' ⟨i, l', X', hi, rfl, rfl, ⟨adr', hM, hl'⟩, g, rfl⟩
  refine hAll_of fun _ => ?_
  unfold F33_l6
  dsimp only
  refine hIf_dec (fun h3 => ?_) (fun h3 => ?_)
  · have hi' : i < 16 := by omega
    have ei : 0 + (i : Int).toNat * 1 = i := by omega
    have hok' := hM.ok
    refine hLet_of (fun s m' => ∃ l2 X2, CellAt C n P l2 (flushTo p ((i + 1 : Nat) : Int) bs) X2 ∧ Over (X2 + r) m') ?_ ?_
    · obtain ⟨lt', XT', es', clock', ho', cap', M', G', hX'⟩ := id hM
      obtain ⟨S, hS, _⟩ := hold_at (C := C) (adr := adr') (M := M') (P := P) (p := p) (by omega)
      haveI i3 : Has (C.hr p) X' (.cells (hrow adr' (M' p)) 102 (0, 0)) (pt C.c (.cells (headC C P cap' (cellsT (flushTo p (i : Int) bs) : Nat) (wordsT (flushTo p (i : Int) bs) : Nat)) 99 (0, 0)) + (XT' + (pt C.mb (.map es' clock') + (pt C.hb (.cells ho' 100 (0, 0)) + (S + sumB (blkH adr') (flushTo p (i : Int) bs)))))) := ⟨by rw [hX']; unfold cellX; rw [hS]; ac_rfl⟩
      refine hIdx_of (by omega) (by omega) (hLoad_ptr (by rw [ei]; exact hrow_get hi') ?_)
      clear i3
      cases hm : M' p i with
      | none =>
        have hno : ∀ D ∈ flushTo p (i : Int) bs, D.holder = some p → D.cls = (i : Int) → False := fun D hD d1 d2 => by
          have := (G'.mat p i D.base (by omega) hi').2 ⟨D, hD, rfl, d1, d2⟩
          rw [hm] at this; cases this
        have hrel := release_none hno
        refine hIf_false rfl ⟨l', X', ?_, Over.of _ _⟩
        rw [flush_step, hrel, filter_live hl']
        exact ⟨adr', hM, hl'⟩
      | some b =>
        obtain ⟨B, hB, rfl, hh, hcls⟩ := (G'.mat p i b (by omega) hi').1 hm
        have hc2 : B.cls ≠ -2 := by omega
        refine hIf_true rfl ?_
        obtain ⟨cap2, ho2, row, Y, hXY, h4, h5, hM2⟩ := hold_parts hM hB (p := p) (c := i) (by omega) hi' hcls (x := none) (.inl ⟨rfl, hh⟩)
        rw [hXY]
        simp only [Option.map_some]
        refine hNil_some (hLoad_add (hLoad_slice (c := headC C P cap2 _ _) (by rfl) ?_))
        dsimp only
        refine hIdx_of (by omega) (by omega) (hLoad_slice (by rw [e1]; exact h4) ?_)
        dsimp only
        refine hNil_some (hStore_add (hStore_at (by simp [blkC]) (hIdx_of (by omega) (by omega) (hStore_at (by rw [ei, h5]; exact hi') ?_))))
        rw [ei]
        simp only [Option.map_none, Option.isSome_none] at hM2
        have hrel := release_one hok' hB hh hcls
        have hB1m : { B with holder := none } ∈ upd (flushTo p (i : Int) bs) B.base (fun D => { D with holder := none }) := List.mem_map.2 ⟨B, hB, by rw [if_pos rfl]⟩
        have s1 : cellsT (upd (flushTo p (i : Int) bs) B.base fun D => { D with holder := none }) = cellsT (flushTo p (i : Int) bs) := upd_sum (f := fun B => cntT B.bit 64) (fun _ _ => rfl)
        have s2 : wordsT (upd (flushTo p (i : Int) bs) B.base fun D => { D with holder := none }) = wordsT (flushTo p (i : Int) bs) := upd_sum (f := fun B => cntT B.bit 64 * B.words) (fun _ _ => rfl)
        have hfs : flushTo p ((i + 1 : Nat) : Int) bs = if B.used = 0#64 then rem (flushTo p (i : Int) bs) B.base else upd (flushTo p (i : Int) bs) B.base fun D => { D with holder := none } := by
          rw [flush_step, hrel, filter_upd hok' hl' hB hc2]
        obtain ⟨X2, hX2, hM2⟩ : ∃ X2, X2 = _ ∧ CellM C adr' n P l' (upd (flushTo p (i : Int) bs) B.base fun D => { D with holder := none }) (cellsT (flushTo p (i : Int) bs) : Nat) (wordsT (flushTo p (i : Int) bs) : Nat) X2 := ⟨_, rfl, hM2⟩
        refine hCall_of ((cdrop_does hM2 hB1m hc2 (m := X2 + r) (r := r)).from (by rw [hX2]; simp only [Nat.zero_add]; exact Over.of _ _)) ?_
        rintro e m3 (⟨h6, rfl, ho3⟩ | ⟨h6, h7, X3, hM3, rfl, ho3⟩)
        · have hne : B.used ≠ 0#64 := fun e => h6 ⟨e, rfl⟩
          refine ⟨_, ho3, l', X2, ⟨adr', ?_, flush_live _ _⟩, Over.of _ _⟩
          rw [hfs, if_neg hne, s1, s2]; exact hM2
        · refine ⟨_, ho3, delS B.base l', X3, ⟨adr', ?_, flush_live _ _⟩, Over.of _ _⟩
          have hz : B.used = 0#64 := h6
          rw [rem_upd (f := fun D => { D with holder := none }) (fun _ => rfl)] at hM3
          rw [hfs, if_pos hz]
          have z1 : cntT B.bit 64 = 0 := cntT_zero.2 fun i _ => by unfold Blk.bit; rw [hz]; simp
          have r1 := sum_rem hok' hB (fun D => cntT D.bit 64)
          have r2 := sum_rem hok' hB (fun D => cntT D.bit 64 * D.words)
          rw [z1] at r1 r2
          have v1 : cellsT (rem (flushTo p (i : Int) bs) B.base) = cellsT (flushTo p (i : Int) bs) := by unfold cellsT; omega
          have v2 : wordsT (rem (flushTo p (i : Int) bs) B.base) = wordsT (flushTo p (i : Int) bs) := by unfold wordsT; omega
          rw [v1, v2]; exact hM3
    · rintro s m' ⟨l2, X2, hM2, g2, rfl⟩
      refine hAll_of fun _ => ?_
      unfold F33_j11
      exact hInt_i64 (by omega) (by omega) ⟨16 - (i + 1), by omega, i + 1, l2, X2, by omega, rfl, rfl, hM2, Over.of _ _⟩
  · obtain rfl : i = 16 := by omega
    exact ⟨l', _, 0, X', .inr ⟨by omega, rfl, rfl⟩, ⟨adr', by simpa using hM, by simpa using hl'⟩, ret.mk (Over.of _ _)⟩
end
end Go.Proofs.YtolfcdjbchdkgaaDoor
