/- The predicates of functions of the program, printed by a program of this session (wip/tools/prt.py) out of Lean's own print of the loaded functions. -/
import Derived.Test.YtolfcdjbchdkgaaDoorP0
namespace Go.Proofs.YtolfcdjbchdkgaaDoor
open Go Go.Hp
set_option maxRecDepth 100000
/-! math/bits.TrailingZeros64 -/
noncomputable def code51 : Code := (Tryd.f51.body).getD .skip
def F51 (x_1 : Int) (R : Ending → HP → Prop) : HP → Prop :=
  hIf (x_1 == 0)
    (R (.returned (.int .i64 64)))
    (hInt .u64 (0 - x_1) fun v_2 =>
  hInt .u64 ((bitv .and .u64 x_1 v_2) * 285870213051353865) fun v_3 =>
  hShr .u64 v_3 58 fun v_4 =>
  hIdx (some ⟨0, 0, none⟩) 64 v_4 1 fun a_5 =>
  hLoad (.int .u8) a_5 fun (v_6 : Int) =>
  hInt .i64 v_6 fun v_7 =>
  R (.returned (.int .i64 v_7)))
def ann51 : Ann := { loop := [], cut := [] }
theorem den51 (x_1 : Int) (R : Ending → HP → Prop) : denF Tryd.prog ann51 Tryd.f51.ntmps Tryd.f51.results.toList code51 [(.int .u64 x_1)] R = F51 x_1 R := by kernel_rfl
theorem call51 : Callable Tryd.prog 51 := fun a w => Tryd.call51 a w
theorem F51_fn {x_1 : Int} {R : Ending → HP → Prop} {m : HP} (h : F51 x_1 R m) : Does Tryd.prog 51 #[(.int .u64 x_1)] m R :=
  fn_of_den mixed (ann := ann51) Tryd.func51 call51 (c := code51) (by kernel_rfl) (by kernel_rfl) (args := [(.int .u64 x_1)]) (Nat.le_of_ble_eq_true (by kernel_rfl)) (.inl (by kernel_rfl)) (by rw [den51]; exact h)
/-! math/bits.OnesCount64 -/
noncomputable def code83 : Code := (Tryd.f83.body).getD .skip
def F83 (x_1 : Int) (R : Ending → HP → Prop) : HP → Prop :=
  hShr .u64 x_1 1 fun v_2 =>
  hInt .u64 ((bitv .and .u64 v_2 6148914691236517205) + (bitv .and .u64 x_1 6148914691236517205)) fun v_3 =>
  hShr .u64 v_3 2 fun v_4 =>
  hInt .u64 ((bitv .and .u64 v_4 3689348814741910323) + (bitv .and .u64 v_3 3689348814741910323)) fun v_5 =>
  hShr .u64 v_5 4 fun v_6 =>
  hInt .u64 (v_6 + v_5) fun v_7 =>
  hShr .u64 (bitv .and .u64 v_7 1085102592571150095) 8 fun v_8 =>
  hInt .u64 ((bitv .and .u64 v_7 1085102592571150095) + v_8) fun v_9 =>
  hShr .u64 v_9 16 fun v_10 =>
  hInt .u64 (v_9 + v_10) fun v_11 =>
  hShr .u64 v_11 32 fun v_12 =>
  hInt .u64 (v_11 + v_12) fun v_13 =>
  hInt .i64 v_13 fun v_14 =>
  R (.returned (.int .i64 (bitv .and .i64 v_14 127)))
def ann83 : Ann := { loop := [], cut := [] }
theorem den83 (x_1 : Int) (R : Ending → HP → Prop) : denF Tryd.prog ann83 Tryd.f83.ntmps Tryd.f83.results.toList code83 [(.int .u64 x_1)] R = F83 x_1 R := by kernel_rfl
theorem call83 : Callable Tryd.prog 83 := fun a w => Tryd.call83 a w
theorem F83_fn {x_1 : Int} {R : Ending → HP → Prop} {m : HP} (h : F83 x_1 R m) : Does Tryd.prog 83 #[(.int .u64 x_1)] m R :=
  fn_of_den mixed (ann := ann83) Tryd.func83 call83 (c := code83) (by kernel_rfl) (by kernel_rfl) (args := [(.int .u64 x_1)]) (Nat.le_of_ble_eq_true (by kernel_rfl)) (.inl (by kernel_rfl)) (by rw [den83]; exact h)
/-! math/bits.LeadingZeros64 -/
noncomputable def code88 : Code := (Tryd.f88.body).getD .skip
def F88 (x_1 : Int) (R : Ending → HP → Prop) : HP → Prop :=
  hCall Tryd.prog 89 #[(.int .u64 x_1)] (fun ch => R (.panicked ch)) fun r_2 m => ∃ (v_3 : Int), r_2 = (.int .i64 v_3) ∧ (hInt .i64 (64 - v_3) fun v_4 =>
  R (.returned (.int .i64 v_4))) m
def ann88 : Ann := { loop := [], cut := [] }
theorem den88 (x_1 : Int) (R : Ending → HP → Prop) : denF Tryd.prog ann88 Tryd.f88.ntmps Tryd.f88.results.toList code88 [(.int .u64 x_1)] R = F88 x_1 R := by kernel_rfl
theorem call88 : Callable Tryd.prog 88 := fun a w => Tryd.call88 a w
theorem F88_fn {x_1 : Int} {R : Ending → HP → Prop} {m : HP} (h : F88 x_1 R m) : Does Tryd.prog 88 #[(.int .u64 x_1)] m R :=
  fn_of_den mixed (ann := ann88) Tryd.func88 call88 (c := code88) (by kernel_rfl) (by kernel_rfl) (args := [(.int .u64 x_1)]) (Nat.le_of_ble_eq_true (by kernel_rfl)) (.inl (by kernel_rfl)) (by rw [den88]; exact h)
/-! math/bits.Len64 -/
noncomputable def code89 : Code := (Tryd.f89.body).getD .skip
def F89_j10 (x_17 : Int) (n_18 : Int) (R : Ending → HP → Prop) : HP → Prop :=
  hInt .u8 x_17 fun v_19 =>
  hByte ({data := #[0, 1, 2, 2, 3, 3, 3, 3, 4, 4, 4, 4, 4, 4, 4, 4, 5, 5, 5, 5, 5, 5, 5, 5, 5, 5, 5, 5, 5, 5, 5, 5, 6, 6, 6, 6, 6, 6, 6, 6, 6, 6, 6, 6, 6, 6, 6, 6, 6, 6, 6, 6, 6, 6, 6, 6, 6, 6, 6, 6, 6, 6, 6, 6, 7, 7, 7, 7, 7, 7, 7, 7, 7, 7, 7, 7, 7, 7, 7, 7, 7, 7, 7, 7, 7, 7, 7, 7, 7, 7, 7, 7, 7, 7, 7, 7, 7, 7, 7, 7, 7, 7, 7, 7, 7, 7, 7, 7, 7, 7, 7, 7, 7, 7, 7, 7, 7, 7, 7, 7, 7, 7, 7, 7, 7, 7, 7, 7, 8, 8, 8, 8, 8, 8, 8, 8, 8, 8, 8, 8, 8, 8, 8, 8, 8, 8, 8, 8, 8, 8, 8, 8, 8, 8, 8, 8, 8, 8, 8, 8, 8, 8, 8, 8, 8, 8, 8, 8, 8, 8, 8, 8, 8, 8, 8, 8, 8, 8, 8, 8, 8, 8, 8, 8, 8, 8, 8, 8, 8, 8, 8, 8, 8, 8, 8, 8, 8, 8, 8, 8, 8, 8, 8, 8, 8, 8, 8, 8, 8, 8, 8, 8, 8, 8, 8, 8, 8, 8, 8, 8, 8, 8, 8, 8, 8, 8, 8, 8, 8, 8, 8, 8, 8, 8, 8, 8, 8, 8, 8, 8, 8, 8, 8, 8, 8, 8, 8, 8, 8, 8, 8, 8, 8, 8, 8, 8]}) v_19 fun v_20 =>
  hInt .i64 v_20 fun v_21 =>
  hInt .i64 (n_18 + v_21) fun v_22 =>
  R (.returned (.int .i64 v_22))
def F89_j7 (x_11 : Int) (n_12 : Int) (R : Ending → HP → Prop) : HP → Prop :=
  hLet (α := Int × Int × Unit) (fun k_13 => hIf (decide (x_11 ≥ 256))
    (hShr .u64 x_11 8 fun v_14 =>
  hInt .i64 (n_12 + 8) fun v_15 =>
  k_13 (v_14, v_15, ()))
    (k_13 (x_11, n_12, ())))
    (fun x_16 => hAll fun _ => F89_j10 x_16.1 x_16.2.1 R)
def F89_j4 (x_5 : Int) (n_6 : Int) (R : Ending → HP → Prop) : HP → Prop :=
  hLet (α := Int × Int × Unit) (fun k_7 => hIf (decide (x_5 ≥ 65536))
    (hShr .u64 x_5 16 fun v_8 =>
  hInt .i64 (n_6 + 16) fun v_9 =>
  k_7 (v_8, v_9, ()))
    (k_7 (x_5, n_6, ())))
    (fun x_10 => hAll fun _ => F89_j7 x_10.1 x_10.2.1 R)
def F89 (x_1 : Int) (R : Ending → HP → Prop) : HP → Prop :=
  hLet (α := Int × Int × Unit) (fun k_2 => hIf (decide (x_1 ≥ 4294967296))
    (hShr .u64 x_1 32 fun v_3 =>
  k_2 (v_3, 32, ()))
    (k_2 (x_1, 0, ())))
    (fun x_4 => hAll fun _ => F89_j4 x_4.1 x_4.2.1 R)
def ann89 : Ann := { loop := [], cut := [(4, [(0, (Ty.int .u64)), (2, (Ty.int .i64))]), (7, [(0, (Ty.int .u64)), (2, (Ty.int .i64))]), (10, [(0, (Ty.int .u64)), (2, (Ty.int .i64))])] }
theorem den89 (x_1 : Int) (R : Ending → HP → Prop) : denF Tryd.prog ann89 Tryd.f89.ntmps Tryd.f89.results.toList code89 [(.int .u64 x_1)] R = F89 x_1 R := by kernel_rfl
theorem call89 : Callable Tryd.prog 89 := fun a w => Tryd.call89 a w
theorem F89_fn {x_1 : Int} {R : Ending → HP → Prop} {m : HP} (h : F89 x_1 R m) : Does Tryd.prog 89 #[(.int .u64 x_1)] m R :=
  fn_of_den mixed (ann := ann89) Tryd.func89 call89 (c := code89) (by kernel_rfl) (by kernel_rfl) (args := [(.int .u64 x_1)]) (Nat.le_of_ble_eq_true (by kernel_rfl)) (.inl (by kernel_rfl)) (by rw [den89]; exact h)
/-! treadle/pages.of -/
noncomputable def code78 : Code := (Tryd.f78.body).getD .skip
def F78_l3 (b_2 : Nat) (b_7 : Nat) (free_10 : Int) (again_9 : (Int × Unit) → HP → Prop) (R : Ending → HP → Prop) : HP → Prop :=
  hIf (free_10 != 0)
    (hLoad (.int .i64) ⟨b_7, 1, none⟩ fun (v_11 : Int) =>
  hInt .i64 (v_11 + 1) fun v_12 =>
  hStore (.int .i64 v_12) ⟨b_7, 1, none⟩
    (hShr .u64 free_10 1 fun v_13 =>
  again_9 ((bitv .and .u64 free_10 v_13), ())))
    (hLoad (.int .i64) ⟨b_7, 0, none⟩ fun (v_14 : Int) =>
  hLoad (.int .i64) ⟨b_7, 1, none⟩ fun (v_15 : Int) =>
  hLoad (.int .i64) ⟨b_7, 2, none⟩ fun (v_16 : Int) =>
  hLoad (.int .i64) ⟨b_7, 3, none⟩ fun (v_17 : Int) =>
  hStore (.int .i64 v_14) ⟨b_2, 0, none⟩
    (hStore (.int .i64 v_15) ⟨b_2, 1, none⟩
    (hStore (.int .i64 v_16) ⟨b_2, 2, none⟩
    (hStore (.int .i64 v_17) ⟨b_2, 3, none⟩
    (hLoad (.int .i64) ⟨b_2, 0, none⟩ fun (r_18 : Int) =>
  hLoad (.int .i64) ⟨b_2, 1, none⟩ fun (r_19 : Int) =>
  hLoad (.int .i64) ⟨b_2, 2, none⟩ fun (r_20 : Int) =>
  hLoad (.int .i64) ⟨b_2, 3, none⟩ fun (r_21 : Int) =>
  R (.returned (.agg #[(.int .i64 r_18), (.int .i64 r_19), (.int .i64 r_20), (.int .i64 r_21)])))))))
def F78 (w_1 : Int) (R : Ending → HP → Prop) : HP → Prop :=
  hNew #[(.int .i64 0), (.int .i64 0), (.int .i64 0), (.int .i64 0)] 131 fun b_2 =>
  hCall Tryd.prog 51 #[(.int .u64 w_1)] (fun ch => R (.panicked ch)) fun r_3 m => ∃ (v_4 : Int), r_3 = (.int .i64 v_4) ∧ (hCall Tryd.prog 88 #[(.int .u64 w_1)] (fun ch => R (.panicked ch)) fun r_5 m => ∃ (v_6 : Int), r_5 = (.int .i64 v_6) ∧ (hNew #[(.int .i64 0), (.int .i64 0), (.int .i64 0), (.int .i64 0)] 131 fun b_7 =>
  hStore (.int .i64 v_4) ⟨b_7, 0, none⟩
    (hStore (.int .i64 0) ⟨b_7, 1, none⟩
    (hStore (.int .i64 v_6) ⟨b_7, 2, none⟩
    (hStore (.int .i64 64) ⟨b_7, 3, none⟩
    (hLoop (α := Int × Unit) ((bitv .xor .u64 (IntKind.max .u64) w_1), ()) fun x_8 again_9 => hAll fun _ => F78_l3 b_2 b_7 x_8.1 again_9 R))))) m) m
def ann78 : Ann := { loop := [(3, [(4, (Ty.int .u64))])], cut := [] }
theorem den78 (w_1 : Int) (R : Ending → HP → Prop) : denF Tryd.prog ann78 Tryd.f78.ntmps Tryd.f78.results.toList code78 [(.int .u64 w_1)] R = F78 w_1 R := by kernel_rfl
theorem call78 : Callable Tryd.prog 78 := fun a w => Tryd.call78 a w
theorem F78_fn {w_1 : Int} {R : Ending → HP → Prop} {m : HP} (h : F78 w_1 R m) : Does Tryd.prog 78 #[(.int .u64 w_1)] m R :=
  fn_of_den mixed (ann := ann78) Tryd.func78 call78 (c := code78) (by kernel_rfl) (by kernel_rfl) (args := [(.int .u64 w_1)]) (Nat.le_of_ble_eq_true (by kernel_rfl)) (.inl (by kernel_rfl)) (by rw [den78]; exact h)
/-! treadle/pages.both -/
noncomputable def code79 : Code := (Tryd.f79.body).getD .skip
def F79_j6 (b_11 : Nat) (b_22 : Nat) (R : Ending → HP → Prop) : HP → Prop :=
  hLoad (.int .i64) ⟨b_22, 0, none⟩ fun (v_37 : Int) =>
  hLoad (.int .i64) ⟨b_22, 1, none⟩ fun (v_38 : Int) =>
  hLoad (.int .i64) ⟨b_22, 2, none⟩ fun (v_39 : Int) =>
  hLoad (.int .i64) ⟨b_22, 3, none⟩ fun (v_40 : Int) =>
  hStore (.int .i64 v_37) ⟨b_11, 0, none⟩
    (hStore (.int .i64 v_38) ⟨b_11, 1, none⟩
    (hStore (.int .i64 v_39) ⟨b_11, 2, none⟩
    (hStore (.int .i64 v_40) ⟨b_11, 3, none⟩
    (hLoad (.int .i64) ⟨b_11, 0, none⟩ fun (r_41 : Int) =>
  hLoad (.int .i64) ⟨b_11, 1, none⟩ fun (r_42 : Int) =>
  hLoad (.int .i64) ⟨b_11, 2, none⟩ fun (r_43 : Int) =>
  hLoad (.int .i64) ⟨b_11, 3, none⟩ fun (r_44 : Int) =>
  R (.returned (.agg #[(.int .i64 r_41), (.int .i64 r_42), (.int .i64 r_43), (.int .i64 r_44)]))))))
def F79_j4 (b_9 : Nat) (b_10 : Nat) (b_11 : Nat) (b_22 : Nat) (R : Ending → HP → Prop) : HP → Prop :=
  hLet (α := Unit) (fun k_30 => hLoad (.int .i64) ⟨b_10, 2, none⟩ fun (v_31 : Int) =>
  hLoad (.int .i64) ⟨b_10, 3, none⟩ fun (v_32 : Int) =>
  hIf (v_31 == v_32)
    (hLoad (.int .i64) ⟨b_22, 2, none⟩ fun (v_33 : Int) =>
  hLoad (.int .i64) ⟨b_9, 2, none⟩ fun (v_34 : Int) =>
  hInt .i64 (v_33 + v_34) fun v_35 =>
  hStore (.int .i64 v_35) ⟨b_22, 2, none⟩
    (k_30 (())))
    (k_30 (())))
    (fun x_36 => hAll fun _ => F79_j6 b_11 b_22 R)
def F79 (a_1 : Int) (a_2 : Int) (a_3 : Int) (a_4 : Int) (b_5 : Int) (b_6 : Int) (b_7 : Int) (b_8 : Int) (R : Ending → HP → Prop) : HP → Prop :=
  hNew #[(.int .i64 a_1), (.int .i64 a_2), (.int .i64 a_3), (.int .i64 a_4)] 131 fun b_9 =>
  hNew #[(.int .i64 b_5), (.int .i64 b_6), (.int .i64 b_7), (.int .i64 b_8)] 131 fun b_10 =>
  hNew #[(.int .i64 0), (.int .i64 0), (.int .i64 0), (.int .i64 0)] 131 fun b_11 =>
  hLoad (.int .i64) ⟨b_9, 0, none⟩ fun (v_12 : Int) =>
  hLoad (.int .i64) ⟨b_9, 1, none⟩ fun (v_13 : Int) =>
  hLoad (.int .i64) ⟨b_10, 1, none⟩ fun (v_14 : Int) =>
  hLoad (.int .i64) ⟨b_9, 2, none⟩ fun (v_15 : Int) =>
  hLoad (.int .i64) ⟨b_10, 0, none⟩ fun (v_16 : Int) =>
  hInt .i64 (v_15 + v_16) fun v_17 =>
  hLoad (.int .i64) ⟨b_10, 2, none⟩ fun (v_18 : Int) =>
  hLoad (.int .i64) ⟨b_9, 3, none⟩ fun (v_19 : Int) =>
  hLoad (.int .i64) ⟨b_10, 3, none⟩ fun (v_20 : Int) =>
  hInt .i64 (v_19 + v_20) fun v_21 =>
  hNew #[(.int .i64 0), (.int .i64 0), (.int .i64 0), (.int .i64 0)] 131 fun b_22 =>
  hStore (.int .i64 v_12) ⟨b_22, 0, none⟩
    (hStore (.int .i64 (if v_17 > (if v_14 > v_13 then v_14 else v_13) then v_17 else (if v_14 > v_13 then v_14 else v_13))) ⟨b_22, 1, none⟩
    (hStore (.int .i64 v_18) ⟨b_22, 2, none⟩
    (hStore (.int .i64 v_21) ⟨b_22, 3, none⟩
    (hLet (α := Unit) (fun k_23 => hLoad (.int .i64) ⟨b_9, 0, none⟩ fun (v_24 : Int) =>
  hLoad (.int .i64) ⟨b_9, 3, none⟩ fun (v_25 : Int) =>
  hIf (v_24 == v_25)
    (hLoad (.int .i64) ⟨b_22, 0, none⟩ fun (v_26 : Int) =>
  hLoad (.int .i64) ⟨b_10, 0, none⟩ fun (v_27 : Int) =>
  hInt .i64 (v_26 + v_27) fun v_28 =>
  hStore (.int .i64 v_28) ⟨b_22, 0, none⟩
    (k_23 (())))
    (k_23 (())))
    (fun x_29 => hAll fun _ => F79_j4 b_9 b_10 b_11 b_22 R)))))
def ann79 : Ann := { loop := [], cut := [(4, []), (6, [])] }
theorem den79 (a_1 : Int) (a_2 : Int) (a_3 : Int) (a_4 : Int) (b_5 : Int) (b_6 : Int) (b_7 : Int) (b_8 : Int) (R : Ending → HP → Prop) : denF Tryd.prog ann79 Tryd.f79.ntmps Tryd.f79.results.toList code79 [(.agg #[(.int .i64 a_1), (.int .i64 a_2), (.int .i64 a_3), (.int .i64 a_4)]), (.agg #[(.int .i64 b_5), (.int .i64 b_6), (.int .i64 b_7), (.int .i64 b_8)])] R = F79 a_1 a_2 a_3 a_4 b_5 b_6 b_7 b_8 R := by kernel_rfl
theorem call79 : Callable Tryd.prog 79 := fun a w => Tryd.call79 a w
theorem F79_fn {a_1 : Int} {a_2 : Int} {a_3 : Int} {a_4 : Int} {b_5 : Int} {b_6 : Int} {b_7 : Int} {b_8 : Int} {R : Ending → HP → Prop} {m : HP} (h : F79 a_1 a_2 a_3 a_4 b_5 b_6 b_7 b_8 R m) : Does Tryd.prog 79 #[(.agg #[(.int .i64 a_1), (.int .i64 a_2), (.int .i64 a_3), (.int .i64 a_4)]), (.agg #[(.int .i64 b_5), (.int .i64 b_6), (.int .i64 b_7), (.int .i64 b_8)])] m R :=
  fn_of_den mixed (ann := ann79) Tryd.func79 call79 (c := code79) (by kernel_rfl) (by kernel_rfl) (args := [(.agg #[(.int .i64 a_1), (.int .i64 a_2), (.int .i64 a_3), (.int .i64 a_4)]), (.agg #[(.int .i64 b_5), (.int .i64 b_6), (.int .i64 b_7), (.int .i64 b_8)])]) (Nat.le_of_ble_eq_true (by kernel_rfl)) (.inl (by kernel_rfl)) (by rw [den79]; exact h)
/-! treadle/pages.within -/
noncomputable def code80 : Code := (Tryd.f80.body).getD .skip
def F80_l3 (v_3 : Int) (free_6 : Int) (t10_7 : Int) (again_5 : (Int × Int × Unit) → HP → Prop) (R : Ending → HP → Prop) : HP → Prop :=
  hIf (decide (t10_7 < v_3))
    (hShr .u64 free_6 1 fun v_8 =>
  hInt .i64 (t10_7 + 1) fun v_9 =>
  again_5 ((bitv .and .u64 free_6 v_8), v_9, ()))
    (hCall Tryd.prog 51 #[(.int .u64 free_6)] (fun ch => R (.panicked ch)) fun r_10 m => ∃ (v_11 : Int), r_10 = (.int .i64 v_11) ∧ (R (.returned (.int .i64 v_11))) m)
def F80 (w_1 : Int) (n_2 : Int) (R : Ending → HP → Prop) : HP → Prop :=
  hInt .i64 (n_2 - 1) fun v_3 =>
  hLoop (α := Int × Int × Unit) ((bitv .xor .u64 (IntKind.max .u64) w_1), 0, ()) fun x_4 again_5 => hAll fun _ => F80_l3 v_3 x_4.1 x_4.2.1 again_5 R
def ann80 : Ann := { loop := [(3, [(5, (Ty.int .u64)), (10, (Ty.int .i64))])], cut := [] }
theorem den80 (w_1 : Int) (n_2 : Int) (R : Ending → HP → Prop) : denF Tryd.prog ann80 Tryd.f80.ntmps Tryd.f80.results.toList code80 [(.int .u64 w_1), (.int .i64 n_2)] R = F80 w_1 n_2 R := by kernel_rfl
theorem call80 : Callable Tryd.prog 80 := fun a w => Tryd.call80 a w
theorem F80_fn {w_1 : Int} {n_2 : Int} {R : Ending → HP → Prop} {m : HP} (h : F80 w_1 n_2 R m) : Does Tryd.prog 80 #[(.int .u64 w_1), (.int .i64 n_2)] m R :=
  fn_of_den mixed (ann := ann80) Tryd.func80 call80 (c := code80) (by kernel_rfl) (by kernel_rfl) (args := [(.int .u64 w_1), (.int .i64 n_2)]) (Nat.le_of_ble_eq_true (by kernel_rfl)) (.inl (by kernel_rfl)) (by rw [den80]; exact h)
/-! (*treadle/pages.Pages).outside -/
noncomputable def code81 : Code := (Tryd.f81.body).getD .skip
def F81 (p_1 : Option Addr) (base_2 : Int) (n_3 : Int) (R : Ending → HP → Prop) : HP → Prop :=
  hIf (decide (base_2 < 0))
    (R (.returned (.bool true)))
    (hIf (decide (n_3 < 1))
    (R (.returned (.bool true)))
    (hNil p_1 fun a_4 =>
  hLoad (.int .i64) a_4 fun (v_5 : Int) =>
  hIf (decide (base_2 ≥ v_5))
    (R (.returned (.bool true)))
    (hNil p_1 fun a_6 =>
  hLoad (.int .i64) a_6 fun (v_7 : Int) =>
  hInt .i64 (v_7 - base_2) fun v_8 =>
  R (.returned (.bool (decide (n_3 > v_8)))))))
def ann81 : Ann := { loop := [], cut := [] }
theorem den81 (p_1 : Option Addr) (base_2 : Int) (n_3 : Int) (R : Ending → HP → Prop) : denF Tryd.prog ann81 Tryd.f81.ntmps Tryd.f81.results.toList code81 [(.pointer p_1), (.int .i64 base_2), (.int .i64 n_3)] R = F81 p_1 base_2 n_3 R := by kernel_rfl
theorem call81 : Callable Tryd.prog 81 := fun a w => Tryd.call81 a w
theorem F81_fn {p_1 : Option Addr} {base_2 : Int} {n_3 : Int} {R : Ending → HP → Prop} {m : HP} (h : F81 p_1 base_2 n_3 R m) : Does Tryd.prog 81 #[(.pointer p_1), (.int .i64 base_2), (.int .i64 n_3)] m R :=
  fn_of_den mixed (ann := ann81) Tryd.func81 call81 (c := code81) (by kernel_rfl) (by kernel_rfl) (args := [(.pointer p_1), (.int .i64 base_2), (.int .i64 n_3)]) (Nat.le_of_ble_eq_true (by kernel_rfl)) (.inl (by kernel_rfl)) (by rw [den81]; exact h)
/-! (*treadle/pages.Pages).renew -/
noncomputable def code61 : Code := (Tryd.f61.body).getD .skip
def F61_l7 (p_1 : Option Addr) (level_22 : Int) (v_25 : Int) (b_26 : Nat) (v_40 : Sl) (again_20 : (Int × Int × Unit) → HP → Prop) (t60_43 : Int) (again_42 : (Int × Unit) → HP → Prop) (R : Ending → HP → Prop) : HP → Prop :=
  hIf (decide (t60_43 < ((v_40.n : Nat) : Int)))
    (hIdx v_40.a v_40.n t60_43 4 fun a_44 =>
  hLoad (.int .i64) a_44 fun (v_45 : Int) =>
  hLoad (.int .i64) (a_44.add 1) fun (v_46 : Int) =>
  hLoad (.int .i64) (a_44.add 2) fun (v_47 : Int) =>
  hLoad (.int .i64) (a_44.add 3) fun (v_48 : Int) =>
  hNew #[(.int .i64 0), (.int .i64 0), (.int .i64 0), (.int .i64 0)] 131 fun b_49 =>
  hStore (.int .i64 v_45) ⟨b_49, 0, none⟩
    (hStore (.int .i64 v_46) ⟨b_49, 1, none⟩
    (hStore (.int .i64 v_47) ⟨b_49, 2, none⟩
    (hStore (.int .i64 v_48) ⟨b_49, 3, none⟩
    (hLoad (.int .i64) ⟨b_26, 0, none⟩ fun (v_50 : Int) =>
  hLoad (.int .i64) ⟨b_26, 1, none⟩ fun (v_51 : Int) =>
  hLoad (.int .i64) ⟨b_26, 2, none⟩ fun (v_52 : Int) =>
  hLoad (.int .i64) ⟨b_26, 3, none⟩ fun (v_53 : Int) =>
  hLoad (.int .i64) ⟨b_49, 0, none⟩ fun (v_54 : Int) =>
  hLoad (.int .i64) ⟨b_49, 1, none⟩ fun (v_55 : Int) =>
  hLoad (.int .i64) ⟨b_49, 2, none⟩ fun (v_56 : Int) =>
  hLoad (.int .i64) ⟨b_49, 3, none⟩ fun (v_57 : Int) =>
  hCall Tryd.prog 79 #[(.agg #[(.int .i64 v_50), (.int .i64 v_51), (.int .i64 v_52), (.int .i64 v_53)]), (.agg #[(.int .i64 v_54), (.int .i64 v_55), (.int .i64 v_56), (.int .i64 v_57)])] (fun ch => R (.panicked ch)) fun r_58 m => ∃ (r_59 : Int) (r_60 : Int) (r_61 : Int) (r_62 : Int), r_58 = (.agg #[(.int .i64 r_59), (.int .i64 r_60), (.int .i64 r_61), (.int .i64 r_62)]) ∧ (hStore (.int .i64 r_59) ⟨b_26, 0, none⟩
    (hStore (.int .i64 r_60) ⟨b_26, 1, none⟩
    (hStore (.int .i64 r_61) ⟨b_26, 2, none⟩
    (hStore (.int .i64 r_62) ⟨b_26, 3, none⟩
    (hInt .i64 (t60_43 + 1) fun v_63 =>
  again_42 (v_63, ())))))) m)))))
    (hNil p_1 fun a_64 =>
  hLoad .slice (a_64.add 2) fun (v_65 : Sl) =>
  hIdx v_65.a v_65.n level_22 1 fun a_66 =>
  hLoad .slice a_66 fun (v_67 : Sl) =>
  hLoad (.int .i64) ⟨b_26, 0, none⟩ fun (v_68 : Int) =>
  hLoad (.int .i64) ⟨b_26, 1, none⟩ fun (v_69 : Int) =>
  hLoad (.int .i64) ⟨b_26, 2, none⟩ fun (v_70 : Int) =>
  hLoad (.int .i64) ⟨b_26, 3, none⟩ fun (v_71 : Int) =>
  hIdx v_67.a v_67.n v_25 4 fun a_72 =>
  hStore (.int .i64 v_68) a_72
    (hStore (.int .i64 v_69) (a_72.add 1)
    (hStore (.int .i64 v_70) (a_72.add 2)
    (hStore (.int .i64 v_71) (a_72.add 3)
    (hInt .i64 (level_22 + 1) fun v_73 =>
  again_20 (v_25, v_73, ()))))))
def F61_l2 (p_1 : Option Addr) (i_21 : Int) (level_22 : Int) (again_20 : (Int × Int × Unit) → HP → Prop) (R : Ending → HP → Prop) : HP → Prop :=
  hNil p_1 fun a_23 =>
  hLoad .slice (a_23.add 2) fun (v_24 : Sl) =>
  hIf (decide (level_22 < ((v_24.n : Nat) : Int)))
    (hQuo .i64 i_21 8 fun v_25 =>
  hNew #[(.int .i64 0), (.int .i64 0), (.int .i64 0), (.int .i64 0)] 131 fun b_26 =>
  hNil p_1 fun a_27 =>
  hLoad .slice (a_27.add 2) fun (v_28 : Sl) =>
  hInt .i64 (level_22 - 1) fun v_29 =>
  hIdx v_28.a v_28.n v_29 1 fun a_30 =>
  hLoad .slice a_30 fun (v_31 : Sl) =>
  hInt .i64 (8 * v_25) fun v_32 =>
  hInt .i64 (8 * v_25) fun v_33 =>
  hInt .i64 (v_33 + 8) fun v_34 =>
  hNil p_1 fun a_35 =>
  hLoad .slice (a_35.add 2) fun (v_36 : Sl) =>
  hInt .i64 (level_22 - 1) fun v_37 =>
  hIdx v_36.a v_36.n v_37 1 fun a_38 =>
  hLoad .slice a_38 fun (v_39 : Sl) =>
  hCut v_31.a v_31.cap v_32 (if ((v_39.n : Nat) : Int) < v_34 then ((v_39.n : Nat) : Int) else v_34) 4 fun v_40 =>
  hLoop (α := Int × Unit) (0, ()) fun x_41 again_42 => hAll fun _ => F61_l7 p_1 level_22 v_25 b_26 v_40 again_20 x_41.1 again_42 R)
    (R (.returned (.tuple #[])))
def F61 (p_1 : Option Addr) (i_2 : Int) (R : Ending → HP → Prop) : HP → Prop :=
  hNil p_1 fun a_3 =>
  hLoad .slice (a_3.add 2) fun (v_4 : Sl) =>
  hIdx v_4.a v_4.n 0 1 fun a_5 =>
  hLoad .slice a_5 fun (v_6 : Sl) =>
  hNil p_1 fun a_7 =>
  hLoad .slice (a_7.add 1) fun (v_8 : Sl) =>
  hIdx v_8.a v_8.n i_2 1 fun a_9 =>
  hLoad (.int .u64) a_9 fun (v_10 : Int) =>
  hCall Tryd.prog 78 #[(.int .u64 v_10)] (fun ch => R (.panicked ch)) fun r_11 m => ∃ (r_12 : Int) (r_13 : Int) (r_14 : Int) (r_15 : Int), r_11 = (.agg #[(.int .i64 r_12), (.int .i64 r_13), (.int .i64 r_14), (.int .i64 r_15)]) ∧ (hLoad .slice (a_3.add 2) fun (v_16 : Sl) =>
  fun m => ((.slice v_16.a v_16.n v_16.cap) : Value) = (.slice v_4.a v_4.n v_4.cap) ∧ (hLoad .slice a_5 fun (v_17 : Sl) =>
  fun m => ((.slice v_17.a v_17.n v_17.cap) : Value) = (.slice v_6.a v_6.n v_6.cap) ∧ (hIdx v_6.a v_6.n i_2 4 fun a_18 =>
  hStore (.int .i64 r_12) a_18
    (hStore (.int .i64 r_13) (a_18.add 1)
    (hStore (.int .i64 r_14) (a_18.add 2)
    (hStore (.int .i64 r_15) (a_18.add 3)
    (hLoop (α := Int × Int × Unit) (i_2, 1, ()) fun x_19 again_20 => hAll fun _ => F61_l2 p_1 x_19.1 x_19.2.1 again_20 R))))) m) m) m
def ann61 : Ann := { loop := [(2, [(1, (Ty.int .i64)), (4, (Ty.int .i64))]), (7, [(60, (Ty.int .i64))])], cut := [] }
theorem den61 (p_1 : Option Addr) (i_2 : Int) (R : Ending → HP → Prop) : denF Tryd.prog ann61 Tryd.f61.ntmps Tryd.f61.results.toList code61 [(.pointer p_1), (.int .i64 i_2)] R = F61 p_1 i_2 R := by kernel_rfl
theorem call61 : Callable Tryd.prog 61 := fun a w => Tryd.call61 a w
theorem F61_fn {p_1 : Option Addr} {i_2 : Int} {R : Ending → HP → Prop} {m : HP} (h : F61 p_1 i_2 R m) : Does Tryd.prog 61 #[(.pointer p_1), (.int .i64 i_2)] m R :=
  fn_of_den mixed (ann := ann61) Tryd.func61 call61 (c := code61) (by kernel_rfl) (by kernel_rfl) (args := [(.pointer p_1), (.int .i64 i_2)]) (Nat.le_of_ble_eq_true (by kernel_rfl)) (.inl (by kernel_rfl)) (by rw [den61]; exact h)
/-! (*treadle/pages.Pages).first -/
noncomputable def code62 : Code := (Tryd.f62.body).getD .skip
def F62_j16 (t33_17 : Int) (again_15 : (Int × Int × Unit) → HP → Prop) (run_44 : Int) (R : Ending → HP → Prop) : HP → Prop :=
  hInt .i64 (t33_17 + 1) fun v_45 =>
  again_15 (run_44, v_45, ())
def F62_l6 (p_1 : Option Addr) (n_2 : Int) (v_13 : Sl) (run_16 : Int) (t33_17 : Int) (again_15 : (Int × Int × Unit) → HP → Prop) (R : Ending → HP → Prop) : HP → Prop :=
  hIf (decide (t33_17 < ((v_13.n : Nat) : Int)))
    (hLet (α := Int × Unit) (fun k_18 => hIdx v_13.a v_13.n t33_17 1 fun a_19 =>
  hLoad (.int .u64) a_19 fun (v_20 : Int) =>
  hNil p_1 fun a_21 =>
  hLoad .slice (a_21.add 2) fun (v_22 : Sl) =>
  hIdx v_22.a v_22.n 0 1 fun a_23 =>
  hLoad .slice a_23 fun (v_24 : Sl) =>
  hIdx v_24.a v_24.n t33_17 4 fun a_25 =>
  hLoad (.int .i64) a_25 fun (v_26 : Int) =>
  hLoad (.int .i64) (a_25.add 1) fun (v_27 : Int) =>
  hLoad (.int .i64) (a_25.add 2) fun (v_28 : Int) =>
  hLoad (.int .i64) (a_25.add 3) fun (v_29 : Int) =>
  hNew #[(.int .i64 0), (.int .i64 0), (.int .i64 0), (.int .i64 0)] 131 fun b_30 =>
  hStore (.int .i64 v_26) ⟨b_30, 0, none⟩
    (hStore (.int .i64 v_27) ⟨b_30, 1, none⟩
    (hStore (.int .i64 v_28) ⟨b_30, 2, none⟩
    (hStore (.int .i64 v_29) ⟨b_30, 3, none⟩
    (hLoad (.int .i64) ⟨b_30, 0, none⟩ fun (v_31 : Int) =>
  hInt .i64 (run_16 + v_31) fun v_32 =>
  hIf (decide (v_32 ≥ n_2))
    (hInt .i64 (t33_17 * 64) fun v_33 =>
  hInt .i64 (v_33 - run_16) fun v_34 =>
  R (.returned (.int .i64 v_34)))
    (hLoad (.int .i64) ⟨b_30, 1, none⟩ fun (v_35 : Int) =>
  hIf (decide (v_35 ≥ n_2))
    (hInt .i64 (t33_17 * 64) fun v_36 =>
  hCall Tryd.prog 80 #[(.int .u64 v_20), (.int .i64 n_2)] (fun ch => R (.panicked ch)) fun r_37 m => ∃ (v_38 : Int), r_37 = (.int .i64 v_38) ∧ (hInt .i64 (v_36 + v_38) fun v_39 =>
  R (.returned (.int .i64 v_39))) m)
    (hLoad (.int .i64) ⟨b_30, 0, none⟩ fun (v_40 : Int) =>
  hIf (v_40 == 64)
    (hInt .i64 (run_16 + 64) fun v_41 =>
  k_18 (v_41, ()))
    (hLoad (.int .i64) ⟨b_30, 2, none⟩ fun (v_42 : Int) =>
  k_18 (v_42, ())))))))))
    (fun x_43 => hAll fun _ => F62_j16 t33_17 again_15 x_43.1 R))
    (R (.returned (.int .i64 (-1))))
def F62 (p_1 : Option Addr) (n_2 : Int) (R : Ending → HP → Prop) : HP → Prop :=
  hNil p_1 fun a_3 =>
  hLoad .slice (a_3.add 2) fun (v_4 : Sl) =>
  hNil p_1 fun a_5 =>
  hLoad .slice (a_5.add 2) fun (v_6 : Sl) =>
  hInt .i64 (((v_6.n : Nat) : Int) - 1) fun v_7 =>
  hIdx v_4.a v_4.n v_7 1 fun a_8 =>
  hLoad .slice a_8 fun (v_9 : Sl) =>
  hIdx v_9.a v_9.n 0 4 fun a_10 =>
  hLoad (.int .i64) (a_10.add 1) fun (v_11 : Int) =>
  hIf (decide (v_11 < n_2))
    (R (.returned (.int .i64 (-1))))
    (hNil p_1 fun a_12 =>
  hLoad .slice (a_12.add 1) fun (v_13 : Sl) =>
  hLoop (α := Int × Int × Unit) (0, 0, ()) fun x_14 again_15 => hAll fun _ => F62_l6 p_1 n_2 v_13 x_14.1 x_14.2.1 again_15 R)
def ann62 : Ann := { loop := [(6, [(6, (Ty.int .i64)), (33, (Ty.int .i64))])], cut := [(16, [(6, (Ty.int .i64))])] }
theorem den62 (p_1 : Option Addr) (n_2 : Int) (R : Ending → HP → Prop) : denF Tryd.prog ann62 Tryd.f62.ntmps Tryd.f62.results.toList code62 [(.pointer p_1), (.int .i64 n_2)] R = F62 p_1 n_2 R := by kernel_rfl
theorem call62 : Callable Tryd.prog 62 := fun a w => Tryd.call62 a w
theorem F62_fn {p_1 : Option Addr} {n_2 : Int} {R : Ending → HP → Prop} {m : HP} (h : F62 p_1 n_2 R m) : Does Tryd.prog 62 #[(.pointer p_1), (.int .i64 n_2)] m R :=
  fn_of_den mixed (ann := ann62) Tryd.func62 call62 (c := code62) (by kernel_rfl) (by kernel_rfl) (args := [(.pointer p_1), (.int .i64 n_2)]) (Nat.le_of_ble_eq_true (by kernel_rfl)) (.inl (by kernel_rfl)) (by rw [den62]; exact h)
/-! (*treadle/pages.Pages).set -/
noncomputable def code63 : Code := (Tryd.f63.body).getD .skip
def F63_j8 (p_1 : Option Addr) (at_7 : Int) (v_9 : Int) (v_10 : Int) (v_13 : Int) (again_6 : (Int × Unit) → HP → Prop) (R : Ending → HP → Prop) : HP → Prop :=
  hCall Tryd.prog 61 #[(.pointer p_1), (.int .i64 v_9)] (fun ch => R (.panicked ch)) fun _ =>
  hInt .i64 ((if v_13 < 64 then v_13 else 64) - v_10) fun v_30 =>
  hInt .i64 (at_7 + v_30) fun v_31 =>
  again_6 (v_31, ())
def F63_l1 (p_1 : Option Addr) (base_2 : Int) (n_3 : Int) (used_4 : Bool) (at_7 : Int) (again_6 : (Int × Unit) → HP → Prop) (R : Ending → HP → Prop) : HP → Prop :=
  hInt .i64 (base_2 + n_3) fun v_8 =>
  hIf (decide (at_7 < v_8))
    (hQuo .i64 at_7 64 fun v_9 =>
  hRem at_7 64 fun v_10 =>
  hInt .i64 (v_10 + base_2) fun v_11 =>
  hInt .i64 (v_11 + n_3) fun v_12 =>
  hInt .i64 (v_12 - at_7) fun v_13 =>
  hShl .u64 18446744073709551615 v_10 fun v_14 =>
  hInt .i64 (64 - (if v_13 < 64 then v_13 else 64)) fun v_15 =>
  hShr .u64 18446744073709551615 v_15 fun v_16 =>
  hLet (α := Unit) (fun k_17 => hIf used_4
    (hNil p_1 fun a_18 =>
  hLoad .slice (a_18.add 1) fun (v_19 : Sl) =>
  hIdx v_19.a v_19.n v_9 1 fun a_20 =>
  hLoad (.int .u64) a_20 fun (v_21 : Int) =>
  hIdx v_19.a v_19.n v_9 1 fun a_22 =>
  hStore (.int .u64 (bitv .or .u64 v_21 (bitv .and .u64 v_14 v_16))) a_22
    (k_17 (())))
    (hNil p_1 fun a_23 =>
  hLoad .slice (a_23.add 1) fun (v_24 : Sl) =>
  hIdx v_24.a v_24.n v_9 1 fun a_25 =>
  hLoad (.int .u64) a_25 fun (v_26 : Int) =>
  hIdx v_24.a v_24.n v_9 1 fun a_27 =>
  hStore (.int .u64 (bitv .andNot .u64 v_26 (bitv .and .u64 v_14 v_16))) a_27
    (k_17 (()))))
    (fun x_28 => hAll fun _ => F63_j8 p_1 at_7 v_9 v_10 v_13 again_6 R))
    (R (.returned (.tuple #[])))
def F63 (p_1 : Option Addr) (base_2 : Int) (n_3 : Int) (used_4 : Bool) (R : Ending → HP → Prop) : HP → Prop :=
  hLoop (α := Int × Unit) (base_2, ()) fun x_5 again_6 => hAll fun _ => F63_l1 p_1 base_2 n_3 used_4 x_5.1 again_6 R
def ann63 : Ann := { loop := [(1, [(8, (Ty.int .i64))])], cut := [(8, [])] }
theorem den63 (p_1 : Option Addr) (base_2 : Int) (n_3 : Int) (used_4 : Bool) (R : Ending → HP → Prop) : denF Tryd.prog ann63 Tryd.f63.ntmps Tryd.f63.results.toList code63 [(.pointer p_1), (.int .i64 base_2), (.int .i64 n_3), (.bool used_4)] R = F63 p_1 base_2 n_3 used_4 R := by kernel_rfl
theorem call63 : Callable Tryd.prog 63 := fun a w => Tryd.call63 a w
theorem F63_fn {p_1 : Option Addr} {base_2 : Int} {n_3 : Int} {used_4 : Bool} {R : Ending → HP → Prop} {m : HP} (h : F63 p_1 base_2 n_3 used_4 R m) : Does Tryd.prog 63 #[(.pointer p_1), (.int .i64 base_2), (.int .i64 n_3), (.bool used_4)] m R :=
  fn_of_den mixed (ann := ann63) Tryd.func63 call63 (c := code63) (by kernel_rfl) (by kernel_rfl) (args := [(.pointer p_1), (.int .i64 base_2), (.int .i64 n_3), (.bool used_4)]) (Nat.le_of_ble_eq_true (by kernel_rfl)) (.inl (by kernel_rfl)) (by rw [den63]; exact h)
/-! (*treadle/pages.Pages).Used -/
noncomputable def code42 : Code := (Tryd.f42.body).getD .skip
def F42 (p_1 : Option Addr) (at_2 : Int) (R : Ending → HP → Prop) : HP → Prop :=
  hIf (Option.isNone p_1)
    (R (.returned (.bool true)))
    (hIf (decide (at_2 < 0))
    (R (.returned (.bool true)))
    (hNil p_1 fun a_3 =>
  hLoad (.int .i64) a_3 fun (v_4 : Int) =>
  hIf (decide (at_2 ≥ v_4))
    (R (.returned (.bool true)))
    (hNil p_1 fun a_5 =>
  hLoad .slice (a_5.add 1) fun (v_6 : Sl) =>
  hQuo .i64 at_2 64 fun v_7 =>
  hIdx v_6.a v_6.n v_7 1 fun a_8 =>
  hLoad (.int .u64) a_8 fun (v_9 : Int) =>
  hRem at_2 64 fun v_10 =>
  hShr .u64 v_9 v_10 fun v_11 =>
  R (.returned (.bool ((bitv .and .u64 v_11 1) == 1))))))
def ann42 : Ann := { loop := [], cut := [] }
theorem den42 (p_1 : Option Addr) (at_2 : Int) (R : Ending → HP → Prop) : denF Tryd.prog ann42 Tryd.f42.ntmps Tryd.f42.results.toList code42 [(.pointer p_1), (.int .i64 at_2)] R = F42 p_1 at_2 R := by kernel_rfl
theorem call42 : Callable Tryd.prog 42 := fun a w => Tryd.call42 a w
theorem F42_fn {p_1 : Option Addr} {at_2 : Int} {R : Ending → HP → Prop} {m : HP} (h : F42 p_1 at_2 R m) : Does Tryd.prog 42 #[(.pointer p_1), (.int .i64 at_2)] m R :=
  fn_of_den mixed (ann := ann42) Tryd.func42 call42 (c := code42) (by kernel_rfl) (by kernel_rfl) (args := [(.pointer p_1), (.int .i64 at_2)]) (Nat.le_of_ble_eq_true (by kernel_rfl)) (.inl (by kernel_rfl)) (by rw [den42]; exact h)
/-! (*treadle/pages.Pages).turn -/
noncomputable def code65 : Code := (Tryd.f65.body).getD .skip
def F65_l6 (p_1 : Option Addr) (base_2 : Int) (n_3 : Int) (used_4 : Bool) (at_9 : Int) (again_8 : (Int × Unit) → HP → Prop) (R : Ending → HP → Prop) : HP → Prop :=
  hInt .i64 (base_2 + n_3) fun v_10 =>
  hIf (decide (at_9 < v_10))
    (hCall Tryd.prog 42 #[(.pointer p_1), (.int .i64 at_9)] (fun ch => R (.panicked ch)) fun r_11 m => ∃ (v_12 : Bool), r_11 = (.bool v_12) ∧ (hIf (v_12 == used_4)
    (R (.returned (.int .i64 5)))
    (hInt .i64 (at_9 + 1) fun v_13 =>
  again_8 (v_13, ()))) m)
    (hCall Tryd.prog 63 #[(.pointer p_1), (.int .i64 base_2), (.int .i64 n_3), (.bool used_4)] (fun ch => R (.panicked ch)) fun _ =>
  R (.returned (.int .i64 0)))
def F65 (p_1 : Option Addr) (base_2 : Int) (n_3 : Int) (used_4 : Bool) (R : Ending → HP → Prop) : HP → Prop :=
  hIf (Option.isNone p_1)
    (R (.returned (.int .i64 5)))
    (hCall Tryd.prog 81 #[(.pointer p_1), (.int .i64 base_2), (.int .i64 n_3)] (fun ch => R (.panicked ch)) fun r_5 m => ∃ (v_6 : Bool), r_5 = (.bool v_6) ∧ (hIf v_6
    (R (.returned (.int .i64 1)))
    (hLoop (α := Int × Unit) (base_2, ()) fun x_7 again_8 => hAll fun _ => F65_l6 p_1 base_2 n_3 used_4 x_7.1 again_8 R)) m)
def ann65 : Ann := { loop := [(6, [(9, (Ty.int .i64))])], cut := [] }
theorem den65 (p_1 : Option Addr) (base_2 : Int) (n_3 : Int) (used_4 : Bool) (R : Ending → HP → Prop) : denF Tryd.prog ann65 Tryd.f65.ntmps Tryd.f65.results.toList code65 [(.pointer p_1), (.int .i64 base_2), (.int .i64 n_3), (.bool used_4)] R = F65 p_1 base_2 n_3 used_4 R := by kernel_rfl
theorem call65 : Callable Tryd.prog 65 := fun a w => Tryd.call65 a w
theorem F65_fn {p_1 : Option Addr} {base_2 : Int} {n_3 : Int} {used_4 : Bool} {R : Ending → HP → Prop} {m : HP} (h : F65 p_1 base_2 n_3 used_4 R m) : Does Tryd.prog 65 #[(.pointer p_1), (.int .i64 base_2), (.int .i64 n_3), (.bool used_4)] m R :=
  fn_of_den mixed (ann := ann65) Tryd.func65 call65 (c := code65) (by kernel_rfl) (by kernel_rfl) (args := [(.pointer p_1), (.int .i64 base_2), (.int .i64 n_3), (.bool used_4)]) (Nat.le_of_ble_eq_true (by kernel_rfl)) (.inl (by kernel_rfl)) (by rw [den65]; exact h)
/-! treadle/pages.New -/
noncomputable def code36 : Code := (Tryd.f36.body).getD .skip
def F36_l11 (b_6 : Nat) (v_32 : Sl) (t64_35 : Int) (again_34 : (Int × Unit) → HP → Prop) (R : Ending → HP → Prop) : HP → Prop :=
  hIf (decide (t64_35 < ((v_32.n : Nat) : Int)))
    (hCall Tryd.prog 61 #[(.pointer (some ⟨b_6, 0, none⟩)), (.int .i64 t64_35)] (fun ch => R (.panicked ch)) fun _ =>
  hInt .i64 (t64_35 + 1) fun v_37 =>
  again_34 (v_37, ()))
    (R (.returned (.tuple #[(.pointer (some ⟨b_6, 0, none⟩)), (.int .i64 0)])))
def F36_l8 (b_6 : Nat) (k_22 : Int) (again_21 : (Int × Unit) → HP → Prop) (R : Ending → HP → Prop) : HP → Prop :=
  hNil (some ⟨b_6, 0, none⟩) fun a_23 =>
  hLoad .slice (a_23.add 2) fun (v_24 : Sl) =>
  hMake 4 32 #[(.int .i64 0), (.int .i64 0), (.int .i64 0), (.int .i64 0)] 131 k_22 k_22 fun b_25 =>
  hLoad .slice (a_23.add 2) fun (v_26 : Sl) =>
  fun m => ((.slice v_26.a v_26.n v_26.cap) : Value) = (.slice v_24.a v_24.n v_24.cap) ∧ (hNew #[(.slice (some ⟨b_25, 0, none⟩) (Int.toNat k_22) (Int.toNat k_22))] 123 fun b_27 =>
  hLoad .slice (a_23.add 2) fun (v_28 : Sl) =>
  fun m => ((.slice v_28.a v_28.n v_28.cap) : Value) = (.slice v_24.a v_24.n v_24.cap) ∧ (hAppend 1 24 #[(.slice none 0 0)] 123 ⟨v_24.a, v_24.n, v_24.cap⟩ ⟨(some ⟨b_27, 0, none⟩), 1, 1⟩ fun v_29 =>
  hNil (some ⟨b_6, 0, none⟩) fun a_30 =>
  hStore (.slice v_29.a v_29.n v_29.cap) (a_30.add 2)
    (hIf (k_22 == 1)
    (hNil (some ⟨b_6, 0, none⟩) fun a_31 =>
  hLoad .slice (a_31.add 1) fun (v_32 : Sl) =>
  hLoop (α := Int × Unit) (0, ()) fun x_33 again_34 => hAll fun _ => F36_l11 b_6 v_32 x_33.1 again_34 R)
    (hInt .i64 (k_22 + 7) fun v_38 =>
  hQuo .i64 v_38 8 fun v_39 =>
  again_21 (v_39, ())))) m) m
def F36_j6 (b_6 : Nat) (R : Ending → HP → Prop) : HP → Prop :=
  hNil (some ⟨b_6, 0, none⟩) fun a_18 =>
  hLoad .slice (a_18.add 1) fun (v_19 : Sl) =>
  hLoop (α := Int × Unit) (((v_19.n : Nat) : Int), ()) fun x_20 again_21 => hAll fun _ => F36_l8 b_6 x_20.1 again_21 R
def F36 (n_1 : Int) (R : Ending → HP → Prop) : HP → Prop :=
  hIf (decide (n_1 < 1))
    (R (.returned (.tuple #[(.pointer none), (.int .i64 1)])))
    (hIf (decide (n_1 > 4096))
    (R (.returned (.tuple #[(.pointer none), (.int .i64 1)])))
    (hInt .i64 (n_1 + 64) fun v_2 =>
  hInt .i64 (v_2 - 1) fun v_3 =>
  hQuo .i64 v_3 64 fun v_4 =>
  hMake 1 8 #[(.int .u64 0)] 105 v_4 v_4 fun b_5 =>
  hNew #[(.int .i64 n_1), (.slice (some ⟨b_5, 0, none⟩) (Int.toNat v_4) (Int.toNat v_4)), (.slice none 0 0)] 122 fun b_6 =>
  hLet (α := Unit) (fun k_7 => hRem n_1 64 fun v_8 =>
  hIf (v_8 != 0)
    (hNil (some ⟨b_6, 0, none⟩) fun a_9 =>
  hLoad .slice (a_9.add 1) fun (v_10 : Sl) =>
  hNil (some ⟨b_6, 0, none⟩) fun a_11 =>
  hLoad .slice (a_11.add 1) fun (v_12 : Sl) =>
  hInt .i64 (((v_12.n : Nat) : Int) - 1) fun v_13 =>
  hRem n_1 64 fun v_14 =>
  hShl .u64 18446744073709551615 v_14 fun v_15 =>
  hIdx v_10.a v_10.n v_13 1 fun a_16 =>
  hStore (.int .u64 v_15) a_16
    (k_7 (())))
    (k_7 (())))
    (fun x_17 => hAll fun _ => F36_j6 b_6 R)))
def ann36 : Ann := { loop := [(8, [(5, (Ty.int .i64))]), (11, [(64, (Ty.int .i64))])], cut := [(6, [])] }
theorem den36 (n_1 : Int) (R : Ending → HP → Prop) : denF Tryd.prog ann36 Tryd.f36.ntmps Tryd.f36.results.toList code36 [(.int .i64 n_1)] R = F36 n_1 R := by kernel_rfl
theorem call36 : Callable Tryd.prog 36 := fun a w => Tryd.call36 a w
theorem F36_fn {n_1 : Int} {R : Ending → HP → Prop} {m : HP} (h : F36 n_1 R m) : Does Tryd.prog 36 #[(.int .i64 n_1)] m R :=
  fn_of_den mixed (ann := ann36) Tryd.func36 call36 (c := code36) (by kernel_rfl) (by kernel_rfl) (args := [(.int .i64 n_1)]) (Nat.le_of_ble_eq_true (by kernel_rfl)) (.inl (by kernel_rfl)) (by rw [den36]; exact h)
/-! (*treadle/pages.Pages).Alloc -/
noncomputable def code38 : Code := (Tryd.f38.body).getD .skip
def F38 (p_1 : Option Addr) (n_2 : Int) (R : Ending → HP → Prop) : HP → Prop :=
  hIf (Option.isNone p_1)
    (R (.returned (.tuple #[(.int .i64 0), (.int .i64 5)])))
    (hIf (decide (n_2 < 1))
    (R (.returned (.tuple #[(.int .i64 0), (.int .i64 1)])))
    (hCall Tryd.prog 62 #[(.pointer p_1), (.int .i64 n_2)] (fun ch => R (.panicked ch)) fun r_3 m => ∃ (v_4 : Int), r_3 = (.int .i64 v_4) ∧ (hIf (decide (v_4 < 0))
    (R (.returned (.tuple #[(.int .i64 0), (.int .i64 3)])))
    (hCall Tryd.prog 63 #[(.pointer p_1), (.int .i64 v_4), (.int .i64 n_2), (.bool true)] (fun ch => R (.panicked ch)) fun _ =>
  R (.returned (.tuple #[(.int .i64 v_4), (.int .i64 0)])))) m))
def ann38 : Ann := { loop := [], cut := [] }
theorem den38 (p_1 : Option Addr) (n_2 : Int) (R : Ending → HP → Prop) : denF Tryd.prog ann38 Tryd.f38.ntmps Tryd.f38.results.toList code38 [(.pointer p_1), (.int .i64 n_2)] R = F38 p_1 n_2 R := by kernel_rfl
theorem call38 : Callable Tryd.prog 38 := fun a w => Tryd.call38 a w
theorem F38_fn {p_1 : Option Addr} {n_2 : Int} {R : Ending → HP → Prop} {m : HP} (h : F38 p_1 n_2 R m) : Does Tryd.prog 38 #[(.pointer p_1), (.int .i64 n_2)] m R :=
  fn_of_den mixed (ann := ann38) Tryd.func38 call38 (c := code38) (by kernel_rfl) (by kernel_rfl) (args := [(.pointer p_1), (.int .i64 n_2)]) (Nat.le_of_ble_eq_true (by kernel_rfl)) (.inl (by kernel_rfl)) (by rw [den38]; exact h)
/-! (*treadle/pages.Pages).Free -/
noncomputable def code40 : Code := (Tryd.f40.body).getD .skip
def F40 (p_1 : Option Addr) (base_2 : Int) (n_3 : Int) (R : Ending → HP → Prop) : HP → Prop :=
  hCall Tryd.prog 65 #[(.pointer p_1), (.int .i64 base_2), (.int .i64 n_3), (.bool false)] (fun ch => R (.panicked ch)) fun r_4 m => ∃ (v_5 : Int), r_4 = (.int .i64 v_5) ∧ (R (.returned (.int .i64 v_5))) m
def ann40 : Ann := { loop := [], cut := [] }
theorem den40 (p_1 : Option Addr) (base_2 : Int) (n_3 : Int) (R : Ending → HP → Prop) : denF Tryd.prog ann40 Tryd.f40.ntmps Tryd.f40.results.toList code40 [(.pointer p_1), (.int .i64 base_2), (.int .i64 n_3)] R = F40 p_1 base_2 n_3 R := by kernel_rfl
theorem call40 : Callable Tryd.prog 40 := fun a w => Tryd.call40 a w
theorem F40_fn {p_1 : Option Addr} {base_2 : Int} {n_3 : Int} {R : Ending → HP → Prop} {m : HP} (h : F40 p_1 base_2 n_3 R m) : Does Tryd.prog 40 #[(.pointer p_1), (.int .i64 base_2), (.int .i64 n_3)] m R :=
  fn_of_den mixed (ann := ann40) Tryd.func40 call40 (c := code40) (by kernel_rfl) (by kernel_rfl) (args := [(.pointer p_1), (.int .i64 base_2), (.int .i64 n_3)]) (Nat.le_of_ble_eq_true (by kernel_rfl)) (.inl (by kernel_rfl)) (by rw [den40]; exact h)
/-! (*treadle/pages.Pages).Runs -/
noncomputable def code66 : Code := (Tryd.f66.body).getD .skip
def F66 (p_1 : Option Addr) (R : Ending → HP → Prop) : HP → Prop :=
  hNew #[(.pointer p_1)] 80 fun b_2 =>
  R (.returned (.func (.func 82) #[] #[(.pointer (some ⟨b_2, 0, none⟩))]))
def ann66 : Ann := { loop := [], cut := [] }
theorem den66 (p_1 : Option Addr) (R : Ending → HP → Prop) : denF Tryd.prog ann66 Tryd.f66.ntmps Tryd.f66.results.toList code66 [(.pointer p_1)] R = F66 p_1 R := by kernel_rfl
theorem call66 : Callable Tryd.prog 66 := fun a w => Tryd.call66 a w
theorem F66_fn {p_1 : Option Addr} {R : Ending → HP → Prop} {m : HP} (h : F66 p_1 R m) : Does Tryd.prog 66 #[(.pointer p_1)] m R :=
  fn_of_den mixed (ann := ann66) Tryd.func66 call66 (c := code66) (by kernel_rfl) (by kernel_rfl) (args := [(.pointer p_1)]) (Nat.le_of_ble_eq_true (by kernel_rfl)) (.inl (by kernel_rfl)) (by rw [den66]; exact h)
/-! (*treadle/pages.Pages).Runs$1 -/
noncomputable def code82 : Code := (Tryd.f82.body).getD .skip
def F82_l5 (l : Nat) (c0_1 : Addr) (at_5 : Int) (again_4 : (Int × Unit) → HP → Prop) (n_11 : Int) (again_10 : (Int × Unit) → HP → Prop) (R : Ending → HP → Prop) : HP → Prop :=
  hLoad .ptr c0_1 fun (v_12 : Option Addr) =>
  hInt .i64 (at_5 + n_11) fun v_13 =>
  hCall Tryd.prog 42 #[(.pointer v_12), (.int .i64 v_13)] (fun ch => R (.panicked ch)) fun r_14 m => ∃ (v_15 : Bool), r_14 = (.bool v_15) ∧ (hIf (!v_15)
    (hInt .i64 (n_11 + 1) fun v_16 =>
  again_10 (v_16, ()))
    (hIf (decide (n_11 > 0))
    (hYield Tryd.prog l #[(.int .i64 at_5), (.int .i64 n_11)] (fun ch => R (.panicked ch)) fun r_17 m => ∃ (v_18 : Bool), r_17 = (.bool v_18) ∧ (hIf (!v_18)
    (R (.returned (.tuple #[])))
    (hInt .i64 (at_5 + n_11) fun v_19 =>
  hInt .i64 (v_19 + 1) fun v_20 =>
  again_4 (v_20, ()))) m)
    (hInt .i64 (at_5 + n_11) fun v_21 =>
  hInt .i64 (v_21 + 1) fun v_22 =>
  again_4 (v_22, ())))) m
def F82_l2 (l : Nat) (c0_1 : Addr) (at_5 : Int) (again_4 : (Int × Unit) → HP → Prop) (R : Ending → HP → Prop) : HP → Prop :=
  hLoad .ptr c0_1 fun (v_6 : Option Addr) =>
  hNil v_6 fun a_7 =>
  hLoad (.int .i64) a_7 fun (v_8 : Int) =>
  hIf (decide (at_5 < v_8))
    (hLoop (α := Int × Unit) (0, ()) fun x_9 again_10 => hAll fun _ => F82_l5 l c0_1 at_5 again_4 x_9.1 again_10 R)
    (R (.returned (.tuple #[])))
def F82 (l : Nat) (c0_1 : Addr) (R : Ending → HP → Prop) : HP → Prop :=
  hLoad .ptr c0_1 fun (v_2 : Option Addr) =>
  hIf (Option.isNone v_2)
    (R (.returned (.tuple #[])))
    (hLoop (α := Int × Unit) (0, ()) fun x_3 again_4 => hAll fun _ => F82_l2 l c0_1 x_3.1 again_4 R)
def ann82 : Ann := { loop := [(2, [(3, (Ty.int .i64))]), (5, [(4, (Ty.int .i64))])], cut := [] }
theorem den82 (l : Nat) (c0_1 : Addr) (R : Ending → HP → Prop) : denF Tryd.prog ann82 Tryd.f82.ntmps Tryd.f82.results.toList code82 [(.func (.yield l) #[] #[]), (.pointer (some c0_1))] R = F82 l c0_1 R := by kernel_rfl
theorem call82 : Callable Tryd.prog 82 := fun a w => Tryd.call82 a w
theorem F82_fn {l : Nat} {c0_1 : Addr} {R : Ending → HP → Prop} {m : HP} (h : F82 l c0_1 R m) : Does Tryd.prog 82 #[(.func (.yield l) #[] #[]), (.pointer (some c0_1))] m R :=
  fn_of_den mixed (ann := ann82) Tryd.func82 call82 (c := code82) (by kernel_rfl) (by kernel_rfl) (args := [(.func (.yield l) #[] #[]), (.pointer (some c0_1))]) (Nat.le_of_ble_eq_true (by kernel_rfl)) (.inl (by kernel_rfl)) (by rw [den82]; exact h)
/-! (*treadle/pages.Pages).Counts -/
noncomputable def code43 : Code := (Tryd.f43.body).getD .skip
def F43 (p_1 : Option Addr) (R : Ending → HP → Prop) : HP → Prop :=
  hIf (Option.isNone p_1)
    (R (.returned (.tuple #[(.int .i64 0), (.int .i64 0)])))
    (hNew #[(.int .i64 0)] 3 fun b_2 =>
  hStore (.int .i64 0) ⟨b_2, 0, none⟩
    (hCall Tryd.prog 66 #[(.pointer p_1)] (fun ch => R (.panicked ch)) fun r_3 m => ∃ (v_4 : Value), r_3 = v_4 ∧ (hRange Tryd.prog 32 v_4 [(4, (.pointer (some ⟨b_2, 0, none⟩)))] (rangeAt 0 code43) (fun r_5 =>
  hLoad (.int .i64) ⟨b_2, 0, none⟩ fun (v_17 : Int) =>
  hNil p_1 fun a_18 =>
  hLoad .slice (a_18.add 2) fun (v_19 : Sl) =>
  hNil p_1 fun a_20 =>
  hLoad .slice (a_20.add 2) fun (v_21 : Sl) =>
  hInt .i64 (((v_21.n : Nat) : Int) - 1) fun v_22 =>
  hIdx v_19.a v_19.n v_22 1 fun a_23 =>
  hLoad .slice a_23 fun (v_24 : Sl) =>
  hIdx v_24.a v_24.n 0 4 fun a_25 =>
  hLoad (.int .i64) (a_25.add 1) fun (v_26 : Int) =>
  fun m => ∃ m', m = pt r_5 (.deferred (some [])) + m' ∧ (R (.returned (.tuple #[(.int .i64 v_17), (.int .i64 v_26)]))) m')
   (fun r_5 =>
  fun m => ∃ m', m = pt r_5 (.deferred (some [])) + m' ∧ (R (.returned (.tuple #[(.int .i64 0), (.int .i64 0)]))) m')
   (fun i_6 r_5 =>
  hPick (i_6 == 0)
    (hLoad (.int .i64) ⟨b_2, 0, none⟩ fun (v_7 : Int) =>
  hNil p_1 fun a_8 =>
  hLoad .slice (a_8.add 2) fun (v_9 : Sl) =>
  hNil p_1 fun a_10 =>
  hLoad .slice (a_10.add 2) fun (v_11 : Sl) =>
  hInt .i64 (((v_11.n : Nat) : Int) - 1) fun v_12 =>
  hIdx v_9.a v_9.n v_12 1 fun a_13 =>
  hLoad .slice a_13 fun (v_14 : Sl) =>
  hIdx v_14.a v_14.n 0 4 fun a_15 =>
  hLoad (.int .i64) (a_15.add 1) fun (v_16 : Int) =>
  fun m => ∃ m', m = pt r_5 (.deferred (some [])) + m' ∧ (R (.returned (.tuple #[(.int .i64 v_7), (.int .i64 v_16)]))) m')
    (no))) m))
def ann43 : Ann := { loop := [], cut := [], range := [(6, [4])] }
theorem den43 (p_1 : Option Addr) (R : Ending → HP → Prop) : denF Tryd.prog ann43 Tryd.f43.ntmps Tryd.f43.results.toList code43 [(.pointer p_1)] R = F43 p_1 R := by kernel_rfl
theorem call43 : Callable Tryd.prog 43 := fun a w => Tryd.call43 a w
theorem F43_fn {p_1 : Option Addr} {R : Ending → HP → Prop} {m : HP} (hR : ∀ ch m, ¬ R (.panicked ch) m) (h : F43 p_1 R m) : Does Tryd.prog 43 #[(.pointer p_1)] m R :=
  fn_of_den mixed (ann := ann43) Tryd.func43 call43 (c := code43) (by kernel_rfl) (by kernel_rfl) (args := [(.pointer p_1)]) (Nat.le_of_ble_eq_true (by kernel_rfl)) (.inr hR) (by rw [den43]; exact h)
def F43_r0 (a_27 : Addr) (y_28 : Value) (y_29 : Int) (l : Nat) (rc : Loop) (R : Ending → HP → Prop) : HP → Prop :=
  hAll fun _ =>
  hRec l rc (rcBusy rc) (
  hLoad (.int .i64) a_27 fun (v_30 : Int) =>
  hInt .i64 (v_30 + y_29) fun v_31 =>
  hStore (.int .i64 v_31) a_27
    (hRec l (rcBusy rc) (rcNext rc) (R (.returned (.bool true)))))
theorem round43_0 (a_27 : Addr) (y_28 : Value) (y_29 : Int) (l : Nat) (rc : Loop) (R : Ending → HP → Prop) : denRound Tryd.prog ann43 32 [(4, (.pointer (some a_27)))] (rangeAt 0 code43) l rc [y_28, (.int .i64 y_29)] R = F43_r0 a_27 y_28 y_29 l rc R := by kernel_rfl
theorem F43_y0 {a_27 : Addr} {y_28 : Value} {y_29 : Int} {l : Nat} {rc : Loop} {R : Ending → HP → Prop} {m m0 : HP} {rc0 : Loop} (hl : IsLoop 32 [(4, (.pointer (some a_27)))] (rangeAt 0 code43) rc0) (hrc : rc = { rc0 with state := .ready, pending := none }) (hm : m = pt l (.loop rc) + m0) (h : F43_r0 a_27 y_28 y_29 l rc R m) : HYield Tryd.prog l #[y_28, (.int .i64 y_29)] m R :=
  yield_of_den mixed (ann := ann43) (args := [y_28, (.int .i64 y_29)]) hl hrc (by kernel_rfl) hm (by rw [round43_0]; exact h)
end Go.Proofs.YtolfcdjbchdkgaaDoor
