/- The predicates of functions of the program, printed by a program of this session (wip/tools/prt.py) out of Lean's own print of the loaded functions. -/
import Derived.Test.YtolfcdjbchdkgaaDoorP0
namespace Go.Proofs.YtolfcdjbchdkgaaDoor
open Go Go.Hp
set_option maxRecDepth 100000
/-! treadle/treadleref05.New -/
noncomputable def code9 : Code := (Tryd.f9.body).getD .skip
def F9 (n_1 : Int) (R : Ending → HP → Prop) : HP → Prop :=
  hCall Tryd.prog 37 #[(.int .i64 n_1)] (fun ch => R (.panicked ch)) fun r_2 m => ∃ (v_3 : Option Addr) (v_4 : Int), r_2 = (.tuple #[(.pointer v_3), (.int .i64 v_4)]) ∧ (hIf (v_4 != 0)
    (R (.returned (.tuple #[(.pointer none), (.int .i64 v_4)])))
    (hNew #[(.pointer v_3), (.slice none 0 0)] 48 fun b_5 =>
  R (.returned (.tuple #[(.pointer (some ⟨b_5, 0, none⟩)), (.int .i64 0)])))) m
def ann9 : Ann := { loop := [], cut := [] }
theorem den9 (n_1 : Int) (R : Ending → HP → Prop) : denF Tryd.prog ann9 Tryd.f9.ntmps Tryd.f9.results.toList code9 [(.int .i64 n_1)] R = F9 n_1 R := by kernel_rfl
theorem call9 : Callable Tryd.prog 9 := fun a w => Tryd.call9 a w
theorem F9_fn {n_1 : Int} {R : Ending → HP → Prop} {m : HP} (h : F9 n_1 R m) : Does Tryd.prog 9 #[(.int .i64 n_1)] m R :=
  fn_of_den mixed (ann := ann9) Tryd.func9 call9 (c := code9) (by kernel_rfl) (by kernel_rfl) (args := [(.int .i64 n_1)]) (Nat.le_of_ble_eq_true (by kernel_rfl)) (.inl (by kernel_rfl)) (by rw [den9]; exact h)
/-! (*treadle/treadleref05.Table).Alloc -/
noncomputable def code12 : Code := (Tryd.f12.body).getD .skip
def F12_j13 (t_1 : Option Addr) (i_18 : Int) (again_15 : (Sl × Bool × Int × Unit) → HP → Prop) (list_32 : Sl) (done_33 : Bool) (R : Ending → HP → Prop) : HP → Prop :=
  hNil t_1 fun a_34 =>
  hLoad .slice (a_34.add 1) fun (v_35 : Sl) =>
  hIdx v_35.a v_35.n i_18 3 fun a_36 =>
  hLoad (.int .i64) a_36 fun (v_37 : Int) =>
  hLoad (.int .i64) (a_36.add 1) fun (v_38 : Int) =>
  hLoad (.int .i64) (a_36.add 2) fun (v_39 : Int) =>
  hNew #[(.int .i64 v_37), (.int .i64 v_38), (.int .i64 v_39)] 34 fun b_40 =>
  hAppend 3 24 #[(.int .i64 0), (.int .i64 0), (.int .i64 0)] 34 ⟨list_32.a, list_32.n, list_32.cap⟩ ⟨(some ⟨b_40, 0, none⟩), 1, 1⟩ fun v_41 =>
  hInt .i64 (i_18 + 1) fun v_42 =>
  again_15 (v_41, done_33, v_42, ())
def F12_j16 (t_1 : Option Addr) (b_4 : Nat) (b_13 : Nat) (list_50 : Sl) (R : Ending → HP → Prop) : HP → Prop :=
  hNil t_1 fun a_51 =>
  hStore (.slice list_50.a list_50.n list_50.cap) (a_51.add 1)
    (hLoad (.int .i64) ⟨b_13, 0, none⟩ fun (v_52 : Int) =>
  hLoad (.int .i64) ⟨b_13, 1, none⟩ fun (v_53 : Int) =>
  hLoad (.int .i64) ⟨b_13, 2, none⟩ fun (v_54 : Int) =>
  hStore (.int .i64 v_52) ⟨b_4, 0, none⟩
    (hStore (.int .i64 v_53) ⟨b_4, 1, none⟩
    (hStore (.int .i64 v_54) ⟨b_4, 2, none⟩
    (hLoad (.int .i64) ⟨b_4, 0, none⟩ fun (r_55 : Int) =>
  hLoad (.int .i64) ⟨b_4, 1, none⟩ fun (r_56 : Int) =>
  hLoad (.int .i64) ⟨b_4, 2, none⟩ fun (r_57 : Int) =>
  R (.returned (.tuple #[(.agg #[(.int .i64 r_55), (.int .i64 r_56), (.int .i64 r_57)]), (.int .i64 0)]))))))
def F12_l8 (t_1 : Option Addr) (b_4 : Nat) (v_8 : Int) (b_13 : Nat) (list_16 : Sl) (done_17 : Bool) (i_18 : Int) (again_15 : (Sl × Bool × Int × Unit) → HP → Prop) (R : Ending → HP → Prop) : HP → Prop :=
  hNil t_1 fun a_19 =>
  hLoad .slice (a_19.add 1) fun (v_20 : Sl) =>
  hIf (decide (i_18 < ((v_20.n : Nat) : Int)))
    (hLet (α := Sl × Bool × Unit) (fun k_21 => hIf (!done_17)
    (hNil t_1 fun a_22 =>
  hLoad .slice (a_22.add 1) fun (v_23 : Sl) =>
  hIdx v_23.a v_23.n i_18 3 fun a_24 =>
  hLoad (.int .i64) a_24 fun (v_25 : Int) =>
  hIf (decide (v_25 > v_8))
    (hLoad (.int .i64) ⟨b_13, 0, none⟩ fun (v_26 : Int) =>
  hLoad (.int .i64) ⟨b_13, 1, none⟩ fun (v_27 : Int) =>
  hLoad (.int .i64) ⟨b_13, 2, none⟩ fun (v_28 : Int) =>
  hNew #[(.int .i64 v_26), (.int .i64 v_27), (.int .i64 v_28)] 34 fun b_29 =>
  hAppend 3 24 #[(.int .i64 0), (.int .i64 0), (.int .i64 0)] 34 ⟨list_16.a, list_16.n, list_16.cap⟩ ⟨(some ⟨b_29, 0, none⟩), 1, 1⟩ fun v_30 =>
  k_21 (v_30, true, ()))
    (k_21 (list_16, done_17, ())))
    (k_21 (list_16, done_17, ())))
    (fun x_31 => hAll fun _ => F12_j13 t_1 i_18 again_15 x_31.1 x_31.2.1 R))
    (hLet (α := Sl × Unit) (fun k_43 => hIf (!done_17)
    (hLoad (.int .i64) ⟨b_13, 0, none⟩ fun (v_44 : Int) =>
  hLoad (.int .i64) ⟨b_13, 1, none⟩ fun (v_45 : Int) =>
  hLoad (.int .i64) ⟨b_13, 2, none⟩ fun (v_46 : Int) =>
  hNew #[(.int .i64 v_44), (.int .i64 v_45), (.int .i64 v_46)] 34 fun b_47 =>
  hAppend 3 24 #[(.int .i64 0), (.int .i64 0), (.int .i64 0)] 34 ⟨list_16.a, list_16.n, list_16.cap⟩ ⟨(some ⟨b_47, 0, none⟩), 1, 1⟩ fun v_48 =>
  k_43 (v_48, ()))
    (k_43 (list_16, ())))
    (fun x_49 => hAll fun _ => F12_j16 t_1 b_4 b_13 x_49.1 R))
def F12 (t_1 : Option Addr) (n_2 : Int) (tag_3 : Int) (R : Ending → HP → Prop) : HP → Prop :=
  hNew #[(.int .i64 0), (.int .i64 0), (.int .i64 0)] 34 fun b_4 =>
  hNil t_1 fun a_5 =>
  hLoad .ptr a_5 fun (v_6 : Option Addr) =>
  hCall Tryd.prog 39 #[(.pointer v_6), (.int .i64 n_2)] (fun ch => R (.panicked ch)) fun r_7 m => ∃ (v_8 : Int) (v_9 : Int), r_7 = (.tuple #[(.int .i64 v_8), (.int .i64 v_9)]) ∧ (hIf (v_9 != 0)
    (hStore (.int .i64 0) ⟨b_4, 0, none⟩
    (hStore (.int .i64 0) ⟨b_4, 1, none⟩
    (hStore (.int .i64 0) ⟨b_4, 2, none⟩
    (hLoad (.int .i64) ⟨b_4, 0, none⟩ fun (r_10 : Int) =>
  hLoad (.int .i64) ⟨b_4, 1, none⟩ fun (r_11 : Int) =>
  hLoad (.int .i64) ⟨b_4, 2, none⟩ fun (r_12 : Int) =>
  R (.returned (.tuple #[(.agg #[(.int .i64 r_10), (.int .i64 r_11), (.int .i64 r_12)]), (.int .i64 v_9)]))))))
    (hNew #[(.int .i64 0), (.int .i64 0), (.int .i64 0)] 34 fun b_13 =>
  hStore (.int .i64 v_8) ⟨b_13, 0, none⟩
    (hStore (.int .i64 n_2) ⟨b_13, 1, none⟩
    (hStore (.int .i64 tag_3) ⟨b_13, 2, none⟩
    (hLoop (α := Sl × Bool × Int × Unit) ((⟨none, 0, 0⟩ : Sl), false, 0, ()) fun x_14 again_15 => hAll fun _ => F12_l8 t_1 b_4 v_8 b_13 x_14.1 x_14.2.1 x_14.2.2.1 again_15 R))))) m
def ann12 : Ann := { loop := [(8, [(11, Ty.slice), (12, Ty.bool), (13, (Ty.int .i64))])], cut := [(13, [(11, Ty.slice), (12, Ty.bool)]), (16, [(11, Ty.slice)])] }
theorem den12 (t_1 : Option Addr) (n_2 : Int) (tag_3 : Int) (R : Ending → HP → Prop) : denF Tryd.prog ann12 Tryd.f12.ntmps Tryd.f12.results.toList code12 [(.pointer t_1), (.int .i64 n_2), (.int .i64 tag_3)] R = F12 t_1 n_2 tag_3 R := by kernel_rfl
theorem call12 : Callable Tryd.prog 12 := fun a w => Tryd.call12 a w
theorem F12_fn {t_1 : Option Addr} {n_2 : Int} {tag_3 : Int} {R : Ending → HP → Prop} {m : HP} (h : F12 t_1 n_2 tag_3 R m) : Does Tryd.prog 12 #[(.pointer t_1), (.int .i64 n_2), (.int .i64 tag_3)] m R :=
  fn_of_den mixed (ann := ann12) Tryd.func12 call12 (c := code12) (by kernel_rfl) (by kernel_rfl) (args := [(.pointer t_1), (.int .i64 n_2), (.int .i64 tag_3)]) (Nat.le_of_ble_eq_true (by kernel_rfl)) (.inl (by kernel_rfl)) (by rw [den12]; exact h)
/-! (*treadle/treadleref05.Table).Free -/
noncomputable def code14 : Code := (Tryd.f14.body).getD .skip
def F14_j5 (i_7 : Int) (again_5 : (Sl × Int × Unit) → HP → Prop) (list_30 : Sl) (R : Ending → HP → Prop) : HP → Prop :=
  hInt .i64 (i_7 + 1) fun v_31 =>
  again_5 (list_30, v_31, ())
def F14_l4 (t_1 : Option Addr) (base_2 : Int) (b_3 : Nat) (list_6 : Sl) (i_7 : Int) (again_5 : (Sl × Int × Unit) → HP → Prop) (R : Ending → HP → Prop) : HP → Prop :=
  hNil t_1 fun a_8 =>
  hLoad .slice (a_8.add 1) fun (v_9 : Sl) =>
  hIf (decide (i_7 < ((v_9.n : Nat) : Int)))
    (hLet (α := Sl × Unit) (fun k_10 => hNil t_1 fun a_11 =>
  hLoad .slice (a_11.add 1) fun (v_12 : Sl) =>
  hIdx v_12.a v_12.n i_7 3 fun a_13 =>
  hLoad (.int .i64) a_13 fun (v_14 : Int) =>
  hIf (v_14 == base_2)
    (hNil t_1 fun a_15 =>
  hLoad .slice (a_15.add 1) fun (v_16 : Sl) =>
  hIdx v_16.a v_16.n i_7 3 fun a_17 =>
  hLoad (.int .i64) a_17 fun (v_18 : Int) =>
  hLoad (.int .i64) (a_17.add 1) fun (v_19 : Int) =>
  hLoad (.int .i64) (a_17.add 2) fun (v_20 : Int) =>
  hStore (.int .i64 v_18) ⟨b_3, 0, none⟩
    (hStore (.int .i64 v_19) ⟨b_3, 1, none⟩
    (hStore (.int .i64 v_20) ⟨b_3, 2, none⟩
    (k_10 (list_6, ())))))
    (hNil t_1 fun a_21 =>
  hLoad .slice (a_21.add 1) fun (v_22 : Sl) =>
  hIdx v_22.a v_22.n i_7 3 fun a_23 =>
  hLoad (.int .i64) a_23 fun (v_24 : Int) =>
  hLoad (.int .i64) (a_23.add 1) fun (v_25 : Int) =>
  hLoad (.int .i64) (a_23.add 2) fun (v_26 : Int) =>
  hNew #[(.int .i64 v_24), (.int .i64 v_25), (.int .i64 v_26)] 34 fun b_27 =>
  hAppend 3 24 #[(.int .i64 0), (.int .i64 0), (.int .i64 0)] 34 ⟨list_6.a, list_6.n, list_6.cap⟩ ⟨(some ⟨b_27, 0, none⟩), 1, 1⟩ fun v_28 =>
  k_10 (v_28, ())))
    (fun x_29 => hAll fun _ => F14_j5 i_7 again_5 x_29.1 R))
    (hLoad (.int .i64) ⟨b_3, 1, none⟩ fun (v_32 : Int) =>
  hIf (v_32 == 0)
    (R (.returned (.int .i64 4)))
    (hNil t_1 fun a_33 =>
  hStore (.slice list_6.a list_6.n list_6.cap) (a_33.add 1)
    (hNil t_1 fun a_34 =>
  hLoad .ptr a_34 fun (v_35 : Option Addr) =>
  hLoad (.int .i64) ⟨b_3, 1, none⟩ fun (v_36 : Int) =>
  hCall Tryd.prog 41 #[(.pointer v_35), (.int .i64 base_2), (.int .i64 v_36), (.bool false)] (fun ch => R (.panicked ch)) fun r_37 m => ∃ (v_38 : Int), r_37 = (.int .i64 v_38) ∧ (R (.returned (.int .i64 0))) m)))
def F14 (t_1 : Option Addr) (base_2 : Int) (R : Ending → HP → Prop) : HP → Prop :=
  hNew #[(.int .i64 0), (.int .i64 0), (.int .i64 0)] 34 fun b_3 =>
  hStore (.int .i64 0) ⟨b_3, 0, none⟩
    (hStore (.int .i64 0) ⟨b_3, 1, none⟩
    (hStore (.int .i64 0) ⟨b_3, 2, none⟩
    (hLoop (α := Sl × Int × Unit) ((⟨none, 0, 0⟩ : Sl), 0, ()) fun x_4 again_5 => hAll fun _ => F14_l4 t_1 base_2 b_3 x_4.1 x_4.2.1 again_5 R)))
def ann14 : Ann := { loop := [(4, [(5, Ty.slice), (7, (Ty.int .i64))])], cut := [(5, [(5, Ty.slice)])] }
theorem den14 (t_1 : Option Addr) (base_2 : Int) (R : Ending → HP → Prop) : denF Tryd.prog ann14 Tryd.f14.ntmps Tryd.f14.results.toList code14 [(.pointer t_1), (.int .i64 base_2)] R = F14 t_1 base_2 R := by kernel_rfl
theorem call14 : Callable Tryd.prog 14 := fun a w => Tryd.call14 a w
theorem F14_fn {t_1 : Option Addr} {base_2 : Int} {R : Ending → HP → Prop} {m : HP} (h : F14 t_1 base_2 R m) : Does Tryd.prog 14 #[(.pointer t_1), (.int .i64 base_2)] m R :=
  fn_of_den mixed (ann := ann14) Tryd.func14 call14 (c := code14) (by kernel_rfl) (by kernel_rfl) (args := [(.pointer t_1), (.int .i64 base_2)]) (Nat.le_of_ble_eq_true (by kernel_rfl)) (.inl (by kernel_rfl)) (by rw [den14]; exact h)
/-! (*treadle/treadleref05.Table).Find -/
noncomputable def code16 : Code := (Tryd.f16.body).getD .skip
def F16_l2 (t_1 : Option Addr) (page_2 : Int) (b_3 : Nat) (i_6 : Int) (again_5 : (Int × Unit) → HP → Prop) (R : Ending → HP → Prop) : HP → Prop :=
  hNil t_1 fun a_7 =>
  hLoad .slice (a_7.add 1) fun (v_8 : Sl) =>
  hIf (decide (i_6 < ((v_8.n : Nat) : Int)))
    (hNil t_1 fun a_9 =>
  hLoad .slice (a_9.add 1) fun (v_10 : Sl) =>
  hIdx v_10.a v_10.n i_6 3 fun a_11 =>
  hLoad (.int .i64) a_11 fun (v_12 : Int) =>
  hLoad (.int .i64) (a_11.add 1) fun (v_13 : Int) =>
  hLoad (.int .i64) (a_11.add 2) fun (v_14 : Int) =>
  hNew #[(.int .i64 0), (.int .i64 0), (.int .i64 0)] 34 fun b_15 =>
  hStore (.int .i64 v_12) ⟨b_15, 0, none⟩
    (hStore (.int .i64 v_13) ⟨b_15, 1, none⟩
    (hStore (.int .i64 v_14) ⟨b_15, 2, none⟩
    (hLoad (.int .i64) ⟨b_15, 0, none⟩ fun (v_16 : Int) =>
  hIf (decide (page_2 ≥ v_16))
    (hLoad (.int .i64) ⟨b_15, 0, none⟩ fun (v_17 : Int) =>
  hInt .i64 (page_2 - v_17) fun v_18 =>
  hLoad (.int .i64) ⟨b_15, 1, none⟩ fun (v_19 : Int) =>
  hIf (decide (v_18 < v_19))
    (hLoad (.int .i64) ⟨b_15, 0, none⟩ fun (v_20 : Int) =>
  hLoad (.int .i64) ⟨b_15, 1, none⟩ fun (v_21 : Int) =>
  hLoad (.int .i64) ⟨b_15, 2, none⟩ fun (v_22 : Int) =>
  hStore (.int .i64 v_20) ⟨b_3, 0, none⟩
    (hStore (.int .i64 v_21) ⟨b_3, 1, none⟩
    (hStore (.int .i64 v_22) ⟨b_3, 2, none⟩
    (hLoad (.int .i64) ⟨b_3, 0, none⟩ fun (r_23 : Int) =>
  hLoad (.int .i64) ⟨b_3, 1, none⟩ fun (r_24 : Int) =>
  hLoad (.int .i64) ⟨b_3, 2, none⟩ fun (r_25 : Int) =>
  R (.returned (.tuple #[(.agg #[(.int .i64 r_23), (.int .i64 r_24), (.int .i64 r_25)]), (.bool true)]))))))
    (hInt .i64 (i_6 + 1) fun v_26 =>
  again_5 (v_26, ())))
    (hInt .i64 (i_6 + 1) fun v_27 =>
  again_5 (v_27, ()))))))
    (hStore (.int .i64 0) ⟨b_3, 0, none⟩
    (hStore (.int .i64 0) ⟨b_3, 1, none⟩
    (hStore (.int .i64 0) ⟨b_3, 2, none⟩
    (hLoad (.int .i64) ⟨b_3, 0, none⟩ fun (r_28 : Int) =>
  hLoad (.int .i64) ⟨b_3, 1, none⟩ fun (r_29 : Int) =>
  hLoad (.int .i64) ⟨b_3, 2, none⟩ fun (r_30 : Int) =>
  R (.returned (.tuple #[(.agg #[(.int .i64 r_28), (.int .i64 r_29), (.int .i64 r_30)]), (.bool false)]))))))
def F16 (t_1 : Option Addr) (page_2 : Int) (R : Ending → HP → Prop) : HP → Prop :=
  hNew #[(.int .i64 0), (.int .i64 0), (.int .i64 0)] 34 fun b_3 =>
  hLoop (α := Int × Unit) (0, ()) fun x_4 again_5 => hAll fun _ => F16_l2 t_1 page_2 b_3 x_4.1 again_5 R
def ann16 : Ann := { loop := [(2, [(6, (Ty.int .i64))])], cut := [] }
theorem den16 (t_1 : Option Addr) (page_2 : Int) (R : Ending → HP → Prop) : denF Tryd.prog ann16 Tryd.f16.ntmps Tryd.f16.results.toList code16 [(.pointer t_1), (.int .i64 page_2)] R = F16 t_1 page_2 R := by kernel_rfl
theorem call16 : Callable Tryd.prog 16 := fun a w => Tryd.call16 a w
theorem F16_fn {t_1 : Option Addr} {page_2 : Int} {R : Ending → HP → Prop} {m : HP} (h : F16 t_1 page_2 R m) : Does Tryd.prog 16 #[(.pointer t_1), (.int .i64 page_2)] m R :=
  fn_of_den mixed (ann := ann16) Tryd.func16 call16 (c := code16) (by kernel_rfl) (by kernel_rfl) (args := [(.pointer t_1), (.int .i64 page_2)]) (Nat.le_of_ble_eq_true (by kernel_rfl)) (.inl (by kernel_rfl)) (by rw [den16]; exact h)
/-! (*treadle/treadleref04.Pages).Counts -/
noncomputable def code18 : Code := (Tryd.f18.body).getD .skip
def F18_j4 (at_6 : Int) (again_3 : (Int × Int × Int × Unit) → HP → Prop) (free_18 : Int) (most_19 : Int) (R : Ending → HP → Prop) : HP → Prop :=
  hInt .i64 (at_6 + 1) fun v_20 =>
  again_3 (free_18, most_19, v_20, ())
def F18_l3 (p_1 : Option Addr) (free_4 : Int) (most_5 : Int) (at_6 : Int) (again_3 : (Int × Int × Int × Unit) → HP → Prop) (R : Ending → HP → Prop) : HP → Prop :=
  hNil p_1 fun a_7 =>
  hLoad .slice a_7 fun (v_8 : Sl) =>
  hIf (decide (at_6 < ((v_8.n : Nat) : Int)))
    (hLet (α := Int × Int × Unit) (fun k_9 => hNil p_1 fun a_10 =>
  hLoad .slice a_10 fun (v_11 : Sl) =>
  hIdx v_11.a v_11.n at_6 1 fun a_12 =>
  hLoad .bool a_12 fun (v_13 : Bool) =>
  hIf (!v_13)
    (hInt .i64 (free_4 + 1) fun v_14 =>
  hCall Tryd.prog 44 #[(.pointer p_1), (.int .i64 at_6)] (fun ch => R (.panicked ch)) fun r_15 m => ∃ (v_16 : Int), r_15 = (.int .i64 v_16) ∧ (hIf (decide (v_16 > most_5))
    (k_9 (v_14, v_16, ()))
    (k_9 (v_14, most_5, ()))) m)
    (k_9 (free_4, most_5, ())))
    (fun x_17 => hAll fun _ => F18_j4 at_6 again_3 x_17.1 x_17.2.1 R))
    (R (.returned (.tuple #[(.int .i64 free_4), (.int .i64 most_5)])))
def F18 (p_1 : Option Addr) (R : Ending → HP → Prop) : HP → Prop :=
  hLoop (α := Int × Int × Int × Unit) (0, 0, 0, ()) fun x_2 again_3 => hAll fun _ => F18_l3 p_1 x_2.1 x_2.2.1 x_2.2.2.1 again_3 R
def ann18 : Ann := { loop := [(3, [(4, (Ty.int .i64)), (5, (Ty.int .i64)), (6, (Ty.int .i64))])], cut := [(4, [(4, (Ty.int .i64)), (5, (Ty.int .i64))])] }
theorem den18 (p_1 : Option Addr) (R : Ending → HP → Prop) : denF Tryd.prog ann18 Tryd.f18.ntmps Tryd.f18.results.toList code18 [(.pointer p_1)] R = F18 p_1 R := by kernel_rfl
theorem call18 : Callable Tryd.prog 18 := fun a w => Tryd.call18 a w
theorem F18_fn {p_1 : Option Addr} {R : Ending → HP → Prop} {m : HP} (h : F18 p_1 R m) : Does Tryd.prog 18 #[(.pointer p_1)] m R :=
  fn_of_den mixed (ann := ann18) Tryd.func18 call18 (c := code18) (by kernel_rfl) (by kernel_rfl) (args := [(.pointer p_1)]) (Nat.le_of_ble_eq_true (by kernel_rfl)) (.inl (by kernel_rfl)) (by rw [den18]; exact h)
/-! treadle/treadleref05.Same -/
noncomputable def code20 : Code := (Tryd.f20.body).getD .skip
def F20_l4 (a_1 : Sl) (b_2 : Sl) (i_5 : Int) (again_4 : (Int × Unit) → HP → Prop) (R : Ending → HP → Prop) : HP → Prop :=
  hIf (decide (i_5 < ((a_1.n : Nat) : Int)))
    (hIdx a_1.a a_1.n i_5 3 fun a_6 =>
  hLoad (.int .i64) a_6 fun (v_7 : Int) =>
  hLoad (.int .i64) (a_6.add 1) fun (v_8 : Int) =>
  hLoad (.int .i64) (a_6.add 2) fun (v_9 : Int) =>
  hIdx b_2.a b_2.n i_5 3 fun a_10 =>
  hLoad (.int .i64) a_10 fun (v_11 : Int) =>
  hLoad (.int .i64) (a_10.add 1) fun (v_12 : Int) =>
  hLoad (.int .i64) (a_10.add 2) fun (v_13 : Int) =>
  hEq Tryd.prog .neq 34 (.tmp 20) (.tmp 24) (.agg #[(.int .i64 v_7), (.int .i64 v_8), (.int .i64 v_9)]) (.agg #[(.int .i64 v_11), (.int .i64 v_12), (.int .i64 v_13)]) fun e_14 =>
  hIf (!e_14)
    (R (.returned (.bool false)))
    (hInt .i64 (i_5 + 1) fun v_15 =>
  again_4 (v_15, ())))
    (R (.returned (.bool true)))
def F20 (a_1 : Sl) (b_2 : Sl) (R : Ending → HP → Prop) : HP → Prop :=
  hIf (((a_1.n : Nat) : Int) != ((b_2.n : Nat) : Int))
    (R (.returned (.bool false)))
    (hLoop (α := Int × Unit) (0, ()) fun x_3 again_4 => hAll fun _ => F20_l4 a_1 b_2 x_3.1 again_4 R)
def ann20 : Ann := { loop := [(4, [(5, (Ty.int .i64))])], cut := [] }
theorem den20 (a_1 : Sl) (b_2 : Sl) (R : Ending → HP → Prop) : denF Tryd.prog ann20 Tryd.f20.ntmps Tryd.f20.results.toList code20 [(.slice a_1.a a_1.n a_1.cap), (.slice b_2.a b_2.n b_2.cap)] R = F20 a_1 b_2 R := by kernel_rfl
theorem call20 : Callable Tryd.prog 20 := fun a w => Tryd.call20 a w
theorem F20_fn {a_1 : Sl} {b_2 : Sl} {R : Ending → HP → Prop} {m : HP} (h : F20 a_1 b_2 R m) : Does Tryd.prog 20 #[(.slice a_1.a a_1.n a_1.cap), (.slice b_2.a b_2.n b_2.cap)] m R :=
  fn_of_den mixed (ann := ann20) Tryd.func20 call20 (c := code20) (by kernel_rfl) (by kernel_rfl) (args := [(.slice a_1.a a_1.n a_1.cap), (.slice b_2.a b_2.n b_2.cap)]) (Nat.le_of_ble_eq_true (by kernel_rfl)) (.inl (by kernel_rfl)) (by rw [den20]; exact h)
/-! treadle/treadleref04.New -/
noncomputable def code37 : Code := (Tryd.f37.body).getD .skip
def F37 (n_1 : Int) (R : Ending → HP → Prop) : HP → Prop :=
  hIf (decide (n_1 < 1))
    (R (.returned (.tuple #[(.pointer none), (.int .i64 1)])))
    (hIf (decide (n_1 > 4096))
    (R (.returned (.tuple #[(.pointer none), (.int .i64 1)])))
    (hMake 1 1 #[(.bool false)] 4 n_1 n_1 fun b_2 =>
  hNew #[(.slice (some ⟨b_2, 0, none⟩) (Int.toNat n_1) (Int.toNat n_1))] 92 fun b_3 =>
  R (.returned (.tuple #[(.pointer (some ⟨b_3, 0, none⟩)), (.int .i64 0)]))))
def ann37 : Ann := { loop := [], cut := [] }
theorem den37 (n_1 : Int) (R : Ending → HP → Prop) : denF Tryd.prog ann37 Tryd.f37.ntmps Tryd.f37.results.toList code37 [(.int .i64 n_1)] R = F37 n_1 R := by kernel_rfl
theorem call37 : Callable Tryd.prog 37 := fun a w => Tryd.call37 a w
theorem F37_fn {n_1 : Int} {R : Ending → HP → Prop} {m : HP} (h : F37 n_1 R m) : Does Tryd.prog 37 #[(.int .i64 n_1)] m R :=
  fn_of_den mixed (ann := ann37) Tryd.func37 call37 (c := code37) (by kernel_rfl) (by kernel_rfl) (args := [(.int .i64 n_1)]) (Nat.le_of_ble_eq_true (by kernel_rfl)) (.inl (by kernel_rfl)) (by rw [den37]; exact h)
/-! (*treadle/treadleref04.Pages).Alloc -/
noncomputable def code39 : Code := (Tryd.f39.body).getD .skip
def F39_l4 (p_1 : Option Addr) (n_2 : Int) (at_5 : Int) (again_4 : (Int × Unit) → HP → Prop) (R : Ending → HP → Prop) : HP → Prop :=
  hNil p_1 fun a_6 =>
  hLoad .slice a_6 fun (v_7 : Sl) =>
  hIf (decide (at_5 < ((v_7.n : Nat) : Int)))
    (hCall Tryd.prog 44 #[(.pointer p_1), (.int .i64 at_5)] (fun ch => R (.panicked ch)) fun r_8 m => ∃ (v_9 : Int), r_8 = (.int .i64 v_9) ∧ (hIf (decide (v_9 ≥ n_2))
    (hCall Tryd.prog 64 #[(.pointer p_1), (.int .i64 at_5), (.int .i64 n_2), (.bool true)] (fun ch => R (.panicked ch)) fun _ =>
  R (.returned (.tuple #[(.int .i64 at_5), (.int .i64 0)])))
    (hInt .i64 (at_5 + v_9) fun v_11 =>
  hInt .i64 (v_11 + 1) fun v_12 =>
  again_4 (v_12, ()))) m)
    (R (.returned (.tuple #[(.int .i64 0), (.int .i64 3)])))
def F39 (p_1 : Option Addr) (n_2 : Int) (R : Ending → HP → Prop) : HP → Prop :=
  hIf (decide (n_2 < 1))
    (R (.returned (.tuple #[(.int .i64 0), (.int .i64 1)])))
    (hLoop (α := Int × Unit) (0, ()) fun x_3 again_4 => hAll fun _ => F39_l4 p_1 n_2 x_3.1 again_4 R)
def ann39 : Ann := { loop := [(4, [(6, (Ty.int .i64))])], cut := [] }
theorem den39 (p_1 : Option Addr) (n_2 : Int) (R : Ending → HP → Prop) : denF Tryd.prog ann39 Tryd.f39.ntmps Tryd.f39.results.toList code39 [(.pointer p_1), (.int .i64 n_2)] R = F39 p_1 n_2 R := by kernel_rfl
theorem call39 : Callable Tryd.prog 39 := fun a w => Tryd.call39 a w
theorem F39_fn {p_1 : Option Addr} {n_2 : Int} {R : Ending → HP → Prop} {m : HP} (h : F39 p_1 n_2 R m) : Does Tryd.prog 39 #[(.pointer p_1), (.int .i64 n_2)] m R :=
  fn_of_den mixed (ann := ann39) Tryd.func39 call39 (c := code39) (by kernel_rfl) (by kernel_rfl) (args := [(.pointer p_1), (.int .i64 n_2)]) (Nat.le_of_ble_eq_true (by kernel_rfl)) (.inl (by kernel_rfl)) (by rw [den39]; exact h)
/-! (*treadle/treadleref04.Pages).Turn -/
noncomputable def code41 : Code := (Tryd.f41.body).getD .skip
def F41_l4 (p_1 : Option Addr) (base_2 : Int) (n_3 : Int) (used_4 : Bool) (i_12 : Int) (again_11 : (Int × Unit) → HP → Prop) (R : Ending → HP → Prop) : HP → Prop :=
  hInt .i64 (base_2 + n_3) fun v_13 =>
  hIf (decide (i_12 < v_13))
    (hNil p_1 fun a_14 =>
  hLoad .slice a_14 fun (v_15 : Sl) =>
  hIdx v_15.a v_15.n i_12 1 fun a_16 =>
  hLoad .bool a_16 fun (v_17 : Bool) =>
  hIf (v_17 == used_4)
    (R (.returned (.int .i64 5)))
    (hInt .i64 (i_12 + 1) fun v_18 =>
  again_11 (v_18, ())))
    (hCall Tryd.prog 64 #[(.pointer p_1), (.int .i64 base_2), (.int .i64 n_3), (.bool used_4)] (fun ch => R (.panicked ch)) fun _ =>
  R (.returned (.int .i64 0)))
def F41 (p_1 : Option Addr) (base_2 : Int) (n_3 : Int) (used_4 : Bool) (R : Ending → HP → Prop) : HP → Prop :=
  hIf (decide (base_2 < 0))
    (R (.returned (.int .i64 1)))
    (hIf (decide (n_3 < 1))
    (R (.returned (.int .i64 1)))
    (hNil p_1 fun a_5 =>
  hLoad .slice a_5 fun (v_6 : Sl) =>
  hIf (decide (base_2 ≥ ((v_6.n : Nat) : Int)))
    (R (.returned (.int .i64 1)))
    (hNil p_1 fun a_7 =>
  hLoad .slice a_7 fun (v_8 : Sl) =>
  hInt .i64 (((v_8.n : Nat) : Int) - base_2) fun v_9 =>
  hIf (decide (n_3 > v_9))
    (R (.returned (.int .i64 1)))
    (hLoop (α := Int × Unit) (base_2, ()) fun x_10 again_11 => hAll fun _ => F41_l4 p_1 base_2 n_3 used_4 x_10.1 again_11 R))))
def ann41 : Ann := { loop := [(4, [(9, (Ty.int .i64))])], cut := [] }
theorem den41 (p_1 : Option Addr) (base_2 : Int) (n_3 : Int) (used_4 : Bool) (R : Ending → HP → Prop) : denF Tryd.prog ann41 Tryd.f41.ntmps Tryd.f41.results.toList code41 [(.pointer p_1), (.int .i64 base_2), (.int .i64 n_3), (.bool used_4)] R = F41 p_1 base_2 n_3 used_4 R := by kernel_rfl
theorem call41 : Callable Tryd.prog 41 := fun a w => Tryd.call41 a w
theorem F41_fn {p_1 : Option Addr} {base_2 : Int} {n_3 : Int} {used_4 : Bool} {R : Ending → HP → Prop} {m : HP} (h : F41 p_1 base_2 n_3 used_4 R m) : Does Tryd.prog 41 #[(.pointer p_1), (.int .i64 base_2), (.int .i64 n_3), (.bool used_4)] m R :=
  fn_of_den mixed (ann := ann41) Tryd.func41 call41 (c := code41) (by kernel_rfl) (by kernel_rfl) (args := [(.pointer p_1), (.int .i64 base_2), (.int .i64 n_3), (.bool used_4)]) (Nat.le_of_ble_eq_true (by kernel_rfl)) (.inl (by kernel_rfl)) (by rw [den41]; exact h)
/-! (*treadle/treadleref04.Pages).Run -/
noncomputable def code44 : Code := (Tryd.f44.body).getD .skip
def F44_l2 (p_1 : Option Addr) (at_2 : Int) (n_5 : Int) (again_4 : (Int × Unit) → HP → Prop) (R : Ending → HP → Prop) : HP → Prop :=
  hInt .i64 (at_2 + n_5) fun v_6 =>
  hNil p_1 fun a_7 =>
  hLoad .slice a_7 fun (v_8 : Sl) =>
  hIf (decide (v_6 < ((v_8.n : Nat) : Int)))
    (hNil p_1 fun a_9 =>
  hLoad .slice a_9 fun (v_10 : Sl) =>
  hInt .i64 (at_2 + n_5) fun v_11 =>
  hIdx v_10.a v_10.n v_11 1 fun a_12 =>
  hLoad .bool a_12 fun (v_13 : Bool) =>
  hIf (!v_13)
    (hInt .i64 (n_5 + 1) fun v_14 =>
  again_4 (v_14, ()))
    (R (.returned (.int .i64 n_5))))
    (R (.returned (.int .i64 n_5)))
def F44 (p_1 : Option Addr) (at_2 : Int) (R : Ending → HP → Prop) : HP → Prop :=
  hLoop (α := Int × Unit) (0, ()) fun x_3 again_4 => hAll fun _ => F44_l2 p_1 at_2 x_3.1 again_4 R
def ann44 : Ann := { loop := [(2, [(5, (Ty.int .i64))])], cut := [] }
theorem den44 (p_1 : Option Addr) (at_2 : Int) (R : Ending → HP → Prop) : denF Tryd.prog ann44 Tryd.f44.ntmps Tryd.f44.results.toList code44 [(.pointer p_1), (.int .i64 at_2)] R = F44 p_1 at_2 R := by kernel_rfl
theorem call44 : Callable Tryd.prog 44 := fun a w => Tryd.call44 a w
theorem F44_fn {p_1 : Option Addr} {at_2 : Int} {R : Ending → HP → Prop} {m : HP} (h : F44 p_1 at_2 R m) : Does Tryd.prog 44 #[(.pointer p_1), (.int .i64 at_2)] m R :=
  fn_of_den mixed (ann := ann44) Tryd.func44 call44 (c := code44) (by kernel_rfl) (by kernel_rfl) (args := [(.pointer p_1), (.int .i64 at_2)]) (Nat.le_of_ble_eq_true (by kernel_rfl)) (.inl (by kernel_rfl)) (by rw [den44]; exact h)
/-! (*treadle/treadleref04.Pages).set -/
noncomputable def code64 : Code := (Tryd.f64.body).getD .skip
def F64_l1 (p_1 : Option Addr) (base_2 : Int) (n_3 : Int) (used_4 : Bool) (i_7 : Int) (again_6 : (Int × Unit) → HP → Prop) (R : Ending → HP → Prop) : HP → Prop :=
  hInt .i64 (base_2 + n_3) fun v_8 =>
  hIf (decide (i_7 < v_8))
    (hNil p_1 fun a_9 =>
  hLoad .slice a_9 fun (v_10 : Sl) =>
  hIdx v_10.a v_10.n i_7 1 fun a_11 =>
  hStore (.bool used_4) a_11
    (hInt .i64 (i_7 + 1) fun v_12 =>
  again_6 (v_12, ())))
    (R (.returned (.tuple #[])))
def F64 (p_1 : Option Addr) (base_2 : Int) (n_3 : Int) (used_4 : Bool) (R : Ending → HP → Prop) : HP → Prop :=
  hLoop (α := Int × Unit) (base_2, ()) fun x_5 again_6 => hAll fun _ => F64_l1 p_1 base_2 n_3 used_4 x_5.1 again_6 R
def ann64 : Ann := { loop := [(1, [(8, (Ty.int .i64))])], cut := [] }
theorem den64 (p_1 : Option Addr) (base_2 : Int) (n_3 : Int) (used_4 : Bool) (R : Ending → HP → Prop) : denF Tryd.prog ann64 Tryd.f64.ntmps Tryd.f64.results.toList code64 [(.pointer p_1), (.int .i64 base_2), (.int .i64 n_3), (.bool used_4)] R = F64 p_1 base_2 n_3 used_4 R := by kernel_rfl
theorem call64 : Callable Tryd.prog 64 := fun a w => Tryd.call64 a w
theorem F64_fn {p_1 : Option Addr} {base_2 : Int} {n_3 : Int} {used_4 : Bool} {R : Ending → HP → Prop} {m : HP} (h : F64 p_1 base_2 n_3 used_4 R m) : Does Tryd.prog 64 #[(.pointer p_1), (.int .i64 base_2), (.int .i64 n_3), (.bool used_4)] m R :=
  fn_of_den mixed (ann := ann64) Tryd.func64 call64 (c := code64) (by kernel_rfl) (by kernel_rfl) (args := [(.pointer p_1), (.int .i64 base_2), (.int .i64 n_3), (.bool used_4)]) (Nat.le_of_ble_eq_true (by kernel_rfl)) (.inl (by kernel_rfl)) (by rw [den64]; exact h)
end Go.Proofs.YtolfcdjbchdkgaaDoor
