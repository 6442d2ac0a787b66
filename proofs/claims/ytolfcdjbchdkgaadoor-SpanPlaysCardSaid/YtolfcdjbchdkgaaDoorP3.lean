/- The predicates of functions of the program, printed by a program of this session (wip/tools/prt.py) out of Lean's own print of the loaded functions. -/
import Derived.Test.YtolfcdjbchdkgaaDoorP0
namespace Go.Proofs.YtolfcdjbchdkgaaDoor
open Go Go.Hp
set_option maxRecDepth 100000
/-! treadle/span.New -/
noncomputable def code8 : Code := (Tryd.f8.body).getD .skip
def F8 (n_1 : Int) (R : Ending → HP → Prop) : HP → Prop :=
  hCall Tryd.prog 36 #[(.int .i64 n_1)] (fun ch => R (.panicked ch)) fun r_2 m => ∃ (v_3 : Option Addr) (v_4 : Int), r_2 = (.tuple #[(.pointer v_3), (.int .i64 v_4)]) ∧ (hIf (v_4 != 0)
    (R (.returned (.tuple #[(.pointer none), (.int .i64 v_4)])))
    (fun m => (hMake 3 24 #[(.int .i64 0), (.int .i64 0), (.int .i64 0)] 34 n_1 n_1 fun b_5 =>
  hMake 1 8 #[(.int .i64 0)] 3 n_1 n_1 fun b_6 =>
  hNew #[(.pointer v_3), (.slice (some ⟨b_5, 0, none⟩) (Int.toNat n_1) (Int.toNat n_1)), (.slice (some ⟨b_6, 0, none⟩) (Int.toNat n_1) (Int.toNat n_1))] 84 fun b_7 =>
  R (.returned (.tuple #[(.pointer (some ⟨b_7, 0, none⟩)), (.int .i64 0)]))) m ∧ (hMake 1 8 #[(.int .i64 0)] 3 n_1 n_1 fun b_8 =>
  hMake 3 24 #[(.int .i64 0), (.int .i64 0), (.int .i64 0)] 34 n_1 n_1 fun b_9 =>
  hNew #[(.pointer v_3), (.slice (some ⟨b_9, 0, none⟩) (Int.toNat n_1) (Int.toNat n_1)), (.slice (some ⟨b_8, 0, none⟩) (Int.toNat n_1) (Int.toNat n_1))] 84 fun b_10 =>
  R (.returned (.tuple #[(.pointer (some ⟨b_10, 0, none⟩)), (.int .i64 0)]))) m)) m
def ann8 : Ann := { loop := [], cut := [] }
theorem den8 (n_1 : Int) (R : Ending → HP → Prop) : denF Tryd.prog ann8 Tryd.f8.ntmps Tryd.f8.results.toList code8 [(.int .i64 n_1)] R = F8 n_1 R := by kernel_rfl
theorem call8 : Callable Tryd.prog 8 := fun a w => Tryd.call8 a w
theorem F8_fn {n_1 : Int} {R : Ending → HP → Prop} {m : HP} (h : F8 n_1 R m) : Does Tryd.prog 8 #[(.int .i64 n_1)] m R :=
  fn_of_den mixed (ann := ann8) Tryd.func8 call8 (c := code8) (by kernel_rfl) (by kernel_rfl) (args := [(.int .i64 n_1)]) (Nat.le_of_ble_eq_true (by kernel_rfl)) (.inl (by kernel_rfl)) (by rw [den8]; exact h)
/-! (*treadle/span.Table).Alloc -/
noncomputable def code11 : Code := (Tryd.f11.body).getD .skip
def F11_l9 (t_1 : Option Addr) (n_2 : Int) (b_4 : Nat) (v_11 : Int) (b_16 : Nat) (t40_25 : Int) (again_24 : (Int × Unit) → HP → Prop) (R : Ending → HP → Prop) : HP → Prop :=
  hIf (decide (t40_25 < n_2))
    (hNil t_1 fun a_26 =>
  hLoad .slice (a_26.add 2) fun (v_27 : Sl) =>
  hInt .i64 (v_11 + t40_25) fun v_28 =>
  hIdx v_27.a v_27.n v_28 1 fun a_29 =>
  hStore (.int .i64 v_11) a_29
    (hInt .i64 (t40_25 + 1) fun v_30 =>
  again_24 (v_30, ())))
    (hLoad (.int .i64) ⟨b_16, 0, none⟩ fun (v_31 : Int) =>
  hLoad (.int .i64) ⟨b_16, 1, none⟩ fun (v_32 : Int) =>
  hLoad (.int .i64) ⟨b_16, 2, none⟩ fun (v_33 : Int) =>
  hStore (.int .i64 v_31) ⟨b_4, 0, none⟩
    (hStore (.int .i64 v_32) ⟨b_4, 1, none⟩
    (hStore (.int .i64 v_33) ⟨b_4, 2, none⟩
    (hLoad (.int .i64) ⟨b_4, 0, none⟩ fun (r_34 : Int) =>
  hLoad (.int .i64) ⟨b_4, 1, none⟩ fun (r_35 : Int) =>
  hLoad (.int .i64) ⟨b_4, 2, none⟩ fun (r_36 : Int) =>
  R (.returned (.tuple #[(.agg #[(.int .i64 r_34), (.int .i64 r_35), (.int .i64 r_36)]), (.int .i64 0)]))))))
def F11 (t_1 : Option Addr) (n_2 : Int) (tag_3 : Int) (R : Ending → HP → Prop) : HP → Prop :=
  hNew #[(.int .i64 0), (.int .i64 0), (.int .i64 0)] 34 fun b_4 =>
  hIf (Option.isNone t_1)
    (hStore (.int .i64 0) ⟨b_4, 0, none⟩
    (hStore (.int .i64 0) ⟨b_4, 1, none⟩
    (hStore (.int .i64 0) ⟨b_4, 2, none⟩
    (hLoad (.int .i64) ⟨b_4, 0, none⟩ fun (r_5 : Int) =>
  hLoad (.int .i64) ⟨b_4, 1, none⟩ fun (r_6 : Int) =>
  hLoad (.int .i64) ⟨b_4, 2, none⟩ fun (r_7 : Int) =>
  R (.returned (.tuple #[(.agg #[(.int .i64 r_5), (.int .i64 r_6), (.int .i64 r_7)]), (.int .i64 5)]))))))
    (hNil t_1 fun a_8 =>
  hLoad .ptr a_8 fun (v_9 : Option Addr) =>
  hCall Tryd.prog 38 #[(.pointer v_9), (.int .i64 n_2)] (fun ch => R (.panicked ch)) fun r_10 m => ∃ (v_11 : Int) (v_12 : Int), r_10 = (.tuple #[(.int .i64 v_11), (.int .i64 v_12)]) ∧ (hIf (v_12 != 0)
    (hStore (.int .i64 0) ⟨b_4, 0, none⟩
    (hStore (.int .i64 0) ⟨b_4, 1, none⟩
    (hStore (.int .i64 0) ⟨b_4, 2, none⟩
    (hLoad (.int .i64) ⟨b_4, 0, none⟩ fun (r_13 : Int) =>
  hLoad (.int .i64) ⟨b_4, 1, none⟩ fun (r_14 : Int) =>
  hLoad (.int .i64) ⟨b_4, 2, none⟩ fun (r_15 : Int) =>
  R (.returned (.tuple #[(.agg #[(.int .i64 r_13), (.int .i64 r_14), (.int .i64 r_15)]), (.int .i64 v_12)]))))))
    (hNew #[(.int .i64 0), (.int .i64 0), (.int .i64 0)] 34 fun b_16 =>
  hStore (.int .i64 v_11) ⟨b_16, 0, none⟩
    (hStore (.int .i64 n_2) ⟨b_16, 1, none⟩
    (hStore (.int .i64 tag_3) ⟨b_16, 2, none⟩
    (hNil t_1 fun a_17 =>
  hLoad .slice (a_17.add 1) fun (v_18 : Sl) =>
  hLoad (.int .i64) ⟨b_16, 0, none⟩ fun (v_19 : Int) =>
  hLoad (.int .i64) ⟨b_16, 1, none⟩ fun (v_20 : Int) =>
  hLoad (.int .i64) ⟨b_16, 2, none⟩ fun (v_21 : Int) =>
  hIdx v_18.a v_18.n v_11 3 fun a_22 =>
  hStore (.int .i64 v_19) a_22
    (hStore (.int .i64 v_20) (a_22.add 1)
    (hStore (.int .i64 v_21) (a_22.add 2)
    (hLoop (α := Int × Unit) (0, ()) fun x_23 again_24 => hAll fun _ => F11_l9 t_1 n_2 b_4 v_11 b_16 x_23.1 again_24 R)))))))) m)
def ann11 : Ann := { loop := [(9, [(40, (Ty.int .i64))])], cut := [] }
theorem den11 (t_1 : Option Addr) (n_2 : Int) (tag_3 : Int) (R : Ending → HP → Prop) : denF Tryd.prog ann11 Tryd.f11.ntmps Tryd.f11.results.toList code11 [(.pointer t_1), (.int .i64 n_2), (.int .i64 tag_3)] R = F11 t_1 n_2 tag_3 R := by kernel_rfl
theorem call11 : Callable Tryd.prog 11 := fun a w => Tryd.call11 a w
theorem F11_fn {t_1 : Option Addr} {n_2 : Int} {tag_3 : Int} {R : Ending → HP → Prop} {m : HP} (h : F11 t_1 n_2 tag_3 R m) : Does Tryd.prog 11 #[(.pointer t_1), (.int .i64 n_2), (.int .i64 tag_3)] m R :=
  fn_of_den mixed (ann := ann11) Tryd.func11 call11 (c := code11) (by kernel_rfl) (by kernel_rfl) (args := [(.pointer t_1), (.int .i64 n_2), (.int .i64 tag_3)]) (Nat.le_of_ble_eq_true (by kernel_rfl)) (.inl (by kernel_rfl)) (by rw [den11]; exact h)
/-! (*treadle/span.Table).Free -/
noncomputable def code13 : Code := (Tryd.f13.body).getD .skip
def F13 (t_1 : Option Addr) (base_2 : Int) (R : Ending → HP → Prop) : HP → Prop :=
  hIf (Option.isNone t_1)
    (R (.returned (.int .i64 5)))
    (hCall Tryd.prog 15 #[(.pointer t_1), (.int .i64 base_2)] (fun ch => R (.panicked ch)) fun r_3 m => ∃ (r_4 : Int) (r_5 : Int) (r_6 : Int) (v_7 : Bool), r_3 = (.tuple #[(.agg #[(.int .i64 r_4), (.int .i64 r_5), (.int .i64 r_6)]), (.bool v_7)]) ∧ (hNew #[(.int .i64 0), (.int .i64 0), (.int .i64 0)] 34 fun b_8 =>
  hStore (.int .i64 r_4) ⟨b_8, 0, none⟩
    (hStore (.int .i64 r_5) ⟨b_8, 1, none⟩
    (hStore (.int .i64 r_6) ⟨b_8, 2, none⟩
    (hIf (!v_7)
    (R (.returned (.int .i64 4)))
    (hLoad (.int .i64) ⟨b_8, 0, none⟩ fun (v_9 : Int) =>
  hIf (v_9 != base_2)
    (R (.returned (.int .i64 4)))
    (hNil t_1 fun a_10 =>
  hLoad .slice (a_10.add 1) fun (v_11 : Sl) =>
  hIdx v_11.a v_11.n base_2 3 fun a_12 =>
  hStore (.int .i64 0) a_12
    (hStore (.int .i64 0) (a_12.add 1)
    (hStore (.int .i64 0) (a_12.add 2)
    (hNil t_1 fun a_13 =>
  hLoad .ptr a_13 fun (v_14 : Option Addr) =>
  hLoad (.int .i64) ⟨b_8, 1, none⟩ fun (v_15 : Int) =>
  hCall Tryd.prog 40 #[(.pointer v_14), (.int .i64 base_2), (.int .i64 v_15)] (fun ch => R (.panicked ch)) fun r_16 m => ∃ (v_17 : Int), r_16 = (.int .i64 v_17) ∧ (R (.returned (.int .i64 v_17))) m))))))))) m)
def ann13 : Ann := { loop := [], cut := [] }
theorem den13 (t_1 : Option Addr) (base_2 : Int) (R : Ending → HP → Prop) : denF Tryd.prog ann13 Tryd.f13.ntmps Tryd.f13.results.toList code13 [(.pointer t_1), (.int .i64 base_2)] R = F13 t_1 base_2 R := by kernel_rfl
theorem call13 : Callable Tryd.prog 13 := fun a w => Tryd.call13 a w
theorem F13_fn {t_1 : Option Addr} {base_2 : Int} {R : Ending → HP → Prop} {m : HP} (h : F13 t_1 base_2 R m) : Does Tryd.prog 13 #[(.pointer t_1), (.int .i64 base_2)] m R :=
  fn_of_den mixed (ann := ann13) Tryd.func13 call13 (c := code13) (by kernel_rfl) (by kernel_rfl) (args := [(.pointer t_1), (.int .i64 base_2)]) (Nat.le_of_ble_eq_true (by kernel_rfl)) (.inl (by kernel_rfl)) (by rw [den13]; exact h)
/-! (*treadle/span.Table).Find -/
noncomputable def code15 : Code := (Tryd.f15.body).getD .skip
def F15 (t_1 : Option Addr) (page_2 : Int) (R : Ending → HP → Prop) : HP → Prop :=
  hNew #[(.int .i64 0), (.int .i64 0), (.int .i64 0)] 34 fun b_3 =>
  hIf (Option.isNone t_1)
    (hStore (.int .i64 0) ⟨b_3, 0, none⟩
    (hStore (.int .i64 0) ⟨b_3, 1, none⟩
    (hStore (.int .i64 0) ⟨b_3, 2, none⟩
    (hLoad (.int .i64) ⟨b_3, 0, none⟩ fun (r_4 : Int) =>
  hLoad (.int .i64) ⟨b_3, 1, none⟩ fun (r_5 : Int) =>
  hLoad (.int .i64) ⟨b_3, 2, none⟩ fun (r_6 : Int) =>
  R (.returned (.tuple #[(.agg #[(.int .i64 r_4), (.int .i64 r_5), (.int .i64 r_6)]), (.bool false)]))))))
    (hIf (decide (page_2 < 0))
    (hStore (.int .i64 0) ⟨b_3, 0, none⟩
    (hStore (.int .i64 0) ⟨b_3, 1, none⟩
    (hStore (.int .i64 0) ⟨b_3, 2, none⟩
    (hLoad (.int .i64) ⟨b_3, 0, none⟩ fun (r_7 : Int) =>
  hLoad (.int .i64) ⟨b_3, 1, none⟩ fun (r_8 : Int) =>
  hLoad (.int .i64) ⟨b_3, 2, none⟩ fun (r_9 : Int) =>
  R (.returned (.tuple #[(.agg #[(.int .i64 r_7), (.int .i64 r_8), (.int .i64 r_9)]), (.bool false)]))))))
    (hNil t_1 fun a_10 =>
  hLoad .slice (a_10.add 2) fun (v_11 : Sl) =>
  hIf (decide (page_2 ≥ ((v_11.n : Nat) : Int)))
    (hStore (.int .i64 0) ⟨b_3, 0, none⟩
    (hStore (.int .i64 0) ⟨b_3, 1, none⟩
    (hStore (.int .i64 0) ⟨b_3, 2, none⟩
    (hLoad (.int .i64) ⟨b_3, 0, none⟩ fun (r_12 : Int) =>
  hLoad (.int .i64) ⟨b_3, 1, none⟩ fun (r_13 : Int) =>
  hLoad (.int .i64) ⟨b_3, 2, none⟩ fun (r_14 : Int) =>
  R (.returned (.tuple #[(.agg #[(.int .i64 r_12), (.int .i64 r_13), (.int .i64 r_14)]), (.bool false)]))))))
    (hNil t_1 fun a_15 =>
  hLoad .ptr a_15 fun (v_16 : Option Addr) =>
  hCall Tryd.prog 42 #[(.pointer v_16), (.int .i64 page_2)] (fun ch => R (.panicked ch)) fun r_17 m => ∃ (v_18 : Bool), r_17 = (.bool v_18) ∧ (hIf (!v_18)
    (hStore (.int .i64 0) ⟨b_3, 0, none⟩
    (hStore (.int .i64 0) ⟨b_3, 1, none⟩
    (hStore (.int .i64 0) ⟨b_3, 2, none⟩
    (hLoad (.int .i64) ⟨b_3, 0, none⟩ fun (r_19 : Int) =>
  hLoad (.int .i64) ⟨b_3, 1, none⟩ fun (r_20 : Int) =>
  hLoad (.int .i64) ⟨b_3, 2, none⟩ fun (r_21 : Int) =>
  R (.returned (.tuple #[(.agg #[(.int .i64 r_19), (.int .i64 r_20), (.int .i64 r_21)]), (.bool false)]))))))
    (hNil t_1 fun a_22 =>
  hLoad .slice (a_22.add 1) fun (v_23 : Sl) =>
  hNil t_1 fun a_24 =>
  hLoad .slice (a_24.add 2) fun (v_25 : Sl) =>
  hIdx v_25.a v_25.n page_2 1 fun a_26 =>
  hLoad (.int .i64) a_26 fun (v_27 : Int) =>
  hIdx v_23.a v_23.n v_27 3 fun a_28 =>
  hLoad (.int .i64) a_28 fun (v_29 : Int) =>
  hLoad (.int .i64) (a_28.add 1) fun (v_30 : Int) =>
  hLoad (.int .i64) (a_28.add 2) fun (v_31 : Int) =>
  hStore (.int .i64 v_29) ⟨b_3, 0, none⟩
    (hStore (.int .i64 v_30) ⟨b_3, 1, none⟩
    (hStore (.int .i64 v_31) ⟨b_3, 2, none⟩
    (hLoad (.int .i64) ⟨b_3, 0, none⟩ fun (r_32 : Int) =>
  hLoad (.int .i64) ⟨b_3, 1, none⟩ fun (r_33 : Int) =>
  hLoad (.int .i64) ⟨b_3, 2, none⟩ fun (r_34 : Int) =>
  R (.returned (.tuple #[(.agg #[(.int .i64 r_32), (.int .i64 r_33), (.int .i64 r_34)]), (.bool true)]))))))) m)))
def ann15 : Ann := { loop := [], cut := [] }
theorem den15 (t_1 : Option Addr) (page_2 : Int) (R : Ending → HP → Prop) : denF Tryd.prog ann15 Tryd.f15.ntmps Tryd.f15.results.toList code15 [(.pointer t_1), (.int .i64 page_2)] R = F15 t_1 page_2 R := by kernel_rfl
theorem call15 : Callable Tryd.prog 15 := fun a w => Tryd.call15 a w
theorem F15_fn {t_1 : Option Addr} {page_2 : Int} {R : Ending → HP → Prop} {m : HP} (h : F15 t_1 page_2 R m) : Does Tryd.prog 15 #[(.pointer t_1), (.int .i64 page_2)] m R :=
  fn_of_den mixed (ann := ann15) Tryd.func15 call15 (c := code15) (by kernel_rfl) (by kernel_rfl) (args := [(.pointer t_1), (.int .i64 page_2)]) (Nat.le_of_ble_eq_true (by kernel_rfl)) (.inl (by kernel_rfl)) (by rw [den15]; exact h)
/-! (*treadle/span.Table).Counts -/
noncomputable def code17 : Code := (Tryd.f17.body).getD .skip
def F17 (t_1 : Option Addr) (R : Ending → HP → Prop) : HP → Prop :=
  hIf (Option.isNone t_1)
    (R (.returned (.tuple #[(.int .i64 0), (.int .i64 0)])))
    (hNil t_1 fun a_2 =>
  hLoad .ptr a_2 fun (v_3 : Option Addr) =>
  hCall Tryd.prog 43 #[(.pointer v_3)] (fun ch => R (.panicked ch)) fun r_4 m => ∃ (v_5 : Int) (v_6 : Int), r_4 = (.tuple #[(.int .i64 v_5), (.int .i64 v_6)]) ∧ (R (.returned (.tuple #[(.int .i64 v_5), (.int .i64 v_6)]))) m)
def ann17 : Ann := { loop := [], cut := [] }
theorem den17 (t_1 : Option Addr) (R : Ending → HP → Prop) : denF Tryd.prog ann17 Tryd.f17.ntmps Tryd.f17.results.toList code17 [(.pointer t_1)] R = F17 t_1 R := by kernel_rfl
theorem call17 : Callable Tryd.prog 17 := fun a w => Tryd.call17 a w
theorem F17_fn {t_1 : Option Addr} {R : Ending → HP → Prop} {m : HP} (h : F17 t_1 R m) : Does Tryd.prog 17 #[(.pointer t_1)] m R :=
  fn_of_den mixed (ann := ann17) Tryd.func17 call17 (c := code17) (by kernel_rfl) (by kernel_rfl) (args := [(.pointer t_1)]) (Nat.le_of_ble_eq_true (by kernel_rfl)) (.inl (by kernel_rfl)) (by rw [den17]; exact h)
/-! (*treadle/span.Table).All -/
noncomputable def code45 : Code := (Tryd.f45.body).getD .skip
def F45 (t_1 : Option Addr) (R : Ending → HP → Prop) : HP → Prop :=
  hNew #[(.pointer t_1)] 23 fun b_2 =>
  R (.returned (.func (.func 67) #[] #[(.pointer (some ⟨b_2, 0, none⟩))]))
def ann45 : Ann := { loop := [], cut := [] }
theorem den45 (t_1 : Option Addr) (R : Ending → HP → Prop) : denF Tryd.prog ann45 Tryd.f45.ntmps Tryd.f45.results.toList code45 [(.pointer t_1)] R = F45 t_1 R := by kernel_rfl
theorem call45 : Callable Tryd.prog 45 := fun a w => Tryd.call45 a w
theorem F45_fn {t_1 : Option Addr} {R : Ending → HP → Prop} {m : HP} (h : F45 t_1 R m) : Does Tryd.prog 45 #[(.pointer t_1)] m R :=
  fn_of_den mixed (ann := ann45) Tryd.func45 call45 (c := code45) (by kernel_rfl) (by kernel_rfl) (args := [(.pointer t_1)]) (Nat.le_of_ble_eq_true (by kernel_rfl)) (.inl (by kernel_rfl)) (by rw [den45]; exact h)
/-! (*treadle/span.Table).All$1 -/
noncomputable def code67 : Code := (Tryd.f67.body).getD .skip
def F67_l2 (l : Nat) (c0_1 : Addr) (at_5 : Int) (again_4 : (Int × Unit) → HP → Prop) (R : Ending → HP → Prop) : HP → Prop :=
  hLoad .ptr c0_1 fun (v_6 : Option Addr) =>
  hNil v_6 fun a_7 =>
  hLoad .slice (a_7.add 1) fun (v_8 : Sl) =>
  hIf (decide (at_5 < ((v_8.n : Nat) : Int)))
    (hLoad .ptr c0_1 fun (v_9 : Option Addr) =>
  hNil v_9 fun a_10 =>
  hLoad .slice (a_10.add 1) fun (v_11 : Sl) =>
  hIdx v_11.a v_11.n at_5 3 fun a_12 =>
  hLoad (.int .i64) a_12 fun (v_13 : Int) =>
  hLoad (.int .i64) (a_12.add 1) fun (v_14 : Int) =>
  hLoad (.int .i64) (a_12.add 2) fun (v_15 : Int) =>
  hNew #[(.int .i64 0), (.int .i64 0), (.int .i64 0)] 34 fun b_16 =>
  hStore (.int .i64 v_13) ⟨b_16, 0, none⟩
    (hStore (.int .i64 v_14) ⟨b_16, 1, none⟩
    (hStore (.int .i64 v_15) ⟨b_16, 2, none⟩
    (hLoad (.int .i64) ⟨b_16, 0, none⟩ fun (v_17 : Int) =>
  hLoad (.int .i64) ⟨b_16, 1, none⟩ fun (v_18 : Int) =>
  hLoad (.int .i64) ⟨b_16, 2, none⟩ fun (v_19 : Int) =>
  hEq Tryd.prog .eql 34 (.tmp 21) (.tmp 22) (.agg #[(.int .i64 v_17), (.int .i64 v_18), (.int .i64 v_19)]) (.agg #[(.int .i64 0), (.int .i64 0), (.int .i64 0)]) fun e_20 =>
  hIf e_20
    (hInt .i64 (at_5 + 1) fun v_21 =>
  again_4 (v_21, ()))
    (hLoad (.int .i64) ⟨b_16, 0, none⟩ fun (v_22 : Int) =>
  hLoad (.int .i64) ⟨b_16, 1, none⟩ fun (v_23 : Int) =>
  hLoad (.int .i64) ⟨b_16, 2, none⟩ fun (v_24 : Int) =>
  hYield Tryd.prog l #[(.agg #[(.int .i64 v_22), (.int .i64 v_23), (.int .i64 v_24)])] (fun ch => R (.panicked ch)) fun r_25 m => ∃ (v_26 : Bool), r_25 = (.bool v_26) ∧ (hIf (!v_26)
    (R (.returned (.tuple #[])))
    (hLoad (.int .i64) ⟨b_16, 1, none⟩ fun (v_27 : Int) =>
  hInt .i64 (at_5 + v_27) fun v_28 =>
  again_4 (v_28, ()))) m)))))
    (R (.returned (.tuple #[])))
def F67 (l : Nat) (c0_1 : Addr) (R : Ending → HP → Prop) : HP → Prop :=
  hLoad .ptr c0_1 fun (v_2 : Option Addr) =>
  hIf (Option.isNone v_2)
    (R (.returned (.tuple #[])))
    (hLoop (α := Int × Unit) (0, ()) fun x_3 again_4 => hAll fun _ => F67_l2 l c0_1 x_3.1 again_4 R)
def ann67 : Ann := { loop := [(2, [(3, (Ty.int .i64))])], cut := [] }
theorem den67 (l : Nat) (c0_1 : Addr) (R : Ending → HP → Prop) : denF Tryd.prog ann67 Tryd.f67.ntmps Tryd.f67.results.toList code67 [(.func (.yield l) #[] #[]), (.pointer (some c0_1))] R = F67 l c0_1 R := by kernel_rfl
theorem call67 : Callable Tryd.prog 67 := fun a w => Tryd.call67 a w
theorem F67_fn {l : Nat} {c0_1 : Addr} {R : Ending → HP → Prop} {m : HP} (h : F67 l c0_1 R m) : Does Tryd.prog 67 #[(.func (.yield l) #[] #[]), (.pointer (some c0_1))] m R :=
  fn_of_den mixed (ann := ann67) Tryd.func67 call67 (c := code67) (by kernel_rfl) (by kernel_rfl) (args := [(.func (.yield l) #[] #[]), (.pointer (some c0_1))]) (Nat.le_of_ble_eq_true (by kernel_rfl)) (.inl (by kernel_rfl)) (by rw [den67]; exact h)
end Go.Proofs.YtolfcdjbchdkgaaDoor
