/- The predicates of functions of the program, printed by a program of this session (wip/tools/prt.py) out of Lean's own print of the loaded functions. -/
import Derived.Test.YtolfcdjbchdkgaaDoorP0
namespace Go.Proofs.YtolfcdjbchdkgaaDoor
open Go Go.Hp
set_option maxRecDepth 100000
/-! treadle/treadlelaw05.SpanPlays -/
noncomputable def code3 : Code := (Tryd.f3.body).getD .skip
def F3_j18 (v_4 : Option Addr) (v_7 : Option Addr) (t54_13 : Int) (b_18 : Nat) (again_12 : (Int × Unit) → HP → Prop) (same_52 : Bool) (R : Ending → HP → Prop) : HP → Prop :=
  hLoad (.int .i64) ⟨b_18, 1, none⟩ fun (v_53 : Int) =>
  hCall Tryd.prog 15 #[(.pointer v_4), (.int .i64 v_53)] (fun ch => R (.panicked ch)) fun r_54 m => ∃ (r_55 : Int) (r_56 : Int) (r_57 : Int) (v_58 : Bool), r_54 = (.tuple #[(.agg #[(.int .i64 r_55), (.int .i64 r_56), (.int .i64 r_57)]), (.bool v_58)]) ∧ (hNew #[(.int .i64 0), (.int .i64 0), (.int .i64 0)] 34 fun b_59 =>
  hStore (.int .i64 r_55) ⟨b_59, 0, none⟩
    (hStore (.int .i64 r_56) ⟨b_59, 1, none⟩
    (hStore (.int .i64 r_57) ⟨b_59, 2, none⟩
    (hLoad (.int .i64) ⟨b_18, 1, none⟩ fun (v_60 : Int) =>
  hCall Tryd.prog 16 #[(.pointer v_7), (.int .i64 v_60)] (fun ch => R (.panicked ch)) fun r_61 m => ∃ (r_62 : Int) (r_63 : Int) (r_64 : Int) (v_65 : Bool), r_61 = (.tuple #[(.agg #[(.int .i64 r_62), (.int .i64 r_63), (.int .i64 r_64)]), (.bool v_65)]) ∧ (hNew #[(.int .i64 0), (.int .i64 0), (.int .i64 0)] 34 fun b_66 =>
  hStore (.int .i64 r_62) ⟨b_66, 0, none⟩
    (hStore (.int .i64 r_63) ⟨b_66, 1, none⟩
    (hStore (.int .i64 r_64) ⟨b_66, 2, none⟩
    (hCall Tryd.prog 17 #[(.pointer v_4)] (fun ch => R (.panicked ch)) fun r_67 m => ∃ (v_68 : Int) (v_69 : Int), r_67 = (.tuple #[(.int .i64 v_68), (.int .i64 v_69)]) ∧ (hNil v_7 fun a_70 =>
  hLoad .ptr a_70 fun (v_71 : Option Addr) =>
  hCall Tryd.prog 18 #[(.pointer v_71)] (fun ch => R (.panicked ch)) fun r_72 m => ∃ (v_73 : Int) (v_74 : Int), r_72 = (.tuple #[(.int .i64 v_73), (.int .i64 v_74)]) ∧ (hIf (!same_52)
    (R (.returned (.bool false)))
    (hLoad (.int .i64) ⟨b_59, 0, none⟩ fun (v_75 : Int) =>
  hLoad (.int .i64) ⟨b_59, 1, none⟩ fun (v_76 : Int) =>
  hLoad (.int .i64) ⟨b_59, 2, none⟩ fun (v_77 : Int) =>
  hLoad (.int .i64) ⟨b_66, 0, none⟩ fun (v_78 : Int) =>
  hLoad (.int .i64) ⟨b_66, 1, none⟩ fun (v_79 : Int) =>
  hLoad (.int .i64) ⟨b_66, 2, none⟩ fun (v_80 : Int) =>
  hEq Tryd.prog .neq 34 (.tmp 129) (.tmp 130) (.agg #[(.int .i64 v_75), (.int .i64 v_76), (.int .i64 v_77)]) (.agg #[(.int .i64 v_78), (.int .i64 v_79), (.int .i64 v_80)]) fun e_81 =>
  hIf (!e_81)
    (R (.returned (.bool false)))
    (hIf (!(v_58 == v_65))
    (R (.returned (.bool false)))
    (hIf (v_68 != v_73)
    (R (.returned (.bool false)))
    (hIf (v_69 != v_74)
    (R (.returned (.bool false)))
    (hInt .i64 (t54_13 + 1) fun v_82 =>
  again_12 (v_82, ()))))))) m) m)))) m)))) m
def F3_l8 (script_2 : Sl) (v_4 : Option Addr) (v_7 : Option Addr) (t54_13 : Int) (again_12 : (Int × Unit) → HP → Prop) (R : Ending → HP → Prop) : HP → Prop :=
  hIf (decide (t54_13 < ((script_2.n : Nat) : Int)))
    (hIdx script_2.a script_2.n t54_13 3 fun a_14 =>
  hLoad (.int .i64) a_14 fun (v_15 : Int) =>
  hLoad (.int .i64) (a_14.add 1) fun (v_16 : Int) =>
  hLoad (.int .i64) (a_14.add 2) fun (v_17 : Int) =>
  hNew #[(.int .i64 0), (.int .i64 0), (.int .i64 0)] 32 fun b_18 =>
  hStore (.int .i64 v_15) ⟨b_18, 0, none⟩
    (hStore (.int .i64 v_16) ⟨b_18, 1, none⟩
    (hStore (.int .i64 v_17) ⟨b_18, 2, none⟩
    (hLet (α := Bool × Unit) (fun k_19 => hLoad (.int .i64) ⟨b_18, 0, none⟩ fun (v_20 : Int) =>
  hIf (v_20 == 0)
    (hLoad (.int .i64) ⟨b_18, 1, none⟩ fun (v_21 : Int) =>
  hLoad (.int .i64) ⟨b_18, 2, none⟩ fun (v_22 : Int) =>
  hCall Tryd.prog 11 #[(.pointer v_4), (.int .i64 v_21), (.int .i64 v_22)] (fun ch => R (.panicked ch)) fun r_23 m => ∃ (r_24 : Int) (r_25 : Int) (r_26 : Int) (v_27 : Int), r_23 = (.tuple #[(.agg #[(.int .i64 r_24), (.int .i64 r_25), (.int .i64 r_26)]), (.int .i64 v_27)]) ∧ (hNew #[(.int .i64 0), (.int .i64 0), (.int .i64 0)] 34 fun b_28 =>
  hStore (.int .i64 r_24) ⟨b_28, 0, none⟩
    (hStore (.int .i64 r_25) ⟨b_28, 1, none⟩
    (hStore (.int .i64 r_26) ⟨b_28, 2, none⟩
    (hLoad (.int .i64) ⟨b_18, 1, none⟩ fun (v_29 : Int) =>
  hLoad (.int .i64) ⟨b_18, 2, none⟩ fun (v_30 : Int) =>
  hCall Tryd.prog 12 #[(.pointer v_7), (.int .i64 v_29), (.int .i64 v_30)] (fun ch => R (.panicked ch)) fun r_31 m => ∃ (r_32 : Int) (r_33 : Int) (r_34 : Int) (v_35 : Int), r_31 = (.tuple #[(.agg #[(.int .i64 r_32), (.int .i64 r_33), (.int .i64 r_34)]), (.int .i64 v_35)]) ∧ (hNew #[(.int .i64 0), (.int .i64 0), (.int .i64 0)] 34 fun b_36 =>
  hStore (.int .i64 r_32) ⟨b_36, 0, none⟩
    (hStore (.int .i64 r_33) ⟨b_36, 1, none⟩
    (hStore (.int .i64 r_34) ⟨b_36, 2, none⟩
    (hLoad (.int .i64) ⟨b_28, 0, none⟩ fun (v_37 : Int) =>
  hLoad (.int .i64) ⟨b_28, 1, none⟩ fun (v_38 : Int) =>
  hLoad (.int .i64) ⟨b_28, 2, none⟩ fun (v_39 : Int) =>
  hLoad (.int .i64) ⟨b_36, 0, none⟩ fun (v_40 : Int) =>
  hLoad (.int .i64) ⟨b_36, 1, none⟩ fun (v_41 : Int) =>
  hLoad (.int .i64) ⟨b_36, 2, none⟩ fun (v_42 : Int) =>
  hEq Tryd.prog .eql 34 (.tmp 80) (.tmp 81) (.agg #[(.int .i64 v_37), (.int .i64 v_38), (.int .i64 v_39)]) (.agg #[(.int .i64 v_40), (.int .i64 v_41), (.int .i64 v_42)]) fun e_43 =>
  hIf e_43
    (k_19 ((v_27 == v_35), ()))
    (k_19 (false, ())))))) m)))) m)
    (hIf (v_20 == 1)
    (hLoad (.int .i64) ⟨b_18, 1, none⟩ fun (v_44 : Int) =>
  hLoad (.int .i64) ⟨b_18, 1, none⟩ fun (v_45 : Int) =>
  hCall Tryd.prog 13 #[(.pointer v_4), (.int .i64 v_44)] (fun ch => R (.panicked ch)) fun r_46 m => ∃ (v_47 : Int), r_46 = (.int .i64 v_47) ∧ (hLoad (.int .i64) ⟨b_18, 1, none⟩ fun (v_48 : Int) =>
  fun m => ((.int .i64 v_48) : Value) = (.int .i64 v_45) ∧ (hCall Tryd.prog 14 #[(.pointer v_7), (.int .i64 v_45)] (fun ch => R (.panicked ch)) fun r_49 m => ∃ (v_50 : Int), r_49 = (.int .i64 v_50) ∧ (k_19 ((v_47 == v_50), ())) m) m) m)
    (k_19 (true, ()))))
    (fun x_51 => hAll fun _ => F3_j18 v_4 v_7 t54_13 b_18 again_12 x_51.1 R)))))
    (hCall Tryd.prog 19 #[(.pointer v_4), (.int .i64 (-1))] (fun ch => R (.panicked ch)) fun r_83 m => ∃ (v_84 : Sl) (v_85 : Bool), r_83 = (.tuple #[(.slice v_84.a v_84.n v_84.cap), (.bool v_85)]) ∧ (hIf v_85
    (hNil v_7 fun a_86 =>
  hLoad .slice (a_86.add 1) fun (v_87 : Sl) =>
  hCall Tryd.prog 20 #[(.slice v_84.a v_84.n v_84.cap), (.slice v_87.a v_87.n v_87.cap)] (fun ch => R (.panicked ch)) fun r_88 m => ∃ (v_89 : Bool), r_88 = (.bool v_89) ∧ (R (.returned (.bool v_89))) m)
    (R (.returned (.bool false)))) m)
def F3 (n_1 : Int) (script_2 : Sl) (R : Ending → HP → Prop) : HP → Prop :=
  hCall Tryd.prog 8 #[(.int .i64 n_1)] (fun ch => R (.panicked ch)) fun r_3 m => ∃ (v_4 : Option Addr) (v_5 : Int), r_3 = (.tuple #[(.pointer v_4), (.int .i64 v_5)]) ∧ (hCall Tryd.prog 9 #[(.int .i64 n_1)] (fun ch => R (.panicked ch)) fun r_6 m => ∃ (v_7 : Option Addr) (v_8 : Int), r_6 = (.tuple #[(.pointer v_7), (.int .i64 v_8)]) ∧ (hCall Tryd.prog 10 #[] (fun ch => R (.panicked ch)) fun r_9 m => ∃ (v_10 : Bool), r_9 = (.bool v_10) ∧ (hIf (!v_10)
    (R (.returned (.bool false)))
    (hIf (v_5 != v_8)
    (R (.returned (.bool false)))
    (hIf (!((Option.isNone v_4) == (Option.isNone v_7)))
    (R (.returned (.bool false)))
    (hIf (Option.isNone v_4)
    (R (.returned (.bool true)))
    (hLoop (α := Int × Unit) (0, ()) fun x_11 again_12 => hAll fun _ => F3_l8 script_2 v_4 v_7 x_11.1 again_12 R))))) m) m) m
def ann3 : Ann := { loop := [(8, [(54, (Ty.int .i64))])], cut := [(18, [(11, Ty.bool)])] }
theorem den3 (n_1 : Int) (script_2 : Sl) (R : Ending → HP → Prop) : denF Tryd.prog ann3 Tryd.f3.ntmps Tryd.f3.results.toList code3 [(.int .i64 n_1), (.slice script_2.a script_2.n script_2.cap)] R = F3 n_1 script_2 R := by kernel_rfl
theorem call3 : Callable Tryd.prog 3 := fun a w => Tryd.call3 a w
theorem F3_fn {n_1 : Int} {script_2 : Sl} {R : Ending → HP → Prop} {m : HP} (h : F3 n_1 script_2 R m) : Does Tryd.prog 3 #[(.int .i64 n_1), (.slice script_2.a script_2.n script_2.cap)] m R :=
  fn_of_den mixed (ann := ann3) Tryd.func3 call3 (c := code3) (by kernel_rfl) (by kernel_rfl) (args := [(.int .i64 n_1), (.slice script_2.a script_2.n script_2.cap)]) (Nat.le_of_ble_eq_true (by kernel_rfl)) (.inl (by kernel_rfl)) (by rw [den3]; exact h)
/-! treadle/treadlelaw07.CellApart -/
noncomputable def code4 : Code := (Tryd.f4.body).getD .skip
def F4_l32 (b_8 : Nat) (v_46 : Sl) (v_48 : Sl) (v_55 : Int) (k_14 : (Sl × Sl × Unit) → HP → Prop) (w_70 : Int) (again_69 : (Int × Unit) → HP → Prop) (R : Ending → HP → Prop) : HP → Prop :=
  hIdx v_46.a v_46.n v_55 1 fun a_71 =>
  hLoad (.int .i64) a_71 fun (v_72 : Int) =>
  hIdx v_48.a v_48.n v_55 1 fun a_73 =>
  hLoad (.int .i64) a_73 fun (v_74 : Int) =>
  hInt .i64 (v_72 + v_74) fun v_75 =>
  hIf (decide (w_70 < v_75))
    (hIdx (some ⟨b_8, 0, none⟩) (Int.toNat 16384) w_70 1 fun a_76 =>
  hStore (.int .i64 0) a_76
    (hInt .i64 (w_70 + 1) fun v_77 =>
  again_69 (v_77, ())))
    (hIdx v_46.a v_46.n v_55 1 fun a_78 =>
  hStore (.int .i64 (-1)) a_78
    (k_14 (v_46, v_48, ())))
def F4_l19 (frees_2 : Sl) (v_4 : Option Addr) (b_8 : Nat) (at_11 : Sl) (words_12 : Sl) (t38_13 : Int) (v_29 : Int) (v_33 : Int) (k_14 : (Sl × Sl × Unit) → HP → Prop) (w_38 : Int) (again_37 : (Int × Unit) → HP → Prop) (R : Ending → HP → Prop) : HP → Prop :=
  hInt .i64 (v_29 + v_33) fun v_39 =>
  hIf (decide (w_38 < v_39))
    (hIdx (some ⟨b_8, 0, none⟩) (Int.toNat 16384) w_38 1 fun a_40 =>
  hLoad (.int .i64) a_40 fun (v_41 : Int) =>
  hIf (v_41 != 0)
    (R (.returned (.bool false)))
    (hInt .i64 (t38_13 + 1) fun v_42 =>
  hIdx (some ⟨b_8, 0, none⟩) (Int.toNat 16384) w_38 1 fun a_43 =>
  hStore (.int .i64 v_42) a_43
    (hInt .i64 (w_38 + 1) fun v_44 =>
  again_37 (v_44, ()))))
    (hNew #[(.int .i64 v_29)] 3 fun b_45 =>
  hAppend 1 8 #[(.int .i64 0)] 3 ⟨at_11.a, at_11.n, at_11.cap⟩ ⟨(some ⟨b_45, 0, none⟩), 1, 1⟩ fun v_46 =>
  hNew #[(.int .i64 v_33)] 3 fun b_47 =>
  hAppend 1 8 #[(.int .i64 0)] 3 ⟨words_12.a, words_12.n, words_12.cap⟩ ⟨(some ⟨b_47, 0, none⟩), 1, 1⟩ fun v_48 =>
  hIf (decide (t38_13 < ((frees_2.n : Nat) : Int)))
    (hIf (decide (((v_46.n : Nat) : Int) > 0))
    (hIdx frees_2.a frees_2.n t38_13 1 fun a_49 =>
  hLoad (.int .u8) a_49 fun (v_50 : Int) =>
  hRem v_50 3 fun v_51 =>
  hIf (v_51 == 0)
    (hIdx frees_2.a frees_2.n t38_13 1 fun a_52 =>
  hLoad (.int .u8) a_52 fun (v_53 : Int) =>
  hInt .i64 v_53 fun v_54 =>
  hRem v_54 ((v_46.n : Nat) : Int) fun v_55 =>
  hIdx v_46.a v_46.n v_55 1 fun a_56 =>
  hLoad (.int .i64) a_56 fun (v_57 : Int) =>
  hIf (decide (v_57 < 0))
    (k_14 (v_46, v_48, ()))
    (hIdx v_46.a v_46.n v_55 1 fun a_58 =>
  hLoad (.int .i64) a_58 fun (v_59 : Int) =>
  hCall Tryd.prog 25 #[(.pointer v_4), (.int .i64 v_59)] (fun ch => R (.panicked ch)) fun r_60 m => ∃ (v_61 : Int), r_60 = (.int .i64 v_61) ∧ (hIf (v_61 != 0)
    (R (.returned (.bool false)))
    (hIdx v_46.a v_46.n v_55 1 fun a_62 =>
  hLoad (.int .i64) a_62 fun (v_63 : Int) =>
  hCall Tryd.prog 25 #[(.pointer v_4), (.int .i64 v_63)] (fun ch => R (.panicked ch)) fun r_64 m => ∃ (v_65 : Int), r_64 = (.int .i64 v_65) ∧ (hIf (v_65 != 4)
    (R (.returned (.bool false)))
    (hIdx v_46.a v_46.n v_55 1 fun a_66 =>
  hLoad (.int .i64) a_66 fun (v_67 : Int) =>
  hLoop (α := Int × Unit) (v_67, ()) fun x_68 again_69 => hAll fun _ => F4_l32 b_8 v_46 v_48 v_55 k_14 x_68.1 again_69 R)) m)) m))
    (k_14 (v_46, v_48, ())))
    (k_14 (v_46, v_48, ())))
    (k_14 (v_46, v_48, ())))
def F4_j13 (frees_2 : Sl) (v_4 : Option Addr) (b_8 : Nat) (at_11 : Sl) (words_12 : Sl) (t38_13 : Int) (k_14 : (Sl × Sl × Unit) → HP → Prop) (k_26 : Int) (R : Ending → HP → Prop) : HP → Prop :=
  hRem t38_13 3 fun v_27 =>
  hCall Tryd.prog 23 #[(.pointer v_4), (.int .i64 v_27), (.int .i64 k_26)] (fun ch => R (.panicked ch)) fun r_28 m => ∃ (v_29 : Int) (v_30 : Int), r_28 = (.tuple #[(.int .i64 v_29), (.int .i64 v_30)]) ∧ (hIf (v_30 == 3)
    (k_14 (at_11, words_12, ()))
    (hCall Tryd.prog 24 #[(.pointer v_4), (.int .i64 v_29)] (fun ch => R (.panicked ch)) fun r_31 m => ∃ (v_32 : Int) (v_33 : Int) (v_34 : Bool), r_31 = (.tuple #[(.int .i64 v_32), (.int .i64 v_33), (.bool v_34)]) ∧ (hIf (v_30 != 0)
    (R (.returned (.bool false)))
    (hIf (!v_34)
    (R (.returned (.bool false)))
    (hIf (v_32 != v_29)
    (R (.returned (.bool false)))
    (hIf (decide (v_33 < k_26))
    (R (.returned (.bool false)))
    (hIf (decide (v_29 < 0))
    (R (.returned (.bool false)))
    (hInt .i64 (v_29 + v_33) fun v_35 =>
  hIf (decide (v_35 > (((Int.toNat 16384) : Nat) : Int)))
    (R (.returned (.bool false)))
    (hLoop (α := Int × Unit) (v_29, ()) fun x_36 again_37 => hAll fun _ => F4_l19 frees_2 v_4 b_8 at_11 words_12 t38_13 v_29 v_33 k_14 x_36.1 again_37 R))))))) m)) m
def F4_j36 (t38_13 : Int) (again_10 : (Sl × Sl × Int × Unit) → HP → Prop) (at_80 : Sl) (words_81 : Sl) (R : Ending → HP → Prop) : HP → Prop :=
  hInt .i64 (t38_13 + 1) fun v_82 =>
  again_10 (at_80, words_81, v_82, ())
def F4_l8 (sizes_1 : Sl) (frees_2 : Sl) (v_4 : Option Addr) (b_8 : Nat) (at_11 : Sl) (words_12 : Sl) (t38_13 : Int) (again_10 : (Sl × Sl × Int × Unit) → HP → Prop) (R : Ending → HP → Prop) : HP → Prop :=
  hIf (decide (t38_13 < ((sizes_1.n : Nat) : Int)))
    (hLet (α := Sl × Sl × Unit) (fun k_14 => hIdx sizes_1.a sizes_1.n t38_13 1 fun a_15 =>
  hLoad (.int .u16) a_15 fun (v_16 : Int) =>
  hRem v_16 300 fun v_17 =>
  hInt .i64 v_17 fun v_18 =>
  hInt .i64 (v_18 + 1) fun v_19 =>
  hLet (α := Int × Unit) (fun k_20 => hRem v_16 7 fun v_21 =>
  hIf (v_21 == 0)
    (hRem v_16 1024 fun v_22 =>
  hInt .i64 v_22 fun v_23 =>
  hInt .i64 (v_23 + 1) fun v_24 =>
  k_20 (v_24, ()))
    (k_20 (v_19, ())))
    (fun x_25 => hAll fun _ => F4_j13 frees_2 v_4 b_8 at_11 words_12 t38_13 k_14 x_25.1 R))
    (fun x_79 => hAll fun _ => F4_j36 t38_13 again_10 x_79.1 x_79.2.1 R))
    (R (.returned (.bool true)))
def F4 (sizes_1 : Sl) (frees_2 : Sl) (R : Ending → HP → Prop) : HP → Prop :=
  hCall Tryd.prog 21 #[(.int .i64 256), (.int .i64 3)] (fun ch => R (.panicked ch)) fun r_3 m => ∃ (v_4 : Option Addr) (v_5 : Int), r_3 = (.tuple #[(.pointer v_4), (.int .i64 v_5)]) ∧ (hCall Tryd.prog 22 #[] (fun ch => R (.panicked ch)) fun r_6 m => ∃ (v_7 : Bool), r_6 = (.bool v_7) ∧ (hIf (!v_7)
    (R (.returned (.bool false)))
    (hIf (Option.isNone v_4)
    (R (.returned (.bool false)))
    (hIf (v_5 != 0)
    (R (.returned (.bool false)))
    (hMake 1 8 #[(.int .i64 0)] 3 16384 16384 fun b_8 =>
  hLoop (α := Sl × Sl × Int × Unit) ((⟨none, 0, 0⟩ : Sl), (⟨none, 0, 0⟩ : Sl), 0, ()) fun x_9 again_10 => hAll fun _ => F4_l8 sizes_1 frees_2 v_4 b_8 x_9.1 x_9.2.1 x_9.2.2.1 again_10 R)))) m) m
def ann4 : Ann := { loop := [(8, [(8, Ty.slice), (9, Ty.slice), (38, (Ty.int .i64))]), (19, [(18, (Ty.int .i64))]), (32, [(20, (Ty.int .i64))])], cut := [(36, [(8, Ty.slice), (9, Ty.slice)]), (13, [(12, (Ty.int .i64))])] }
theorem den4 (sizes_1 : Sl) (frees_2 : Sl) (R : Ending → HP → Prop) : denF Tryd.prog ann4 Tryd.f4.ntmps Tryd.f4.results.toList code4 [(.slice sizes_1.a sizes_1.n sizes_1.cap), (.slice frees_2.a frees_2.n frees_2.cap)] R = F4 sizes_1 frees_2 R := by kernel_rfl
theorem call4 : Callable Tryd.prog 4 := fun a w => Tryd.call4 a w
theorem F4_fn {sizes_1 : Sl} {frees_2 : Sl} {R : Ending → HP → Prop} {m : HP} (h : F4 sizes_1 frees_2 R m) : Does Tryd.prog 4 #[(.slice sizes_1.a sizes_1.n sizes_1.cap), (.slice frees_2.a frees_2.n frees_2.cap)] m R :=
  fn_of_den mixed (ann := ann4) Tryd.func4 call4 (c := code4) (by kernel_rfl) (by kernel_rfl) (args := [(.slice sizes_1.a sizes_1.n sizes_1.cap), (.slice frees_2.a frees_2.n frees_2.cap)]) (Nat.le_of_ble_eq_true (by kernel_rfl)) (.inl (by kernel_rfl)) (by rw [den4]; exact h)
/-! treadle/treadlelaw07.CellOwn -/
noncomputable def code5 : Code := (Tryd.f5.body).getD .skip
def F5_j24 (b_12 : Nat) (t47_16 : Int) (v_20 : Int) (v_22 : Int) (again_15 : (Int × Unit) → HP → Prop) (R : Ending → HP → Prop) : HP → Prop :=
  hIdx (some ⟨b_12, 0, none⟩) 4 v_20 1 fun a_39 =>
  hStore (.int .i64 v_22) a_39
    (hInt .i64 (t47_16 + 1) fun v_40 =>
  again_15 (v_40, ()))
def F5_j24_2 (b_12 : Nat) (t47_16 : Int) (v_20 : Int) (v_22 : Int) (again_15 : (Int × Unit) → HP → Prop) (R : Ending → HP → Prop) : HP → Prop :=
  hIdx (some ⟨b_12, 0, none⟩) 4 v_20 1 fun a_52 =>
  hStore (.int .i64 v_22) a_52
    (hInt .i64 (t47_16 + 1) fun v_53 =>
  again_15 (v_53, ()))
def F5_l8 (turns_2 : Sl) (v_4 : Option Addr) (v_10 : Int) (b_11 : Nat) (b_12 : Nat) (v_13 : Sl) (t47_16 : Int) (again_15 : (Int × Unit) → HP → Prop) (R : Ending → HP → Prop) : HP → Prop :=
  hIf (decide (t47_16 < ((v_13.n : Nat) : Int)))
    (hIdx v_13.a v_13.n t47_16 1 fun a_17 =>
  hLoad (.int .u8) a_17 fun (v_18 : Int) =>
  hRem v_18 4 fun v_19 =>
  hInt .i64 v_19 fun v_20 =>
  hCall Tryd.prog 23 #[(.pointer v_4), (.int .i64 v_20), (.int .i64 v_10)] (fun ch => R (.panicked ch)) fun r_21 m => ∃ (v_22 : Int) (v_23 : Int), r_21 = (.tuple #[(.int .i64 v_22), (.int .i64 v_23)]) ∧ (hIf (v_23 != 0)
    (R (.returned (.bool false)))
    (hQuo .i64 v_22 64 fun v_24 =>
  hIdx (some ⟨b_11, 0, none⟩) (Int.toNat 512) v_24 1 fun a_25 =>
  hLoad (.int .i64) a_25 fun (v_26 : Int) =>
  hIf (v_26 != 0)
    (hInt .i64 (v_20 + 1) fun v_27 =>
  hIf (v_26 != v_27)
    (R (.returned (.bool false)))
    (hQuo .i64 v_22 64 fun v_28 =>
  hInt .i64 (v_20 + 1) fun v_29 =>
  hIdx (some ⟨b_11, 0, none⟩) (Int.toNat 512) v_28 1 fun a_30 =>
  hStore (.int .i64 v_29) a_30
    (hLet (α := Unit) (fun k_31 => hRem v_18 3 fun v_32 =>
  hIf (v_32 == 0)
    (hCall Tryd.prog 25 #[(.pointer v_4), (.int .i64 v_22)] (fun ch => R (.panicked ch)) fun r_33 m => ∃ (v_34 : Int), r_33 = (.int .i64 v_34) ∧ (hIf (v_34 != 0)
    (R (.returned (.bool false)))
    (hCall Tryd.prog 23 #[(.pointer v_4), (.int .i64 v_20), (.int .i64 v_10)] (fun ch => R (.panicked ch)) fun r_35 m => ∃ (v_36 : Int) (v_37 : Int), r_35 = (.tuple #[(.int .i64 v_36), (.int .i64 v_37)]) ∧ (hIf (v_37 != 0)
    (R (.returned (.bool false)))
    (hIf (v_36 != v_22)
    (R (.returned (.bool false)))
    (k_31 (())))) m)) m)
    (k_31 (())))
    (fun x_38 => hAll fun _ => F5_j24 b_12 t47_16 v_20 v_22 again_15 R))))
    (hQuo .i64 v_22 64 fun v_41 =>
  hInt .i64 (v_20 + 1) fun v_42 =>
  hIdx (some ⟨b_11, 0, none⟩) (Int.toNat 512) v_41 1 fun a_43 =>
  hStore (.int .i64 v_42) a_43
    (hLet (α := Unit) (fun k_44 => hRem v_18 3 fun v_45 =>
  hIf (v_45 == 0)
    (hCall Tryd.prog 25 #[(.pointer v_4), (.int .i64 v_22)] (fun ch => R (.panicked ch)) fun r_46 m => ∃ (v_47 : Int), r_46 = (.int .i64 v_47) ∧ (hIf (v_47 != 0)
    (R (.returned (.bool false)))
    (hCall Tryd.prog 23 #[(.pointer v_4), (.int .i64 v_20), (.int .i64 v_10)] (fun ch => R (.panicked ch)) fun r_48 m => ∃ (v_49 : Int) (v_50 : Int), r_48 = (.tuple #[(.int .i64 v_49), (.int .i64 v_50)]) ∧ (hIf (v_50 != 0)
    (R (.returned (.bool false)))
    (hIf (v_49 != v_22)
    (R (.returned (.bool false)))
    (k_44 (())))) m)) m)
    (k_44 (())))
    (fun x_51 => hAll fun _ => F5_j24_2 b_12 t47_16 v_20 v_22 again_15 R))))) m)
    (hCall Tryd.prog 26 #[(.pointer v_4)] (fun ch => R (.panicked ch)) fun r_54 m => ∃ (v_55 : Int) (v_56 : Int) (v_57 : Int), r_54 = (.tuple #[(.int .i64 v_55), (.int .i64 v_56), (.int .i64 v_57)]) ∧ (hIf (v_55 == (if 200 < ((turns_2.n : Nat) : Int) then 200 else ((turns_2.n : Nat) : Int)))
    (R (.returned (.bool (((4 : Nat) : Int) == 4))))
    (R (.returned (.bool false)))) m)
def F5 (words_1 : Int) (turns_2 : Sl) (R : Ending → HP → Prop) : HP → Prop :=
  hCall Tryd.prog 21 #[(.int .i64 512), (.int .i64 4)] (fun ch => R (.panicked ch)) fun r_3 m => ∃ (v_4 : Option Addr) (v_5 : Int), r_3 = (.tuple #[(.pointer v_4), (.int .i64 v_5)]) ∧ (hCall Tryd.prog 22 #[] (fun ch => R (.panicked ch)) fun r_6 m => ∃ (v_7 : Bool), r_6 = (.bool v_7) ∧ (hIf (!v_7)
    (R (.returned (.bool false)))
    (hIf (Option.isNone v_4)
    (R (.returned (.bool false)))
    (hIf (v_5 != 0)
    (R (.returned (.bool false)))
    (hRem words_1 24 fun v_8 =>
  hInt .i64 v_8 fun v_9 =>
  hInt .i64 (v_9 + 1) fun v_10 =>
  hMake 1 8 #[(.int .i64 0)] 3 512 512 fun b_11 =>
  hNew #[(.int .i64 (-1)), (.int .i64 (-1)), (.int .i64 (-1)), (.int .i64 (-1))] 3 fun b_12 =>
  hCut turns_2.a turns_2.cap 0 (if 200 < ((turns_2.n : Nat) : Int) then 200 else ((turns_2.n : Nat) : Int)) 1 fun v_13 =>
  hLoop (α := Int × Unit) (0, ()) fun x_14 again_15 => hAll fun _ => F5_l8 turns_2 v_4 v_10 b_11 b_12 v_13 x_14.1 again_15 R)))) m) m
def ann5 : Ann := { loop := [(8, [(47, (Ty.int .i64))])], cut := [(24, [])] }
theorem den5 (words_1 : Int) (turns_2 : Sl) (R : Ending → HP → Prop) : denF Tryd.prog ann5 Tryd.f5.ntmps Tryd.f5.results.toList code5 [(.int .u8 words_1), (.slice turns_2.a turns_2.n turns_2.cap)] R = F5 words_1 turns_2 R := by kernel_rfl
theorem call5 : Callable Tryd.prog 5 := fun a w => Tryd.call5 a w
theorem F5_fn {words_1 : Int} {turns_2 : Sl} {R : Ending → HP → Prop} {m : HP} (h : F5 words_1 turns_2 R m) : Does Tryd.prog 5 #[(.int .u8 words_1), (.slice turns_2.a turns_2.n turns_2.cap)] m R :=
  fn_of_den mixed (ann := ann5) Tryd.func5 call5 (c := code5) (by kernel_rfl) (by kernel_rfl) (args := [(.int .u8 words_1), (.slice turns_2.a turns_2.n turns_2.cap)]) (Nat.le_of_ble_eq_true (by kernel_rfl)) (.inl (by kernel_rfl)) (by rw [den5]; exact h)
/-! treadle/treadlelaw07.CellPlays -/
noncomputable def code6 : Code := (Tryd.f6.body).getD .skip
def F6_l19 (v_5 : Option Addr) (v_8 : Option Addr) (t60_15 : Int) (made_51 : Sl) (b_54 : Nat) (again_13 : (Sl × Int × Unit) → HP → Prop) (t118_57 : Int) (again_56 : (Int × Unit) → HP → Prop) (R : Ending → HP → Prop) : HP → Prop :=
  hIf (decide (t118_57 < ((3 : Nat) : Int)))
    (hIdx (some ⟨b_54, 0, none⟩) 3 t118_57 1 fun a_58 =>
  hLoad (.int .i64) a_58 fun (v_59 : Int) =>
  hCall Tryd.prog 24 #[(.pointer v_5), (.int .i64 v_59)] (fun ch => R (.panicked ch)) fun r_60 m => ∃ (v_61 : Int) (v_62 : Int) (v_63 : Bool), r_60 = (.tuple #[(.int .i64 v_61), (.int .i64 v_62), (.bool v_63)]) ∧ (hCall Tryd.prog 29 #[(.pointer v_8), (.int .i64 v_59)] (fun ch => R (.panicked ch)) fun r_64 m => ∃ (v_65 : Int) (v_66 : Int) (v_67 : Bool), r_64 = (.tuple #[(.int .i64 v_65), (.int .i64 v_66), (.bool v_67)]) ∧ (hIf (v_61 != v_65)
    (R (.returned (.bool false)))
    (hIf (v_62 != v_66)
    (R (.returned (.bool false)))
    (hIf (!(v_63 == v_67))
    (R (.returned (.bool false)))
    (hQuo .i64 v_59 64 fun v_68 =>
  hCall Tryd.prog 30 #[(.pointer v_5), (.int .i64 v_68)] (fun ch => R (.panicked ch)) fun r_69 m => ∃ (v_70 : Bool), r_69 = (.bool v_70) ∧ (hQuo .i64 v_59 64 fun v_71 =>
  hCall Tryd.prog 31 #[(.pointer v_8), (.int .i64 v_71)] (fun ch => R (.panicked ch)) fun r_72 m => ∃ (v_73 : Bool), r_72 = (.bool v_73) ∧ (hIf (!(v_70 == v_73))
    (R (.returned (.bool false)))
    (hInt .i64 (t118_57 + 1) fun v_74 =>
  again_56 (v_74, ()))) m) m)))) m) m)
    (hCall Tryd.prog 26 #[(.pointer v_5)] (fun ch => R (.panicked ch)) fun r_75 m => ∃ (v_76 : Int) (v_77 : Int) (v_78 : Int), r_75 = (.tuple #[(.int .i64 v_76), (.int .i64 v_77), (.int .i64 v_78)]) ∧ (hCall Tryd.prog 32 #[(.pointer v_8)] (fun ch => R (.panicked ch)) fun r_79 m => ∃ (v_80 : Int) (v_81 : Int) (v_82 : Int), r_79 = (.tuple #[(.int .i64 v_80), (.int .i64 v_81), (.int .i64 v_82)]) ∧ (hIf (v_76 != v_80)
    (R (.returned (.bool false)))
    (hIf (v_77 != v_81)
    (R (.returned (.bool false)))
    (hIf (v_78 != v_82)
    (R (.returned (.bool false)))
    (hInt .i64 (t60_15 + 1) fun v_83 =>
  again_13 (made_51, v_83, ()))))) m) m)
def F6_j18 (v_5 : Option Addr) (v_8 : Option Addr) (t60_15 : Int) (b_21 : Nat) (v_41 : Int) (again_13 : (Sl × Int × Unit) → HP → Prop) (made_51 : Sl) (R : Ending → HP → Prop) : HP → Prop :=
  hInt .i64 (v_41 + 1) fun v_52 =>
  hLoad (.int .i64) ⟨b_21, 1, none⟩ fun (v_53 : Int) =>
  hNew #[(.int .i64 v_41), (.int .i64 v_52), (.int .i64 v_53)] 3 fun b_54 =>
  hLoop (α := Int × Unit) (0, ()) fun x_55 again_56 => hAll fun _ => F6_l19 v_5 v_8 t60_15 made_51 b_54 again_13 x_55.1 again_56 R
def F6_j13 (v_5 : Option Addr) (v_8 : Option Addr) (made_14 : Sl) (t60_15 : Int) (b_21 : Nat) (again_13 : (Sl × Int × Unit) → HP → Prop) (R : Ending → HP → Prop) : HP → Prop :=
  hLoad (.int .i64) ⟨b_21, 0, none⟩ fun (v_36 : Int) =>
  hLoad (.int .i64) ⟨b_21, 1, none⟩ fun (v_37 : Int) =>
  hLoad (.int .i64) ⟨b_21, 2, none⟩ fun (v_38 : Int) =>
  hLoad (.int .i64) ⟨b_21, 3, none⟩ fun (v_39 : Int) =>
  hCall Tryd.prog 28 #[(.pointer v_5), (.pointer v_8), (.agg #[(.int .i64 v_36), (.int .i64 v_37), (.int .i64 v_38), (.int .i64 v_39)])] (fun ch => R (.panicked ch)) fun r_40 m => ∃ (v_41 : Int) (v_42 : Bool), r_40 = (.tuple #[(.int .i64 v_41), (.bool v_42)]) ∧ (hIf (!v_42)
    (R (.returned (.bool false)))
    (hLet (α := Sl × Unit) (fun k_43 => hLoad (.int .i64) ⟨b_21, 0, none⟩ fun (v_44 : Int) =>
  hIf (v_44 == 0)
    (hNew #[(.int .i64 v_41)] 3 fun b_45 =>
  hAppend 1 8 #[(.int .i64 0)] 3 ⟨made_14.a, made_14.n, made_14.cap⟩ ⟨(some ⟨b_45, 0, none⟩), 1, 1⟩ fun v_46 =>
  k_43 (v_46, ()))
    (hLoad (.int .i64) ⟨b_21, 0, none⟩ fun (v_47 : Int) =>
  hIf (v_47 == 3)
    (hNew #[(.int .i64 v_41)] 3 fun b_48 =>
  hAppend 1 8 #[(.int .i64 0)] 3 ⟨made_14.a, made_14.n, made_14.cap⟩ ⟨(some ⟨b_48, 0, none⟩), 1, 1⟩ fun v_49 =>
  k_43 (v_49, ()))
    (k_43 (made_14, ()))))
    (fun x_50 => hAll fun _ => F6_j18 v_5 v_8 t60_15 b_21 v_41 again_13 x_50.1 R))) m
def F6_l9 (script_3 : Sl) (v_5 : Option Addr) (v_8 : Option Addr) (made_14 : Sl) (t60_15 : Int) (again_13 : (Sl × Int × Unit) → HP → Prop) (R : Ending → HP → Prop) : HP → Prop :=
  hIf (decide (t60_15 < ((script_3.n : Nat) : Int)))
    (hIdx script_3.a script_3.n t60_15 4 fun a_16 =>
  hLoad (.int .i64) a_16 fun (v_17 : Int) =>
  hLoad (.int .i64) (a_16.add 1) fun (v_18 : Int) =>
  hLoad (.int .i64) (a_16.add 2) fun (v_19 : Int) =>
  hLoad (.int .i64) (a_16.add 3) fun (v_20 : Int) =>
  hNew #[(.int .i64 0), (.int .i64 0), (.int .i64 0), (.int .i64 0)] 73 fun b_21 =>
  hStore (.int .i64 v_17) ⟨b_21, 0, none⟩
    (hStore (.int .i64 v_18) ⟨b_21, 1, none⟩
    (hStore (.int .i64 v_19) ⟨b_21, 2, none⟩
    (hStore (.int .i64 v_20) ⟨b_21, 3, none⟩
    (hLet (α := Unit) (fun k_22 => hLoad (.int .i64) ⟨b_21, 0, none⟩ fun (v_23 : Int) =>
  hIf (v_23 == 1)
    (hLoad (.int .i64) ⟨b_21, 3, none⟩ fun (v_24 : Int) =>
  hIf (decide (v_24 ≥ 0))
    (hLoad (.int .i64) ⟨b_21, 3, none⟩ fun (v_25 : Int) =>
  hIf (decide (v_25 < ((made_14.n : Nat) : Int)))
    (hLoad (.int .i64) ⟨b_21, 3, none⟩ fun (v_26 : Int) =>
  hIdx made_14.a made_14.n v_26 1 fun a_27 =>
  hLoad (.int .i64) a_27 fun (v_28 : Int) =>
  hStore (.int .i64 v_28) ⟨b_21, 1, none⟩
    (k_22 (())))
    (k_22 (())))
    (k_22 (())))
    (hLoad (.int .i64) ⟨b_21, 0, none⟩ fun (v_29 : Int) =>
  hIf (v_29 == 4)
    (hLoad (.int .i64) ⟨b_21, 3, none⟩ fun (v_30 : Int) =>
  hIf (decide (v_30 ≥ 0))
    (hLoad (.int .i64) ⟨b_21, 3, none⟩ fun (v_31 : Int) =>
  hIf (decide (v_31 < ((made_14.n : Nat) : Int)))
    (hLoad (.int .i64) ⟨b_21, 3, none⟩ fun (v_32 : Int) =>
  hIdx made_14.a made_14.n v_32 1 fun a_33 =>
  hLoad (.int .i64) a_33 fun (v_34 : Int) =>
  hStore (.int .i64 v_34) ⟨b_21, 1, none⟩
    (k_22 (())))
    (k_22 (())))
    (k_22 (())))
    (k_22 (()))))
    (fun x_35 => hAll fun _ => F6_j13 v_5 v_8 made_14 t60_15 b_21 again_13 R))))))
    (R (.returned (.bool true)))
def F6 (pages_1 : Int) (procs_2 : Int) (script_3 : Sl) (R : Ending → HP → Prop) : HP → Prop :=
  hCall Tryd.prog 21 #[(.int .i64 pages_1), (.int .i64 procs_2)] (fun ch => R (.panicked ch)) fun r_4 m => ∃ (v_5 : Option Addr) (v_6 : Int), r_4 = (.tuple #[(.pointer v_5), (.int .i64 v_6)]) ∧ (hCall Tryd.prog 27 #[(.int .i64 pages_1), (.int .i64 procs_2)] (fun ch => R (.panicked ch)) fun r_7 m => ∃ (v_8 : Option Addr) (v_9 : Int), r_7 = (.tuple #[(.pointer v_8), (.int .i64 v_9)]) ∧ (hCall Tryd.prog 22 #[] (fun ch => R (.panicked ch)) fun r_10 m => ∃ (v_11 : Bool), r_10 = (.bool v_11) ∧ (hIf (!v_11)
    (R (.returned (.bool false)))
    (hIf (v_6 != v_9)
    (R (.returned (.bool false)))
    (hIf (!((Option.isNone v_5) == (Option.isNone v_8)))
    (R (.returned (.bool false)))
    (hIf (Option.isNone v_5)
    (R (.returned (.bool true)))
    (hLoop (α := Sl × Int × Unit) ((⟨none, 0, 0⟩ : Sl), 0, ()) fun x_12 again_13 => hAll fun _ => F6_l9 script_3 v_5 v_8 x_12.1 x_12.2.1 again_13 R))))) m) m) m
def ann6 : Ann := { loop := [(9, [(11, Ty.slice), (60, (Ty.int .i64))]), (19, [(118, (Ty.int .i64))])], cut := [(13, []), (18, [(11, Ty.slice)])] }
theorem den6 (pages_1 : Int) (procs_2 : Int) (script_3 : Sl) (R : Ending → HP → Prop) : denF Tryd.prog ann6 Tryd.f6.ntmps Tryd.f6.results.toList code6 [(.int .i64 pages_1), (.int .i64 procs_2), (.slice script_3.a script_3.n script_3.cap)] R = F6 pages_1 procs_2 script_3 R := by kernel_rfl
theorem call6 : Callable Tryd.prog 6 := fun a w => Tryd.call6 a w
theorem F6_fn {pages_1 : Int} {procs_2 : Int} {script_3 : Sl} {R : Ending → HP → Prop} {m : HP} (h : F6 pages_1 procs_2 script_3 R m) : Does Tryd.prog 6 #[(.int .i64 pages_1), (.int .i64 procs_2), (.slice script_3.a script_3.n script_3.cap)] m R :=
  fn_of_den mixed (ann := ann6) Tryd.func6 call6 (c := code6) (by kernel_rfl) (by kernel_rfl) (args := [(.int .i64 pages_1), (.int .i64 procs_2), (.slice script_3.a script_3.n script_3.cap)]) (Nat.le_of_ble_eq_true (by kernel_rfl)) (.inl (by kernel_rfl)) (by rw [den6]; exact h)
/-! treadle/treadlelaw07.CellBack -/
noncomputable def code7 : Code := (Tryd.f7.body).getD .skip
def F7_j11 (t40_10 : Int) (again_8 : (Sl × Int × Unit) → HP → Prop) (at_24 : Sl) (R : Ending → HP → Prop) : HP → Prop :=
  hInt .i64 (t40_10 + 1) fun v_25 =>
  again_8 (at_24, v_25, ())
def F7_l16 (v_3 : Option Addr) (at_9 : Sl) (t81_32 : Int) (again_31 : (Int × Unit) → HP → Prop) (R : Ending → HP → Prop) : HP → Prop :=
  hIf (decide (t81_32 < ((at_9.n : Nat) : Int)))
    (hIdx at_9.a at_9.n t81_32 1 fun a_33 =>
  hLoad (.int .i64) a_33 fun (v_34 : Int) =>
  hCall Tryd.prog 25 #[(.pointer v_3), (.int .i64 v_34)] (fun ch => R (.panicked ch)) fun r_35 m => ∃ (v_36 : Int), r_35 = (.int .i64 v_36) ∧ (hIf (v_36 != 0)
    (R (.returned (.bool false)))
    (hInt .i64 (t81_32 + 1) fun v_37 =>
  again_31 (v_37, ()))) m)
    (hCall Tryd.prog 33 #[(.pointer v_3), (.int .i64 0)] (fun ch => R (.panicked ch)) fun r_38 m => ∃ (v_39 : Int), r_38 = (.int .i64 v_39) ∧ (hIf (v_39 != 0)
    (R (.returned (.bool false)))
    (hCall Tryd.prog 33 #[(.pointer v_3), (.int .i64 1)] (fun ch => R (.panicked ch)) fun r_40 m => ∃ (v_41 : Int), r_40 = (.int .i64 v_41) ∧ (hIf (v_41 != 0)
    (R (.returned (.bool false)))
    (hCall Tryd.prog 33 #[(.pointer v_3), (.int .i64 2)] (fun ch => R (.panicked ch)) fun r_42 m => ∃ (v_43 : Int), r_42 = (.int .i64 v_43) ∧ (hIf (v_43 != 1)
    (R (.returned (.bool false)))
    (hCall Tryd.prog 26 #[(.pointer v_3)] (fun ch => R (.panicked ch)) fun r_44 m => ∃ (v_45 : Int) (v_46 : Int) (v_47 : Int), r_44 = (.tuple #[(.int .i64 v_45), (.int .i64 v_46), (.int .i64 v_47)]) ∧ (hCall Tryd.prog 23 #[(.pointer none), (.int .i64 0), (.int .i64 1)] (fun ch => R (.panicked ch)) fun r_48 m => ∃ (v_49 : Int) (v_50 : Int), r_48 = (.tuple #[(.int .i64 v_49), (.int .i64 v_50)]) ∧ (hCall Tryd.prog 24 #[(.pointer none), (.int .i64 0)] (fun ch => R (.panicked ch)) fun r_51 m => ∃ (v_52 : Int) (v_53 : Int) (v_54 : Bool), r_51 = (.tuple #[(.int .i64 v_52), (.int .i64 v_53), (.bool v_54)]) ∧ (hCall Tryd.prog 34 #[(.pointer none), (.int .i64 1)] (fun ch => R (.panicked ch)) fun r_55 m => ∃ (v_56 : Int) (v_57 : Int), r_55 = (.tuple #[(.int .i64 v_56), (.int .i64 v_57)]) ∧ (hIf (v_45 == 0)
    (hIf (v_46 == 0)
    (hIf (v_47 == 200)
    (hIf (v_50 == 5)
    (hIf (!v_54)
    (hIf (v_57 == 5)
    (hCall Tryd.prog 25 #[(.pointer none), (.int .i64 0)] (fun ch => R (.panicked ch)) fun r_58 m => ∃ (v_59 : Int), r_58 = (.int .i64 v_59) ∧ (hIf (v_59 == 5)
    (hCall Tryd.prog 33 #[(.pointer none), (.int .i64 0)] (fun ch => R (.panicked ch)) fun r_60 m => ∃ (v_61 : Int), r_60 = (.int .i64 v_61) ∧ (hIf (v_61 == 5)
    (hCall Tryd.prog 35 #[(.pointer none), (.int .i64 0)] (fun ch => R (.panicked ch)) fun r_62 m => ∃ (v_63 : Int), r_62 = (.int .i64 v_63) ∧ (hIf (v_63 == 5)
    (hCall Tryd.prog 30 #[(.pointer none), (.int .i64 0)] (fun ch => R (.panicked ch)) fun r_64 m => ∃ (v_65 : Bool), r_64 = (.bool v_65) ∧ (R (.returned (.bool (!v_65)))) m)
    (R (.returned (.bool false)))) m)
    (R (.returned (.bool false)))) m)
    (R (.returned (.bool false)))) m)
    (R (.returned (.bool false))))
    (R (.returned (.bool false))))
    (R (.returned (.bool false))))
    (R (.returned (.bool false))))
    (R (.returned (.bool false))))
    (R (.returned (.bool false)))) m) m) m) m)) m)) m)) m)
def F7_l6 (sizes_1 : Sl) (v_3 : Option Addr) (at_9 : Sl) (t40_10 : Int) (again_8 : (Sl × Int × Unit) → HP → Prop) (R : Ending → HP → Prop) : HP → Prop :=
  hIf (decide (t40_10 < ((sizes_1.n : Nat) : Int)))
    (hLet (α := Sl × Unit) (fun k_11 => hIdx sizes_1.a sizes_1.n t40_10 1 fun a_12 =>
  hLoad (.int .u16) a_12 fun (v_13 : Int) =>
  hRem t40_10 2 fun v_14 =>
  hRem v_13 500 fun v_15 =>
  hInt .i64 v_15 fun v_16 =>
  hInt .i64 (v_16 + 1) fun v_17 =>
  hCall Tryd.prog 23 #[(.pointer v_3), (.int .i64 v_14), (.int .i64 v_17)] (fun ch => R (.panicked ch)) fun r_18 m => ∃ (v_19 : Int) (v_20 : Int), r_18 = (.tuple #[(.int .i64 v_19), (.int .i64 v_20)]) ∧ (hIf (v_20 == 0)
    (hNew #[(.int .i64 v_19)] 3 fun b_21 =>
  hAppend 1 8 #[(.int .i64 0)] 3 ⟨at_9.a, at_9.n, at_9.cap⟩ ⟨(some ⟨b_21, 0, none⟩), 1, 1⟩ fun v_22 =>
  k_11 (v_22, ()))
    (k_11 (at_9, ()))) m)
    (fun x_23 => hAll fun _ => F7_j11 t40_10 again_8 x_23.1 R))
    (hCall Tryd.prog 26 #[(.pointer v_3)] (fun ch => R (.panicked ch)) fun r_26 m => ∃ (v_27 : Int) (v_28 : Int) (v_29 : Int), r_26 = (.tuple #[(.int .i64 v_27), (.int .i64 v_28), (.int .i64 v_29)]) ∧ (hIf (v_27 != ((at_9.n : Nat) : Int))
    (R (.returned (.bool false)))
    (hIf (decide (v_28 < ((at_9.n : Nat) : Int)))
    (R (.returned (.bool false)))
    (hLoop (α := Int × Unit) (0, ()) fun x_30 again_31 => hAll fun _ => F7_l16 v_3 at_9 x_30.1 again_31 R))) m)
def F7 (sizes_1 : Sl) (R : Ending → HP → Prop) : HP → Prop :=
  hCall Tryd.prog 21 #[(.int .i64 200), (.int .i64 2)] (fun ch => R (.panicked ch)) fun r_2 m => ∃ (v_3 : Option Addr) (v_4 : Int), r_2 = (.tuple #[(.pointer v_3), (.int .i64 v_4)]) ∧ (hCall Tryd.prog 22 #[] (fun ch => R (.panicked ch)) fun r_5 m => ∃ (v_6 : Bool), r_5 = (.bool v_6) ∧ (hIf (!v_6)
    (R (.returned (.bool false)))
    (hIf (Option.isNone v_3)
    (R (.returned (.bool false)))
    (hIf (v_4 != 0)
    (R (.returned (.bool false)))
    (hLoop (α := Sl × Int × Unit) ((⟨none, 0, 0⟩ : Sl), 0, ()) fun x_7 again_8 => hAll fun _ => F7_l6 sizes_1 v_3 x_7.1 x_7.2.1 again_8 R)))) m) m
def ann7 : Ann := { loop := [(6, [(5, Ty.slice), (40, (Ty.int .i64))]), (16, [(81, (Ty.int .i64))])], cut := [(11, [(5, Ty.slice)])] }
theorem den7 (sizes_1 : Sl) (R : Ending → HP → Prop) : denF Tryd.prog ann7 Tryd.f7.ntmps Tryd.f7.results.toList code7 [(.slice sizes_1.a sizes_1.n sizes_1.cap)] R = F7 sizes_1 R := by kernel_rfl
theorem call7 : Callable Tryd.prog 7 := fun a w => Tryd.call7 a w
theorem F7_fn {sizes_1 : Sl} {R : Ending → HP → Prop} {m : HP} (h : F7 sizes_1 R m) : Does Tryd.prog 7 #[(.slice sizes_1.a sizes_1.n sizes_1.cap)] m R :=
  fn_of_den mixed (ann := ann7) Tryd.func7 call7 (c := code7) (by kernel_rfl) (by kernel_rfl) (args := [(.slice sizes_1.a sizes_1.n sizes_1.cap)]) (Nat.le_of_ble_eq_true (by kernel_rfl)) (.inl (by kernel_rfl)) (by rw [den7]; exact h)
/-! treadle/treadlelaw05.awake -/
noncomputable def code10 : Code := (Tryd.f10.body).getD .skip
def F10 (R : Ending → HP → Prop) : HP → Prop :=
  hCall Tryd.prog 8 #[(.int .i64 8)] (fun ch => R (.panicked ch)) fun r_1 m => ∃ (v_2 : Option Addr) (v_3 : Int), r_1 = (.tuple #[(.pointer v_2), (.int .i64 v_3)]) ∧ (hIf (Option.isNone v_2)
    (R (.returned (.bool false)))
    (hIf (v_3 != 0)
    (R (.returned (.bool false)))
    (hCall Tryd.prog 11 #[(.pointer v_2), (.int .i64 3), (.int .i64 7)] (fun ch => R (.panicked ch)) fun r_4 m => ∃ (r_5 : Int) (r_6 : Int) (r_7 : Int) (v_8 : Int), r_4 = (.tuple #[(.agg #[(.int .i64 r_5), (.int .i64 r_6), (.int .i64 r_7)]), (.int .i64 v_8)]) ∧ (hNew #[(.int .i64 0), (.int .i64 0), (.int .i64 0)] 34 fun b_9 =>
  hStore (.int .i64 r_5) ⟨b_9, 0, none⟩
    (hStore (.int .i64 r_6) ⟨b_9, 1, none⟩
    (hStore (.int .i64 r_7) ⟨b_9, 2, none⟩
    (hCall Tryd.prog 15 #[(.pointer v_2), (.int .i64 2)] (fun ch => R (.panicked ch)) fun r_10 m => ∃ (r_11 : Int) (r_12 : Int) (r_13 : Int) (v_14 : Bool), r_10 = (.tuple #[(.agg #[(.int .i64 r_11), (.int .i64 r_12), (.int .i64 r_13)]), (.bool v_14)]) ∧ (hNew #[(.int .i64 0), (.int .i64 0), (.int .i64 0)] 34 fun b_15 =>
  hStore (.int .i64 r_11) ⟨b_15, 0, none⟩
    (hStore (.int .i64 r_12) ⟨b_15, 1, none⟩
    (hStore (.int .i64 r_13) ⟨b_15, 2, none⟩
    (hIf (v_8 == 0)
    (hLoad (.int .i64) ⟨b_9, 0, none⟩ fun (v_16 : Int) =>
  hLoad (.int .i64) ⟨b_9, 1, none⟩ fun (v_17 : Int) =>
  hLoad (.int .i64) ⟨b_9, 2, none⟩ fun (v_18 : Int) =>
  hEq Tryd.prog .eql 34 (.tmp 30) (.tmp 31) (.agg #[(.int .i64 v_16), (.int .i64 v_17), (.int .i64 v_18)]) (.agg #[(.int .i64 0), (.int .i64 3), (.int .i64 7)]) fun e_19 =>
  hIf e_19
    (hIf v_14
    (hLoad (.int .i64) ⟨b_15, 0, none⟩ fun (v_20 : Int) =>
  hLoad (.int .i64) ⟨b_15, 1, none⟩ fun (v_21 : Int) =>
  hLoad (.int .i64) ⟨b_15, 2, none⟩ fun (v_22 : Int) =>
  hLoad (.int .i64) ⟨b_9, 0, none⟩ fun (v_23 : Int) =>
  hLoad (.int .i64) ⟨b_9, 1, none⟩ fun (v_24 : Int) =>
  hLoad (.int .i64) ⟨b_9, 2, none⟩ fun (v_25 : Int) =>
  hEq Tryd.prog .eql 34 (.tmp 38) (.tmp 39) (.agg #[(.int .i64 v_20), (.int .i64 v_21), (.int .i64 v_22)]) (.agg #[(.int .i64 v_23), (.int .i64 v_24), (.int .i64 v_25)]) fun e_26 =>
  hIf e_26
    (hCall Tryd.prog 13 #[(.pointer v_2), (.int .i64 1)] (fun ch => R (.panicked ch)) fun r_27 m => ∃ (v_28 : Int), r_27 = (.int .i64 v_28) ∧ (hIf (v_28 == 4)
    (hCall Tryd.prog 13 #[(.pointer v_2), (.int .i64 0)] (fun ch => R (.panicked ch)) fun r_29 m => ∃ (v_30 : Int), r_29 = (.int .i64 v_30) ∧ (R (.returned (.bool (v_30 == 0)))) m)
    (R (.returned (.bool false)))) m)
    (R (.returned (.bool false))))
    (R (.returned (.bool false))))
    (R (.returned (.bool false))))
    (R (.returned (.bool false))))))) m)))) m))) m
def ann10 : Ann := { loop := [], cut := [] }
theorem den10 (R : Ending → HP → Prop) : denF Tryd.prog ann10 Tryd.f10.ntmps Tryd.f10.results.toList code10 [] R = F10  R := by kernel_rfl
theorem call10 : Callable Tryd.prog 10 := fun a w => Tryd.call10 a w
theorem F10_fn {R : Ending → HP → Prop} {m : HP} (h : F10  R m) : Does Tryd.prog 10 #[] m R :=
  fn_of_den mixed (ann := ann10) Tryd.func10 call10 (c := code10) (by kernel_rfl) (by kernel_rfl) (args := []) (Nat.le_of_ble_eq_true (by kernel_rfl)) (.inl (by kernel_rfl)) (by rw [den10]; exact h)
/-! treadle/treadlelaw05.all -/
noncomputable def code19 : Code := (Tryd.f19.body).getD .skip
def F19 (t_1 : Option Addr) (most_2 : Int) (R : Ending → HP → Prop) : HP → Prop :=
  hNew #[(.int .i64 most_2)] 3 fun b_3 =>
  hNew #[(.slice none 0 0)] 46 fun b_4 =>
  hCall Tryd.prog 45 #[(.pointer t_1)] (fun ch => R (.panicked ch)) fun r_5 m => ∃ (v_6 : Value), r_5 = v_6 ∧ (hCmp Tryd.prog .eql 94 (.tmp 11) (.const .nilFunc) v_6 .nilFunc fun e_7 =>
  hIf e_7
    (hCmp Tryd.prog .neq 94 (.tmp 17) (.const .nilFunc) v_6 .nilFunc fun e_8 =>
  R (.returned (.tuple #[(.slice none 0 0), (.bool e_8)])))
    (hLoad (.int .i64) ⟨b_3, 0, none⟩ fun (v_9 : Int) =>
  hIf (v_9 == 0)
    (hCmp Tryd.prog .neq 94 (.tmp 17) (.const .nilFunc) v_6 .nilFunc fun e_10 =>
  R (.returned (.tuple #[(.slice none 0 0), (.bool e_10)])))
    (hRange Tryd.prog 35 v_6 [(3, (.pointer (some ⟨b_3, 0, none⟩))), (6, (.pointer (some ⟨b_4, 0, none⟩)))] (rangeAt 0 code19) (fun r_11 =>
  hLoad .slice ⟨b_4, 0, none⟩ fun (v_14 : Sl) =>
  fun m => ∃ m', m = pt r_11 (.deferred (some [])) + m' ∧ (R (.returned (.tuple #[(.slice v_14.a v_14.n v_14.cap), (.bool true)]))) m')
   (fun r_11 =>
  fun m => ∃ m', m = pt r_11 (.deferred (some [])) + m' ∧ (R (.returned (.tuple #[(.slice none 0 0), (.bool false)]))) m')
   (fun i_12 r_11 =>
  hPick (i_12 == 0)
    (hLoad .slice ⟨b_4, 0, none⟩ fun (v_13 : Sl) =>
  fun m => ∃ m', m = pt r_11 (.deferred (some [])) + m' ∧ (R (.returned (.tuple #[(.slice v_13.a v_13.n v_13.cap), (.bool true)]))) m')
    (no))))) m
def ann19 : Ann := { loop := [], cut := [], range := [(7, [3, 6])] }
theorem den19 (t_1 : Option Addr) (most_2 : Int) (R : Ending → HP → Prop) : denF Tryd.prog ann19 Tryd.f19.ntmps Tryd.f19.results.toList code19 [(.pointer t_1), (.int .i64 most_2)] R = F19 t_1 most_2 R := by kernel_rfl
theorem call19 : Callable Tryd.prog 19 := fun a w => Tryd.call19 a w
theorem F19_fn {t_1 : Option Addr} {most_2 : Int} {R : Ending → HP → Prop} {m : HP} (hR : ∀ ch m, ¬ R (.panicked ch) m) (h : F19 t_1 most_2 R m) : Does Tryd.prog 19 #[(.pointer t_1), (.int .i64 most_2)] m R :=
  fn_of_den mixed (ann := ann19) Tryd.func19 call19 (c := code19) (by kernel_rfl) (by kernel_rfl) (args := [(.pointer t_1), (.int .i64 most_2)]) (Nat.le_of_ble_eq_true (by kernel_rfl)) (.inr hR) (by rw [den19]; exact h)
def F19_r0 (a_15 : Addr) (a_16 : Addr) (y_17 : Int) (y_18 : Int) (y_19 : Int) (l : Nat) (rc : Loop) (R : Ending → HP → Prop) : HP → Prop :=
  hAll fun _ =>
  hNew #[(.int .i64 0), (.int .i64 0), (.int .i64 0)] 34 fun b_20 =>
  hStore (.int .i64 y_17) ⟨b_20, 0, none⟩
    (hStore (.int .i64 y_18) ⟨b_20, 1, none⟩
    (hStore (.int .i64 y_19) ⟨b_20, 2, none⟩
    (hRec l rc (rcBusy rc) (
  hLoad .slice a_16 fun (v_21 : Sl) =>
  hLoad (.int .i64) ⟨b_20, 0, none⟩ fun (v_22 : Int) =>
  hLoad (.int .i64) ⟨b_20, 1, none⟩ fun (v_23 : Int) =>
  hLoad (.int .i64) ⟨b_20, 2, none⟩ fun (v_24 : Int) =>
  hNew #[(.int .i64 v_22), (.int .i64 v_23), (.int .i64 v_24)] 34 fun b_25 =>
  hAppend 3 24 #[(.int .i64 0), (.int .i64 0), (.int .i64 0)] 34 ⟨v_21.a, v_21.n, v_21.cap⟩ ⟨(some ⟨b_25, 0, none⟩), 1, 1⟩ fun v_26 =>
  hStore (.slice v_26.a v_26.n v_26.cap) a_16
    (hLoad .slice a_16 fun (v_27 : Sl) =>
  hLoad (.int .i64) a_15 fun (v_28 : Int) =>
  hIf (((v_27.n : Nat) : Int) == v_28)
    (hRec l (rcBusy rc) (rcDone rc (.exit 0)) (R (.returned (.bool false))))
    (hLoad .slice a_16 fun (v_29 : Sl) =>
  hIf (decide (((v_29.n : Nat) : Int) > 5000))
    (hRec l (rcBusy rc) (rcDone rc (.exit 0)) (R (.returned (.bool false))))
    (hRec l (rcBusy rc) (rcNext rc) (R (.returned (.bool true))))))))))
theorem round19_0 (a_15 : Addr) (a_16 : Addr) (y_17 : Int) (y_18 : Int) (y_19 : Int) (l : Nat) (rc : Loop) (R : Ending → HP → Prop) : denRound Tryd.prog ann19 35 [(3, (.pointer (some a_15))), (6, (.pointer (some a_16)))] (rangeAt 0 code19) l rc [(.agg #[(.int .i64 y_17), (.int .i64 y_18), (.int .i64 y_19)])] R = F19_r0 a_15 a_16 y_17 y_18 y_19 l rc R := by kernel_rfl
theorem F19_y0 {a_15 : Addr} {a_16 : Addr} {y_17 : Int} {y_18 : Int} {y_19 : Int} {l : Nat} {rc : Loop} {R : Ending → HP → Prop} {m m0 : HP} {rc0 : Loop} (hl : IsLoop 35 [(3, (.pointer (some a_15))), (6, (.pointer (some a_16)))] (rangeAt 0 code19) rc0) (hrc : rc = { rc0 with state := .ready, pending := none }) (hm : m = pt l (.loop rc) + m0) (h : F19_r0 a_15 a_16 y_17 y_18 y_19 l rc R m) : HYield Tryd.prog l #[(.agg #[(.int .i64 y_17), (.int .i64 y_18), (.int .i64 y_19)])] m R :=
  yield_of_den mixed (ann := ann19) (args := [(.agg #[(.int .i64 y_17), (.int .i64 y_18), (.int .i64 y_19)])]) hl hrc (by kernel_rfl) hm (by rw [round19_0]; exact h)
/-! treadle/treadlelaw07.awake -/
noncomputable def code22 : Code := (Tryd.f22.body).getD .skip
def F22 (R : Ending → HP → Prop) : HP → Prop :=
  hCall Tryd.prog 21 #[(.int .i64 8), (.int .i64 2)] (fun ch => R (.panicked ch)) fun r_1 m => ∃ (v_2 : Option Addr) (v_3 : Int), r_1 = (.tuple #[(.pointer v_2), (.int .i64 v_3)]) ∧ (hIf (Option.isNone v_2)
    (R (.returned (.bool false)))
    (hIf (v_3 != 0)
    (R (.returned (.bool false)))
    (hCall Tryd.prog 23 #[(.pointer v_2), (.int .i64 0), (.int .i64 3)] (fun ch => R (.panicked ch)) fun r_4 m => ∃ (v_5 : Int) (v_6 : Int), r_4 = (.tuple #[(.int .i64 v_5), (.int .i64 v_6)]) ∧ (hCall Tryd.prog 23 #[(.pointer v_2), (.int .i64 0), (.int .i64 3)] (fun ch => R (.panicked ch)) fun r_7 m => ∃ (v_8 : Int) (v_9 : Int), r_7 = (.tuple #[(.int .i64 v_8), (.int .i64 v_9)]) ∧ (hCall Tryd.prog 23 #[(.pointer v_2), (.int .i64 1), (.int .i64 3)] (fun ch => R (.panicked ch)) fun r_10 m => ∃ (v_11 : Int) (v_12 : Int), r_10 = (.tuple #[(.int .i64 v_11), (.int .i64 v_12)]) ∧ (hCall Tryd.prog 24 #[(.pointer v_2), (.int .i64 5)] (fun ch => R (.panicked ch)) fun r_13 m => ∃ (v_14 : Int) (v_15 : Int) (v_16 : Bool), r_13 = (.tuple #[(.int .i64 v_14), (.int .i64 v_15), (.bool v_16)]) ∧ (hIf (v_6 == 0)
    (hIf (v_9 == 0)
    (hIf (v_12 == 0)
    (hIf (v_5 == 0)
    (hIf (v_8 == 3)
    (hIf (v_11 == 64)
    (hIf v_16
    (hIf (v_14 == 3)
    (hIf (v_15 == 3)
    (hCall Tryd.prog 30 #[(.pointer v_2), (.int .i64 1)] (fun ch => R (.panicked ch)) fun r_17 m => ∃ (v_18 : Bool), r_17 = (.bool v_18) ∧ (hIf v_18
    (hCall Tryd.prog 30 #[(.pointer v_2), (.int .i64 2)] (fun ch => R (.panicked ch)) fun r_19 m => ∃ (v_20 : Bool), r_19 = (.bool v_20) ∧ (R (.returned (.bool (!v_20)))) m)
    (R (.returned (.bool false)))) m)
    (R (.returned (.bool false))))
    (R (.returned (.bool false))))
    (R (.returned (.bool false))))
    (R (.returned (.bool false))))
    (R (.returned (.bool false))))
    (R (.returned (.bool false))))
    (R (.returned (.bool false))))
    (R (.returned (.bool false))))
    (R (.returned (.bool false)))) m) m) m) m))) m
def ann22 : Ann := { loop := [], cut := [] }
theorem den22 (R : Ending → HP → Prop) : denF Tryd.prog ann22 Tryd.f22.ntmps Tryd.f22.results.toList code22 [] R = F22  R := by kernel_rfl
theorem call22 : Callable Tryd.prog 22 := fun a w => Tryd.call22 a w
theorem F22_fn {R : Ending → HP → Prop} {m : HP} (h : F22  R m) : Does Tryd.prog 22 #[] m R :=
  fn_of_den mixed (ann := ann22) Tryd.func22 call22 (c := code22) (by kernel_rfl) (by kernel_rfl) (args := []) (Nat.le_of_ble_eq_true (by kernel_rfl)) (.inl (by kernel_rfl)) (by rw [den22]; exact h)
/-! treadle/treadlelaw07.one -/
noncomputable def code28 : Code := (Tryd.f28.body).getD .skip
def F28 (c_1 : Option Addr) (r_2 : Option Addr) (o_3 : Int) (o_4 : Int) (o_5 : Int) (o_6 : Int) (R : Ending → HP → Prop) : HP → Prop :=
  hNew #[(.int .i64 o_3), (.int .i64 o_4), (.int .i64 o_5), (.int .i64 o_6)] 73 fun b_7 =>
  hLoad (.int .i64) ⟨b_7, 0, none⟩ fun (v_8 : Int) =>
  hIf (v_8 == 0)
    (hLoad (.int .i64) ⟨b_7, 1, none⟩ fun (v_9 : Int) =>
  hLoad (.int .i64) ⟨b_7, 2, none⟩ fun (v_10 : Int) =>
  hCall Tryd.prog 23 #[(.pointer c_1), (.int .i64 v_9), (.int .i64 v_10)] (fun ch => R (.panicked ch)) fun r_11 m => ∃ (v_12 : Int) (v_13 : Int), r_11 = (.tuple #[(.int .i64 v_12), (.int .i64 v_13)]) ∧ (hLoad (.int .i64) ⟨b_7, 1, none⟩ fun (v_14 : Int) =>
  hLoad (.int .i64) ⟨b_7, 2, none⟩ fun (v_15 : Int) =>
  hCall Tryd.prog 55 #[(.pointer r_2), (.int .i64 v_14), (.int .i64 v_15)] (fun ch => R (.panicked ch)) fun r_16 m => ∃ (v_17 : Int) (v_18 : Int), r_16 = (.tuple #[(.int .i64 v_17), (.int .i64 v_18)]) ∧ (hIf (v_12 == v_17)
    (R (.returned (.tuple #[(.int .i64 v_12), (.bool (v_13 == v_18))])))
    (R (.returned (.tuple #[(.int .i64 v_12), (.bool false)])))) m) m)
    (hIf (v_8 == 1)
    (hLoad (.int .i64) ⟨b_7, 1, none⟩ fun (v_19 : Int) =>
  hLoad (.int .i64) ⟨b_7, 1, none⟩ fun (v_20 : Int) =>
  hCall Tryd.prog 25 #[(.pointer c_1), (.int .i64 v_19)] (fun ch => R (.panicked ch)) fun r_21 m => ∃ (v_22 : Int), r_21 = (.int .i64 v_22) ∧ (hLoad (.int .i64) ⟨b_7, 1, none⟩ fun (v_23 : Int) =>
  fun m => ((.int .i64 v_23) : Value) = (.int .i64 v_20) ∧ (hCall Tryd.prog 56 #[(.pointer r_2), (.int .i64 v_20)] (fun ch => R (.panicked ch)) fun r_24 m => ∃ (v_25 : Int), r_24 = (.int .i64 v_25) ∧ (R (.returned (.tuple #[(.int .i64 0), (.bool (v_22 == v_25))]))) m) m) m)
    (hIf (v_8 == 2)
    (hLoad (.int .i64) ⟨b_7, 1, none⟩ fun (v_26 : Int) =>
  hLoad (.int .i64) ⟨b_7, 1, none⟩ fun (v_27 : Int) =>
  hCall Tryd.prog 33 #[(.pointer c_1), (.int .i64 v_26)] (fun ch => R (.panicked ch)) fun r_28 m => ∃ (v_29 : Int), r_28 = (.int .i64 v_29) ∧ (hLoad (.int .i64) ⟨b_7, 1, none⟩ fun (v_30 : Int) =>
  fun m => ((.int .i64 v_30) : Value) = (.int .i64 v_27) ∧ (hCall Tryd.prog 57 #[(.pointer r_2), (.int .i64 v_27)] (fun ch => R (.panicked ch)) fun r_31 m => ∃ (v_32 : Int), r_31 = (.int .i64 v_32) ∧ (R (.returned (.tuple #[(.int .i64 0), (.bool (v_29 == v_32))]))) m) m) m)
    (hIf (v_8 == 3)
    (hLoad (.int .i64) ⟨b_7, 2, none⟩ fun (v_33 : Int) =>
  hCall Tryd.prog 34 #[(.pointer c_1), (.int .i64 v_33)] (fun ch => R (.panicked ch)) fun r_34 m => ∃ (v_35 : Int) (v_36 : Int), r_34 = (.tuple #[(.int .i64 v_35), (.int .i64 v_36)]) ∧ (hLoad (.int .i64) ⟨b_7, 2, none⟩ fun (v_37 : Int) =>
  hCall Tryd.prog 58 #[(.pointer r_2), (.int .i64 v_37)] (fun ch => R (.panicked ch)) fun r_38 m => ∃ (v_39 : Int) (v_40 : Int), r_38 = (.tuple #[(.int .i64 v_39), (.int .i64 v_40)]) ∧ (hIf (v_35 == v_39)
    (R (.returned (.tuple #[(.int .i64 v_35), (.bool (v_36 == v_40))])))
    (R (.returned (.tuple #[(.int .i64 v_35), (.bool false)])))) m) m)
    (hIf (v_8 == 4)
    (hLoad (.int .i64) ⟨b_7, 1, none⟩ fun (v_41 : Int) =>
  hLoad (.int .i64) ⟨b_7, 1, none⟩ fun (v_42 : Int) =>
  hCall Tryd.prog 35 #[(.pointer c_1), (.int .i64 v_41)] (fun ch => R (.panicked ch)) fun r_43 m => ∃ (v_44 : Int), r_43 = (.int .i64 v_44) ∧ (hLoad (.int .i64) ⟨b_7, 1, none⟩ fun (v_45 : Int) =>
  fun m => ((.int .i64 v_45) : Value) = (.int .i64 v_42) ∧ (hCall Tryd.prog 59 #[(.pointer r_2), (.int .i64 v_42)] (fun ch => R (.panicked ch)) fun r_46 m => ∃ (v_47 : Int), r_46 = (.int .i64 v_47) ∧ (R (.returned (.tuple #[(.int .i64 0), (.bool (v_44 == v_47))]))) m) m) m)
    (R (.returned (.tuple #[(.int .i64 0), (.bool true)])))))))
def ann28 : Ann := { loop := [], cut := [] }
theorem den28 (c_1 : Option Addr) (r_2 : Option Addr) (o_3 : Int) (o_4 : Int) (o_5 : Int) (o_6 : Int) (R : Ending → HP → Prop) : denF Tryd.prog ann28 Tryd.f28.ntmps Tryd.f28.results.toList code28 [(.pointer c_1), (.pointer r_2), (.agg #[(.int .i64 o_3), (.int .i64 o_4), (.int .i64 o_5), (.int .i64 o_6)])] R = F28 c_1 r_2 o_3 o_4 o_5 o_6 R := by kernel_rfl
theorem call28 : Callable Tryd.prog 28 := fun a w => Tryd.call28 a w
theorem F28_fn {c_1 : Option Addr} {r_2 : Option Addr} {o_3 : Int} {o_4 : Int} {o_5 : Int} {o_6 : Int} {R : Ending → HP → Prop} {m : HP} (h : F28 c_1 r_2 o_3 o_4 o_5 o_6 R m) : Does Tryd.prog 28 #[(.pointer c_1), (.pointer r_2), (.agg #[(.int .i64 o_3), (.int .i64 o_4), (.int .i64 o_5), (.int .i64 o_6)])] m R :=
  fn_of_den mixed (ann := ann28) Tryd.func28 call28 (c := code28) (by kernel_rfl) (by kernel_rfl) (args := [(.pointer c_1), (.pointer r_2), (.agg #[(.int .i64 o_3), (.int .i64 o_4), (.int .i64 o_5), (.int .i64 o_6)])]) (Nat.le_of_ble_eq_true (by kernel_rfl)) (.inl (by kernel_rfl)) (by rw [den28]; exact h)
end Go.Proofs.YtolfcdjbchdkgaaDoor
