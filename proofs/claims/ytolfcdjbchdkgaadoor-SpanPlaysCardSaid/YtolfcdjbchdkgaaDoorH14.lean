/- Words of 64 bits as the model's integers. Own work; nothing of any program. -/
import Derived.Test.YtolfcdjbchdkgaaDoorH13
namespace Go.Hp
open Go

/-- A word as the model has it. -/
def W (x : BitVec 64) : Int := (x.toNat : Int)
theorem W_inj {x y : BitVec 64} : W x = W y ↔ x = y := by
  unfold W; rw [Int.natCast_inj]; exact ⟨BitVec.eq_of_toNat_eq, fun h => by rw [h]⟩
theorem W_lit (n : Nat) (h : n < 18446744073709551616) : (n : Int) = W (BitVec.ofNat 64 n) := by
  unfold W; rw [BitVec.toNat_ofNat, Nat.mod_eq_of_lt (by simpa using h)]
theorem W_nonneg (x : BitVec 64) : 0 ≤ W x := Int.natCast_nonneg _
theorem W_lt (x : BitVec 64) : W x < 18446744073709551616 := by unfold W; have := x.isLt; omega
theorem ofInt_W (x : BitVec 64) : BitVec.ofInt 64 (W x) = x := by
  unfold W; apply BitVec.eq_of_toNat_eq; simp
theorem wrapN {n : Nat} : IntKind.u64.wrap (n : Int) = ((n % 18446744073709551616 : Nat) : Int) := by rw [wrap_u64]; omega
theorem bitv_and (x y : BitVec 64) : bitv .and .u64 (W x) (W y) = W (x &&& y) := by
  have e : bitv .and .u64 (W x) (W y) = IntKind.u64.wrap ((BitVec.ofInt 64 (W x) &&& BitVec.ofInt 64 (W y)).toNat : Nat) := by rfl
  rw [e, ofInt_W, ofInt_W, wrapN, Nat.mod_eq_of_lt (x &&& y).isLt]; rfl
theorem bitv_or (x y : BitVec 64) : bitv .or .u64 (W x) (W y) = W (x ||| y) := by
  have e : bitv .or .u64 (W x) (W y) = IntKind.u64.wrap ((BitVec.ofInt 64 (W x) ||| BitVec.ofInt 64 (W y)).toNat : Nat) := by rfl
  rw [e, ofInt_W, ofInt_W, wrapN, Nat.mod_eq_of_lt (x ||| y).isLt]; rfl
theorem bitv_xor (x y : BitVec 64) : bitv .xor .u64 (W x) (W y) = W (x ^^^ y) := by
  have e : bitv .xor .u64 (W x) (W y) = IntKind.u64.wrap ((BitVec.ofInt 64 (W x) ^^^ BitVec.ofInt 64 (W y)).toNat : Nat) := by rfl
  rw [e, ofInt_W, ofInt_W, wrapN, Nat.mod_eq_of_lt (x ^^^ y).isLt]; rfl
theorem bitv_andNot (x y : BitVec 64) : bitv .andNot .u64 (W x) (W y) = W (x &&& ~~~y) := by
  have e : bitv .andNot .u64 (W x) (W y) = IntKind.u64.wrap ((BitVec.ofInt 64 (W x) &&& ~~~BitVec.ofInt 64 (W y)).toNat : Nat) := by rfl
  rw [e, ofInt_W, ofInt_W, wrapN, Nat.mod_eq_of_lt (x &&& ~~~y).isLt]; rfl
theorem maxW : IntKind.max .u64 = W (BitVec.allOnes 64) := by decide
theorem bitv_not (x : BitVec 64) : bitv .xor .u64 (IntKind.max .u64) (W x) = W (~~~x) := by
  rw [maxW, bitv_xor, BitVec.allOnes_xor]
section
variable {m : HP}
theorem hInt_negW {x : BitVec 64} {K : Int → HP → Prop} (hk : K (W (-x)) m) : hInt .u64 (0 - W x) K m := by
  unfold hInt
  have : IntKind.u64.wrap (0 - W x) = W (-x) := by
    rw [wrap_u64]; unfold W; rw [BitVec.toNat_neg]; have := x.isLt; omega
  rw [this]; exact hk
theorem hInt_addW {x y : BitVec 64} {K : Int → HP → Prop} (hk : K (W (x + y)) m) : hInt .u64 (W x + W y) K m := by
  unfold hInt
  have : IntKind.u64.wrap (W x + W y) = W (x + y) := by
    rw [wrap_u64]; unfold W; rw [BitVec.toNat_add]; have := x.isLt; omega
  rw [this]; exact hk
theorem hInt_mulW {x y : BitVec 64} {K : Int → HP → Prop} (hk : K (W (x * y)) m) : hInt .u64 (W x * W y) K m := by
  unfold hInt
  have : IntKind.u64.wrap (W x * W y) = W (x * y) := by
    rw [wrap_u64]; unfold W; rw [BitVec.toNat_mul]; omega
  rw [this]; exact hk
theorem hShr_W {x : BitVec 64} {s : Int} {K : Int → HP → Prop} (h0 : 0 ≤ s) (hk : K (W (x >>> s.toNat)) m) : hShr .u64 (W x) s K m := by
  refine ⟨h0, ?_⟩
  have e : (W x).fdiv (2 ^ min s.toNat IntKind.u64.bits) = W (x >>> s.toNat) := by
    unfold W
    rw [BitVec.toNat_ushiftRight, Nat.shiftRight_eq_div_pow]
    have h2 : (2 : Int) ^ min s.toNat IntKind.u64.bits = ((2 ^ min s.toNat 64 : Nat) : Int) := by simp [IntKind.bits]
    rw [h2, Int.fdiv_eq_ediv_of_nonneg _ (Int.natCast_nonneg _), ← Int.natCast_ediv]
    congr 1
    rcases Nat.le_total s.toNat 64 with h | h
    · rw [Nat.min_eq_left h]
    · rw [Nat.min_eq_right h, Nat.div_eq_of_lt x.isLt, Nat.div_eq_of_lt]
      exact Nat.lt_of_lt_of_le x.isLt (Nat.pow_le_pow_right (by omega) h)
  rw [e]; exact hk
theorem hShl_W {x : BitVec 64} {s : Int} {K : Int → HP → Prop} (h0 : 0 ≤ s) (hk : K (W (x <<< s.toNat)) m) : hShl .u64 (W x) s K m := by
  refine ⟨h0, ?_⟩
  have e : IntKind.u64.wrap (W x * 2 ^ min s.toNat IntKind.u64.bits) = W (x <<< s.toNat) := by
    unfold W
    have h2 : (2 : Int) ^ min s.toNat IntKind.u64.bits = ((2 ^ min s.toNat 64 : Nat) : Int) := by simp [IntKind.bits]
    rw [h2, ← Int.natCast_mul, wrapN, BitVec.toNat_shiftLeft, Nat.shiftLeft_eq]
    congr 1
    rcases Nat.le_total s.toNat 64 with h | h
    · rw [Nat.min_eq_left h]
    · rw [Nat.min_eq_right h]
      have h64 : (18446744073709551616 : Nat) = 2 ^ 64 := by decide
      rw [h64]
      obtain ⟨d, hd⟩ := Nat.exists_eq_add_of_le h
      rw [hd, Nat.pow_add, ← Nat.mul_assoc]
      rw [Nat.mul_mod_left, Nat.mul_right_comm, Nat.mul_mod_left]
  rw [e]; exact hk
theorem hIf_eqW {x y : BitVec 64} {A B : HP → Prop} (h1 : x = y → A m) (h2 : x ≠ y → B m) : hIf (W x == W y) A B m := hIf_eq (fun h => h1 (W_inj.1 h)) (fun h => h2 fun e => h (W_inj.2 e))
theorem hIf_neW {x y : BitVec 64} {A B : HP → Prop} (h1 : x ≠ y → A m) (h2 : x = y → B m) : hIf (W x != W y) A B m := hIf_ne (fun h => h1 fun e => h (W_inj.2 e)) (fun h => h2 (W_inj.1 h))
theorem hInt_i64W {x : BitVec 64} {K : Int → HP → Prop} (h : x.toNat < 9223372036854775808) (hk : K (x.toNat : Int) m) : hInt .i64 (W x) K m := hInt_i64 (by have := W_nonneg x; omega) (by unfold W; omega) hk
end
theorem hStore1_0 {m : HP} {v : Value} {b : Nat} {x0 : Value} {T : TypeId} {r : HP} {K : HP → Prop} [h : Has b m (.cells #[x0] T (0, 0)) r] (hk : K (pt b (.cells #[v] T (0, 0)) + r)) : hStore v ⟨b, 0, none⟩ K m := hStore_at (c := #[x0]) (by simp) hk
theorem hStore2_0 {m : HP} {v : Value} {b : Nat} {x0 x1 : Value} {T : TypeId} {r : HP} {K : HP → Prop} [h : Has b m (.cells #[x0, x1] T (0, 0)) r] (hk : K (pt b (.cells #[v, x1] T (0, 0)) + r)) : hStore v ⟨b, 0, none⟩ K m := hStore_at (c := #[x0, x1]) (by simp) hk
theorem hStore2_1 {m : HP} {v : Value} {b : Nat} {x0 x1 : Value} {T : TypeId} {r : HP} {K : HP → Prop} [h : Has b m (.cells #[x0, x1] T (0, 0)) r] (hk : K (pt b (.cells #[x0, v] T (0, 0)) + r)) : hStore v ⟨b, 1, none⟩ K m := hStore_at (c := #[x0, x1]) (by simp) hk
theorem hStore3_0 {m : HP} {v : Value} {b : Nat} {x0 x1 x2 : Value} {T : TypeId} {r : HP} {K : HP → Prop} [h : Has b m (.cells #[x0, x1, x2] T (0, 0)) r] (hk : K (pt b (.cells #[v, x1, x2] T (0, 0)) + r)) : hStore v ⟨b, 0, none⟩ K m := hStore_at (c := #[x0, x1, x2]) (by simp) hk
theorem hStore3_1 {m : HP} {v : Value} {b : Nat} {x0 x1 x2 : Value} {T : TypeId} {r : HP} {K : HP → Prop} [h : Has b m (.cells #[x0, x1, x2] T (0, 0)) r] (hk : K (pt b (.cells #[x0, v, x2] T (0, 0)) + r)) : hStore v ⟨b, 1, none⟩ K m := hStore_at (c := #[x0, x1, x2]) (by simp) hk
theorem hStore3_2 {m : HP} {v : Value} {b : Nat} {x0 x1 x2 : Value} {T : TypeId} {r : HP} {K : HP → Prop} [h : Has b m (.cells #[x0, x1, x2] T (0, 0)) r] (hk : K (pt b (.cells #[x0, x1, v] T (0, 0)) + r)) : hStore v ⟨b, 2, none⟩ K m := hStore_at (c := #[x0, x1, x2]) (by simp) hk
theorem hStore4_0 {m : HP} {v : Value} {b : Nat} {x0 x1 x2 x3 : Value} {T : TypeId} {r : HP} {K : HP → Prop} [h : Has b m (.cells #[x0, x1, x2, x3] T (0, 0)) r] (hk : K (pt b (.cells #[v, x1, x2, x3] T (0, 0)) + r)) : hStore v ⟨b, 0, none⟩ K m := hStore_at (c := #[x0, x1, x2, x3]) (by simp) hk
theorem hStore4_1 {m : HP} {v : Value} {b : Nat} {x0 x1 x2 x3 : Value} {T : TypeId} {r : HP} {K : HP → Prop} [h : Has b m (.cells #[x0, x1, x2, x3] T (0, 0)) r] (hk : K (pt b (.cells #[x0, v, x2, x3] T (0, 0)) + r)) : hStore v ⟨b, 1, none⟩ K m := hStore_at (c := #[x0, x1, x2, x3]) (by simp) hk
theorem hStore4_2 {m : HP} {v : Value} {b : Nat} {x0 x1 x2 x3 : Value} {T : TypeId} {r : HP} {K : HP → Prop} [h : Has b m (.cells #[x0, x1, x2, x3] T (0, 0)) r] (hk : K (pt b (.cells #[x0, x1, v, x3] T (0, 0)) + r)) : hStore v ⟨b, 2, none⟩ K m := hStore_at (c := #[x0, x1, x2, x3]) (by simp) hk
theorem hStore4_3 {m : HP} {v : Value} {b : Nat} {x0 x1 x2 x3 : Value} {T : TypeId} {r : HP} {K : HP → Prop} [h : Has b m (.cells #[x0, x1, x2, x3] T (0, 0)) r] (hk : K (pt b (.cells #[x0, x1, x2, v] T (0, 0)) + r)) : hStore v ⟨b, 3, none⟩ K m := hStore_at (c := #[x0, x1, x2, x3]) (by simp) hk
theorem hStore5_0 {m : HP} {v : Value} {b : Nat} {x0 x1 x2 x3 x4 : Value} {T : TypeId} {r : HP} {K : HP → Prop} [h : Has b m (.cells #[x0, x1, x2, x3, x4] T (0, 0)) r] (hk : K (pt b (.cells #[v, x1, x2, x3, x4] T (0, 0)) + r)) : hStore v ⟨b, 0, none⟩ K m := hStore_at (c := #[x0, x1, x2, x3, x4]) (by simp) hk
theorem hStore5_1 {m : HP} {v : Value} {b : Nat} {x0 x1 x2 x3 x4 : Value} {T : TypeId} {r : HP} {K : HP → Prop} [h : Has b m (.cells #[x0, x1, x2, x3, x4] T (0, 0)) r] (hk : K (pt b (.cells #[x0, v, x2, x3, x4] T (0, 0)) + r)) : hStore v ⟨b, 1, none⟩ K m := hStore_at (c := #[x0, x1, x2, x3, x4]) (by simp) hk
theorem hStore5_2 {m : HP} {v : Value} {b : Nat} {x0 x1 x2 x3 x4 : Value} {T : TypeId} {r : HP} {K : HP → Prop} [h : Has b m (.cells #[x0, x1, x2, x3, x4] T (0, 0)) r] (hk : K (pt b (.cells #[x0, x1, v, x3, x4] T (0, 0)) + r)) : hStore v ⟨b, 2, none⟩ K m := hStore_at (c := #[x0, x1, x2, x3, x4]) (by simp) hk
theorem hStore5_3 {m : HP} {v : Value} {b : Nat} {x0 x1 x2 x3 x4 : Value} {T : TypeId} {r : HP} {K : HP → Prop} [h : Has b m (.cells #[x0, x1, x2, x3, x4] T (0, 0)) r] (hk : K (pt b (.cells #[x0, x1, x2, v, x4] T (0, 0)) + r)) : hStore v ⟨b, 3, none⟩ K m := hStore_at (c := #[x0, x1, x2, x3, x4]) (by simp) hk
theorem hStore5_4 {m : HP} {v : Value} {b : Nat} {x0 x1 x2 x3 x4 : Value} {T : TypeId} {r : HP} {K : HP → Prop} [h : Has b m (.cells #[x0, x1, x2, x3, x4] T (0, 0)) r] (hk : K (pt b (.cells #[x0, x1, x2, x3, v] T (0, 0)) + r)) : hStore v ⟨b, 4, none⟩ K m := hStore_at (c := #[x0, x1, x2, x3, x4]) (by simp) hk
theorem hStore6_0 {m : HP} {v : Value} {b : Nat} {x0 x1 x2 x3 x4 x5 : Value} {T : TypeId} {r : HP} {K : HP → Prop} [h : Has b m (.cells #[x0, x1, x2, x3, x4, x5] T (0, 0)) r] (hk : K (pt b (.cells #[v, x1, x2, x3, x4, x5] T (0, 0)) + r)) : hStore v ⟨b, 0, none⟩ K m := hStore_at (c := #[x0, x1, x2, x3, x4, x5]) (by simp) hk
theorem hStore6_1 {m : HP} {v : Value} {b : Nat} {x0 x1 x2 x3 x4 x5 : Value} {T : TypeId} {r : HP} {K : HP → Prop} [h : Has b m (.cells #[x0, x1, x2, x3, x4, x5] T (0, 0)) r] (hk : K (pt b (.cells #[x0, v, x2, x3, x4, x5] T (0, 0)) + r)) : hStore v ⟨b, 1, none⟩ K m := hStore_at (c := #[x0, x1, x2, x3, x4, x5]) (by simp) hk
theorem hStore6_2 {m : HP} {v : Value} {b : Nat} {x0 x1 x2 x3 x4 x5 : Value} {T : TypeId} {r : HP} {K : HP → Prop} [h : Has b m (.cells #[x0, x1, x2, x3, x4, x5] T (0, 0)) r] (hk : K (pt b (.cells #[x0, x1, v, x3, x4, x5] T (0, 0)) + r)) : hStore v ⟨b, 2, none⟩ K m := hStore_at (c := #[x0, x1, x2, x3, x4, x5]) (by simp) hk
theorem hStore6_3 {m : HP} {v : Value} {b : Nat} {x0 x1 x2 x3 x4 x5 : Value} {T : TypeId} {r : HP} {K : HP → Prop} [h : Has b m (.cells #[x0, x1, x2, x3, x4, x5] T (0, 0)) r] (hk : K (pt b (.cells #[x0, x1, x2, v, x4, x5] T (0, 0)) + r)) : hStore v ⟨b, 3, none⟩ K m := hStore_at (c := #[x0, x1, x2, x3, x4, x5]) (by simp) hk
theorem hStore6_4 {m : HP} {v : Value} {b : Nat} {x0 x1 x2 x3 x4 x5 : Value} {T : TypeId} {r : HP} {K : HP → Prop} [h : Has b m (.cells #[x0, x1, x2, x3, x4, x5] T (0, 0)) r] (hk : K (pt b (.cells #[x0, x1, x2, x3, v, x5] T (0, 0)) + r)) : hStore v ⟨b, 4, none⟩ K m := hStore_at (c := #[x0, x1, x2, x3, x4, x5]) (by simp) hk
theorem hStore6_5 {m : HP} {v : Value} {b : Nat} {x0 x1 x2 x3 x4 x5 : Value} {T : TypeId} {r : HP} {K : HP → Prop} [h : Has b m (.cells #[x0, x1, x2, x3, x4, x5] T (0, 0)) r] (hk : K (pt b (.cells #[x0, x1, x2, x3, x4, v] T (0, 0)) + r)) : hStore v ⟨b, 5, none⟩ K m := hStore_at (c := #[x0, x1, x2, x3, x4, x5]) (by simp) hk
theorem hCut_lt {m : HP} {b o cap size : Nat} {lo hi : Int} {K : Sl → HP → Prop} (h0 : 0 ≤ lo) (h1 : lo ≤ hi) (h2 : hi ≤ cap) (h3 : lo < cap)
    (hk : K ⟨some ⟨b, o + lo.toNat * size, none⟩, (hi - lo).toNat, (cap - lo).toNat⟩ m) : hCut (some ⟨b, o, none⟩) cap lo hi size K m :=
  hCut_of h0 h1 h2 (by rw [if_neg (by omega)]; exact hk)
theorem HYield.up {P : Program} {l : Nat} {args : Array Value} {m : HP} {R R' : Ending → HP → Prop} (h : HYield P l args m R) (hr : ∀ e m', R e m' → ∃ m'', Over m'' m' ∧ R' e m'') : HYield P l args m R' := by
  intro w hw
  obtain ⟨f, tmps, assign, body, h1, h2⟩ := h w hw
  exact ⟨f, tmps, assign, body, h1, fun n => (h2 n).mono fun e w' ⟨m', g1, g2⟩ => by
    obtain ⟨m'', g3, g4⟩ := hr e m' g2
    exact ⟨m'', g1.over g3, g4⟩⟩
theorem hYield_of {P : Program} {l : Nat} {args : Array Value} {m : HP} {K : Value → HP → Prop} {X : List PanicEntry → HP → Prop} {R : Ending → HP → Prop} (hy : HYield P l args m R) (hk : ∀ e m', R e m' → ∃ m'', Over m'' m' ∧ retX K X e m'') : hYield P l args X K m := hy.up hk
theorem hRec_of {l : Nat} {rc rc' : Loop} {m r : HP} {K : HP → Prop} [h : Has l m (.loop rc) r] (hk : K (pt l (.loop rc') + r)) : hRec l rc rc' K m := ⟨r, h.eq, hk⟩
theorem IsLoop.next {N : Nat} {vals : List (Nat × Value)} {c : Code} {rc : Loop} (h : IsLoop N vals c rc) : rcNext rc = rc := by
  obtain ⟨h1, h2, _⟩ := h
  cases rc; simp only at h1 h2; subst h1 h2; rfl
/-- A range whose function comes to its end without a jump. -/
theorem hRange_end {P : Program} {N : Nat} {f : FuncId} {fs cs : Array Value} {vals : List (Nat × Value)} {c : Code} {Kn Kr : Nat → HP → Prop} {Ke : Nat → Nat → HP → Prop} {m : HP} (M : HP)
    (hd : ∀ l r rc0, IsLoop N vals c rc0 → Does P f ⟨fs.toList ++ [.func (.yield l) #[] #[]] ++ cs.toList⟩ (pt l (.loop rc0) + (pt r (.deferred (some [])) + m)) fun e m3 => (∃ v, e = .returned v) ∧ Over (pt l (.loop (rcNext rc0)) + (pt r (.deferred (some [])) + M)) m3)
    (hk : ∀ l r rc, Kn r (pt l (.loop rc) + (pt r (.deferred (some [])) + M))) : hRange P N (.func (.func f) fs cs) vals c Kn Kr Ke m := by
  refine ⟨f, fs, cs, rfl, fun l r rc0 hl => ?_⟩
  refine (hd l r rc0 hl).up ?_
  rintro e m3 ⟨hv, ho⟩
  refine ⟨_, ho, hv, rcNext rc0, _, rfl, rfl, ?_⟩
  exact hk _ _ _
theorem gone {r : Nat} {o : Obj} {m x : HP} {K : HP → Prop} [h : Has r m o x] (hk : K x) : ∃ m', m = pt r o + m' ∧ K m' := ⟨x, h.eq, hk⟩
/-- One row written, cell by cell. -/
theorem rows_set4 {α : Type} {f : α → List Value} (hf : ∀ x, (f x).length = 4) {l : List α} {i o : Nat} {x s : α} {v0 v1 v2 v3 : Value} (hx : l[i]? = some x) (ho : o = i * 4) (hs : f s = [v0, v1, v2, v3]) :
    ((((rows f l).setIfInBounds o v0).setIfInBounds (o + 1) v1).setIfInBounds (o + 2) v2).setIfInBounds (o + 3) v3 = rows f (l.set i s) := by
  have key : ∀ (l : List α) (i : Nat), l[i]? = some x → ((((l.flatMap f).set (i * 4) v0).set (i * 4 + 1) v1).set (i * 4 + 2) v2).set (i * 4 + 3) v3 = (l.set i s).flatMap f := by
    intro l
    induction l with
    | nil => intro i h; simp at h
    | cons y l ih =>
      intro i h
      cases i with
      | zero =>
        simp only [List.getElem?_cons_zero, Option.some.injEq] at h; subst h
        have := hf y
        simp only [List.flatMap_cons, List.set_cons_zero, hs]
        match hfy : f y, this with
        | [a, b, c, d], _ => simp
      | succ i =>
        simp only [List.getElem?_cons_succ] at h
        simp only [List.flatMap_cons, List.set_cons_succ]
        have e := hf y
        rw [List.set_append_right _ _ (by omega), List.set_append_right _ _ (by omega), List.set_append_right _ _ (by omega), List.set_append_right _ _ (by omega)]
        rw [e, show (i + 1) * 4 - 4 = i * 4 by omega, show (i + 1) * 4 + 1 - 4 = i * 4 + 1 by omega, show (i + 1) * 4 + 2 - 4 = i * 4 + 2 by omega, show (i + 1) * 4 + 3 - 4 = i * 4 + 3 by omega, ih i h]
  subst ho
  simp only [rows, List.setIfInBounds_toArray]
  rw [key l i hx]
theorem hIf_eqW0 {m : HP} {x : BitVec 64} {A B : HP → Prop} (h1 : x = 0#64 → A m) (h2 : x ≠ 0#64 → B m) : hIf (W x == 0) A B m := by
  have e : (0 : Int) = W 0#64 := W_lit 0 (by decide)
  rw [e]; exact hIf_eqW h1 h2
theorem hIf_neW0 {m : HP} {x : BitVec 64} {A B : HP → Prop} (h1 : x ≠ 0#64 → A m) (h2 : x = 0#64 → B m) : hIf (W x != 0) A B m := by
  have e : (0 : Int) = W 0#64 := W_lit 0 (by decide)
  rw [e]; exact hIf_neW h1 h2
theorem ret.eq {v v' : Value} {M m' : HP} (h : v' = v) (ho : Over M m') : ret v M (.returned v') m' := by subst h; exact ⟨rfl, ho⟩
theorem agg4 {k : IntKind} {a b c d a' b' c' d' : Int} (h1 : a = a') (h2 : b = b') (h3 : c = c') (h4 : d = d') : Value.agg #[.int k a, .int k b, .int k c, .int k d] = Value.agg #[.int k a', .int k b', .int k c', .int k d'] := by subst h1 h2 h3 h4; rfl
theorem agg3 {k : IntKind} {a b c a' b' c' : Int} (h1 : a = a') (h2 : b = b') (h3 : c = c') : Value.agg #[.int k a, .int k b, .int k c] = Value.agg #[.int k a', .int k b', .int k c'] := by subst h1 h2 h3; rfl
theorem int_eq {k : IntKind} {a a' : Int} (h : a = a') : Value.int k a = Value.int k a' := by rw [h]
end Go.Hp
