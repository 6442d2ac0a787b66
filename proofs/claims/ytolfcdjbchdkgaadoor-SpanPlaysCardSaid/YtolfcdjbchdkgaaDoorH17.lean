/- '==' of structs of integers. Own work; nothing of any program. -/
import Derived.Test.YtolfcdjbchdkgaaDoorH16
import Derived.Laws.StructEq
namespace Go.Hp
open Go

/-- The fields that are integers, and count; each by its place. -/
def intFields (P : Program) (fs : List Field) : Bool := fs.all fun f => decide (f.name ≠ "_") && !aggB P f.type && (match P.underlying f.type with | some (.int _) => true | _ => false)
def intsEq : List (Int × Int) → Bool
  | [] => true
  | (a, b) :: l => (a == b) && intsEq l

def FieldsAre (xs ys : Array Value) : List Field → List (Int × Int) → Prop
  | [], [] => True
  | f :: fs, p :: ps => (∃ k, xs[f.offset]? = some (.int k p.1) ∧ ys[f.offset]? = some (.int k p.2)) ∧ FieldsAre xs ys fs ps
  | _, _ => False

theorem run_part_int {P : Program} {t : TypeId} {k k' : IntKind} {cs : Array Value} {off : Nat} {n : Int} (hu : P.underlying t = some (.int k)) (hc : cs[off]? = some (.int k' n)) (w : World) : (part t cs off).run P w = .ok (.int k' n) w := by
  have hag : aggB P t = false := by simp [aggB, hu]
  simp [part, run_isAgg w (show (P.underlying t).isSome = true by rw [hu]; rfl), hag, hc]
theorem run_eqIn_int {P : Program} {t : TypeId} {k k' : IntKind} (hu : P.underlying t = some (.int k)) (d : Nat) (a b : Int) (w : World) : (Op.equalIn (d + 1) t (.int k' a) (.int k' b)).run P w = .ok (a == b) w := by
  simp only [Op.equalIn, Sem.run_bind, run_underlying hu, Result.andThen_ok, if_true, Sem.run_pure]

theorem run_eqFields_int {P : Program} {d : Nat} {xs ys : Array Value} (w : World) : ∀ {fs : List Field} {ps : List (Int × Int)}, intFields P fs = true →
    FieldsAre xs ys fs ps → (Op.eqFields (d + 1) xs ys fs).run P w = .ok (intsEq ps) w := by
  intro fs
  induction fs with
  | nil =>
    intro ps _ h
    cases ps with
    | nil => simp [Op.eqFields, intsEq]
    | cons p ps => exact h.elim
  | cons f fs ih =>
    intro ps hi h
    cases ps with
    | nil => exact h.elim
    | cons p ps =>
      obtain ⟨⟨k, hx, hy⟩, h2⟩ := h
      simp only [intFields, List.all_cons, Bool.and_eq_true, decide_eq_true_eq] at hi
      obtain ⟨⟨⟨hn, _⟩, hu⟩, hr⟩ := hi
      have hu' : ∃ k, P.underlying f.type = some (.int k) := by
        revert hu; generalize P.underlying f.type = u
        intro hu; split at hu
        · exact ⟨_, rfl⟩
        · cases hu
      obtain ⟨k0, hu'⟩ := hu'
      have := ih hr h2
      simp only [Op.eqFields, if_pos hn, Sem.run_bind, run_part_int hu' hx, run_part_int hu' hy, Result.andThen_ok, run_eqIn_int hu']
      obtain ⟨a, b⟩ := p
      simp only [intsEq]
      cases hab : (a == b)
      · simp
      · simpa using this

/-- A struct of integers: '==' tells whether all are the same. -/
theorem SEq_ints {P : Program} {op : BinOp} {t : TypeId} {xo yo : Operand} {xs ys : Array Value} {fs : Array Field} (ps : List (Int × Int)) (hu : P.underlying t = some (.struct fs)) (hp : P.stoodInHeld t = false) (hg : P.eqGuardType P.depth t = false)
    (hi : intFields P fs.toList = true) (hps : FieldsAre xs ys fs.toList ps) :
    SEq P op t xo yo (.agg xs) (.agg ys) (intsEq ps) := by
  intro w
  have hf : P.fieldsOf t = fs := by simp [Program.fieldsOf, hu]
  have h1 : (eqGuard op t xo yo (.agg xs) (.agg ys)).run P w = .ok () w := by
    unfold eqGuard
    cases op <;> simp [hg, run_program]
  have h2 : (Op.equal t (.agg xs) (.agg ys)).run P w = .ok (intsEq ps) w := by
    rw [equal_eq, run_equalIn_struct (P := P) w 9999 t xs ys (by rw [hf]; exact hu) hp, hf]
    exact run_eqFields_int w hi hps
  simp only [Sem.run_bind, h1, Result.andThen_ok, h2]
def OffsAre (xs ys : Array Value) : List Nat → List (Int × Int) → Prop
  | [], [] => True
  | o :: os, p :: ps => (∃ k, xs[o]? = some (.int k p.1) ∧ ys[o]? = some (.int k p.2)) ∧ OffsAre xs ys os ps
  | _, _ => False
theorem OffsAre.fields {xs ys : Array Value} : ∀ {fs : List Field} {ps : List (Int × Int)}, OffsAre xs ys (fs.map (·.offset)) ps → FieldsAre xs ys fs ps
  | [], [], _ => trivial
  | [], _ :: _, h => h.elim
  | _ :: _, [], h => h.elim
  | _ :: _, _ :: _, h => ⟨h.1, OffsAre.fields h.2⟩
/-- With closed facts of the program. -/
def intStruct (P : Program) (t : TypeId) (offs : List Nat) : Bool :=
  (match P.underlying t with | some (.struct fs) => decide (fs.toList.map (·.offset) = offs) && intFields P fs.toList | _ => false) && !P.stoodInHeld t && !P.eqGuardType P.depth t
theorem SEq_offs {P : Program} {op : BinOp} {t : TypeId} {xo yo : Operand} {xs ys : Array Value} (offs : List Nat) (ps : List (Int × Int)) (h : intStruct P t offs = true) (hps : OffsAre xs ys offs ps) : SEq P op t xo yo (.agg xs) (.agg ys) (intsEq ps) := by
  simp only [intStruct, Bool.and_eq_true, Bool.not_eq_true'] at h
  obtain ⟨⟨h1, h2⟩, h3⟩ := h
  generalize hu : P.underlying t = u at h1
  split at h1
  · simp only [Bool.and_eq_true, decide_eq_true_eq] at h1
    obtain ⟨h4, h5⟩ := h1
    subst h4
    exact SEq_ints ps hu h2 h3 h5 hps.fields
  · cases h1
theorem hEq_of {P : Program} {op : BinOp} {t : TypeId} {xo yo : Operand} {x y : Value} {K : Bool → HP → Prop} {m : HP} {b : Bool} (h : SEq P op t xo yo x y b) (hk : K b m) : hEq P op t xo yo x y K m := ⟨b, h, hk⟩
theorem hCmp_of {P : Program} {op : BinOp} {t : TypeId} {xo yo : Operand} {x y : Value} {K : Bool → HP → Prop} {m : HP} (b : Bool) (h : ∀ w, (do eqGuard op t xo yo x y; binOp op t x y : Sem Value).run P w = .ok (.bool b) w) (hk : K b m) : hCmp P op t xo yo x y K m := ⟨b, h, hk⟩
theorem hRange_of {P : Program} {N : Nat} {f : FuncId} {fs cs : Array Value} {vals : List (Nat × Value)} {c : Code} {Kn Kr : Nat → HP → Prop} {Ke : Nat → Nat → HP → Prop} {m : HP}
    (h : ∀ (l r : Nat) (rc0 : Loop), IsLoop N vals c rc0 → Does P f ⟨fs.toList ++ [.func (.yield l) #[] #[]] ++ cs.toList⟩ (pt l (.loop rc0) + (pt r (.deferred (some [])) + m)) fun e m3 =>
      (∃ v, e = .returned v) ∧ ∃ rc m4, m3 = pt l (.loop rc) + m4 ∧ (rc.state == .busy) = false ∧
        match rc.pending with
        | none => Kn r (pt l (.loop { rc with state := .exhausted }) + m4)
        | some .ret => Kr r (pt l (.loop { rc with state := .exhausted }) + m4)
        | some (.exit id) => Ke id r (pt l (.loop { rc with state := .exhausted }) + m4)
        | _ => False) : hRange P N (.func (.func f) fs cs) vals c Kn Kr Ke m := ⟨f, fs, cs, rfl, h⟩
def isFn (P : Program) (t : TypeId) : Bool := match P.underlying t with | some (.func _ _ _) => true | _ => false
theorem run_eqIn_fn {P : Program} {t : TypeId} {a b : Array TypeId} {c : Bool} {f : FuncId} {fs cs : Array Value} (w : World) (d : Nat) (h : P.underlying t = some (.func a b c)) : (Op.equalIn (d + 1) t (.func (.func f) fs cs) .nilFunc).run P w = .ok false w := by
  simp only [Op.equalIn, Sem.run_bind, run_underlying h, Result.andThen_ok, Sem.run_pure]
theorem hCmp_fn {P : Program} {t : TypeId} {m : HP} {xo yo : Operand} {f : FuncId} {fs cs : Array Value} {K : Bool → HP → Prop} (h : isFn P t = true) (hk : K false m) : hCmp P .eql t xo yo (.func (.func f) fs cs) .nilFunc K m := by
  unfold isFn at h
  generalize hu : P.underlying t = u at h
  split at h
  · refine hCmp_of false (fun w => ?_) hk
    have hg : (eqGuard .eql t xo yo (.func (.func f) fs cs) .nilFunc).run P w = .ok () w := by simp [eqGuard]
    have he : (Op.equal t (.func (.func f) fs cs) .nilFunc).run P w = .ok false w := run_eqIn_fn w 9999 hu
    simp only [Sem.run_bind, hg, Result.andThen_ok]
    simp [binOp, he]
  · cases h
theorem At.sub {r m q : HP} {a : Addr} {v : Value} [hs : Sub r m q] (h : At r a v) : At m a v := by
  obtain ⟨c, T, fr, r', rfl, h1, h2⟩ := h
  exact ⟨c, T, fr, r' + q, by rw [hs.eq, HP.add_assoc], h1, h2⟩
theorem hLoad_here {t : Ty} {a : Addr} {m : HP} {K : t.T → HP → Prop} {x : t.T} (h : At m a (t.val x)) (hk : K x m) : hLoad t a K m := ⟨x, h, hk⟩
theorem hIdx_any {a : Option Addr} {ad : Addr} {n size : Nat} {i : Int} {m : HP} {K : Addr → HP → Prop} (ha : a = some ad) (h0 : 0 ≤ i) (h1 : i < n) (hk : K (ad.add (i.toNat * size)) m) : hIdx a n i size K m := ⟨ad, ha, h0, h1, hk⟩
end Go.Hp
