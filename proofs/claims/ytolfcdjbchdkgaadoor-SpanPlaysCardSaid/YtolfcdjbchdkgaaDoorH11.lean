/- A function of the program, out of the predicate of its body. Own work; nothing of any program. -/
import Derived.Test.YtolfcdjbchdkgaaDoorH10
import Derived.KernelRfl
namespace Go.Hp
open Go

/-- The results, as they are read at the end. -/
def resL (P : Program) (σ : Nat → EV) : List ResultVar → (List Value → HP → Prop) → HP → Prop
  | [], K => K []
  | .tmp t :: l, K => resL P σ l fun vs => K ((σ t).v :: vs)
  | .cell a t :: l, K => qLoad P t (σ a).v fun v => resL P σ l fun vs => K (v :: vs)

def oneOf : List Value → Value
  | [v] => v
  | vs => .tuple ⟨vs⟩

def resR (P : Program) (rs : List ResultVar) (σ : Nat → EV) (R : Ending → HP → Prop) : HP → Prop := resL P σ rs fun vs => R (.returned (oneOf vs))

/-- At the end of the activation. -/
def retR (P : Program) (rs : List ResultVar) (R : Ending → HP → Prop) : Exit → (Nat → EV) → List Nat → HP → Prop
  | .normal, σ, [] | .ret, σ, [] => resR P rs σ R
  | .normal, σ, [r] | .ret, σ, [r] => fun m => ∃ m', m = pt r (.deferred (some [])) + m' ∧ resR P rs σ R m'
  | _, _, _ => no

def env0 (args : List Value) : Nat → EV := fun t => ⟨args.getD t undef, none⟩

def denF (P : Program) (ann : Ann) (N : Nat) (rs : List ResultVar) (c : Code) (args : List Value) (R : Ending → HP → Prop) : HP → Prop :=
  den P ann N true c (env0 args) [] (retR P rs R) fun ch => R (.panicked ch)

def resF (tmps : Array Value) : ResultVar → Sem Value
  | .tmp t => pure (tmps.getD t undef)
  | .cell a t => do loadVar t (← asAddr (tmps.getD a undef))

theorem resL_sound {P : Program} {σ : Nat → EV} {m : HP} {w : World} (hw : Holds w m) {tmps : Array Value} (ht : ∀ t, tmps.getD t undef = (σ t).v) : ∀ {rs : List ResultVar} {K : List Value → HP → Prop}, resL P σ rs K m →
    ∃ vs, (rs.mapM (resF tmps) : Sem (List Value)).run P w = .ok vs w ∧ K vs m := by
  intro rs
  induction rs with
  | nil => intro K h; exact ⟨[], by simp, h⟩
  | cons x rs ih =>
    intro K h
    cases x with
    | tmp t =>
      obtain ⟨vs, h1, h2⟩ := ih h
      exact ⟨_, by simp [List.mapM_cons, h1, resF, ht t], h2⟩
    | cell a t =>
      obtain ⟨v, hv, hk⟩ := qLoad_sound h
      obtain ⟨vs, h1, h2⟩ := ih hk
      refine ⟨_, ?_, h2⟩
      have hl := hv w hw
      have hp : ∃ ad, (σ a).v = .pointer (some ad) := by
        simp only [resL, qLoad] at h
        generalize hx : (σ a).v = x at h
        split at h
        · exact ⟨_, rfl⟩
        · exact h.elim
      obtain ⟨ad, had⟩ := hp
      rw [had] at hl
      simp only [Instr.loadAt, Instr.sureAddr, Sem.run_bind, Sem.run_pure, Result.andThen_ok] at hl
      have e : (resF tmps (.cell a t)).run P w = .ok v w := by simp [resF, ht a, had, asAddr, hl]
      simp [List.mapM_cons, h1, e]

theorem results_run {P : Program} {fn : Func} {σ : Nat → EV} {R : Ending → HP → Prop} {m : HP} {w : World} (hw : Holds w m) {tmps : Array Value} (ht : ∀ t, tmps.getD t undef = (σ t).v) (h : resR P fn.results.toList σ R m) :
    ∃ v, (results fn tmps).run P w = .ok v w ∧ R (.returned v) m := by
  obtain ⟨vs, h1, h2⟩ := resL_sound (P := P) hw ht h
  refine ⟨oneOf vs, ?_, h2⟩
  have e : results fn tmps = (do let vs ← fn.results.mapM (resF tmps); pure (if h : vs.size = 1 then vs[0] else .tuple vs)) := by
    unfold results
    congr 1
  rw [e, Array.mapM_eq_mapM_toList]
  simp only [Sem.run_bind, Sem.run_map]
  rw [h1]
  simp only [Result.andThen_ok, Sem.run_pure]
  match vs with
  | [] => rfl
  | [v] => rfl
  | a :: b :: l => simp [oneOf]

theorem getD_args (args : List Value) (N : Nat) (t : Nat) : ((⟨args⟩ : Array Value) ++ Array.replicate (N - args.length) undef).getD t undef = args.getD t undef := by
  rw [Array.getD_eq_getD_getElem?, List.getD_eq_getElem?_getD]
  rcases Nat.lt_or_ge t args.length with h | h
  · rw [Array.getElem?_append_left (by simpa using h)]; simp
  · rw [Array.getElem?_append_right (by simpa using h), List.getElem?_eq_none h]
    simp only [Array.getElem?_replicate]
    split <;> rfl

/-- **A function's contract from the predicate of its body.** -/
theorem fn_of_den {P : Program} (hm : P.follows .mixedOrders = true) {ann : Ann} {f : FuncId} {fn : Func} {c : Code} (hf : P.funcs[f]? = some fn) (hc : Callable P f) (hb : fn.body = some c) (hok : codeOk fn.ntmps c = true) {args : List Value}
    (hlen : args.length ≤ fn.ntmps) {R : Ending → HP → Prop} (hnr : noRange c = true ∨ ∀ ch m, ¬ R (.panicked ch) m) {m : HP} (h : denF P ann fn.ntmps fn.results.toList c args R m) : Does P f ⟨args⟩ m R := by
  refine ⟨hc, fun w hw => (callsIn_wide (n := 0)).1 ?_⟩
  have hreg : Reg fn.ntmps (dsOf []) { tmps := (⟨args⟩ : Array Value) ++ Array.replicate (fn.ntmps - (⟨args⟩ : Array Value).size) undef, defers := [] } (env0 args) := by
    refine ⟨by simp; omega, fun t => ?_, fun t => EV.ok_none _, rfl⟩
    exact getD_args args fn.ntmps t
  refine callsIn_of_wp_marks (F := FW none) hf hb trivial (wpIn_mono (den_sound hm (top := true) (ro := none) (fun _ => rfl) c (env0 args) [] _ m _ w hok h hreg hw) ?_) rfl
  intro e a w' hp
  have fin : (∃ σ' mk' m, Reg fn.ntmps (dsOf mk') a σ' ∧ Holds w' m ∧ retR P fn.results.toList R e σ' mk' m) → (e = .normal ∨ e = .ret) →
      LeavesInM (FW none) 0 P fn a.tmps (fun e w' => ∃ m', Holds w' m' ∧ R e m') a.defers .returning w' := by
    rintro ⟨σ', mk', m', g1, g2, g3⟩ he
    match mk' with
    | [] =>
      have g3' : resR P fn.results.toList σ' R m' := by rcases he with rfl | rfl <;> exact g3
      obtain ⟨v, r1, r2⟩ := results_run (P := P) (fn := fn) g2 g1.eq g3'
      rw [g1.ds]
      exact ⟨v, r1, m', g2, r2⟩
    | [r] =>
      have g3' : ∃ m'', m' = pt r (.deferred (some [])) + m'' ∧ resR P fn.results.toList σ' R m'' := by rcases he with rfl | rfl <;> exact g3
      obtain ⟨m'', rfl, g4⟩ := g3'
      have hg := g2.get.1
      have htake : (Instr.takeDeferred r).run P w' = .ok [] { w' with heap := w'.heap.setIfInBounds r (.deferred none) } := by
        simp [Instr.takeDeferred, getObj, setObj, Sem.run, hg]
      have hw2 : Holds { w' with heap := w'.heap.setIfInBounds r (.deferred none) } (pt r (.deferred none) + m'') := g2.setObj
      obtain ⟨v, r1, r2⟩ := results_run (P := P) (fn := fn) hw2.right g1.eq g4
      rw [g1.ds]
      exact ⟨by simp, .inl ⟨r, _, rfl, htake, v, r1, m'', hw2.right, r2⟩⟩
    | _ :: _ :: _ => rcases he with rfl | rfl <;> exact g3.elim
  cases e with
  | normal => obtain ⟨σ', mk', m', g1, g2, g3, _⟩ := hp; exact fin ⟨σ', mk', m', g1, g2, g3⟩ (.inl rfl)
  | ret => obtain ⟨σ', mk', m', g1, g2, g3, _⟩ := hp; exact fin ⟨σ', mk', m', g1, g2, g3⟩ (.inr rfl)
  | exit i => obtain ⟨σ', mk', m', g1, g2, g3, _⟩ := hp; exact g3.elim
  | goto l => exact hp.elim
  | panic ch =>
    obtain ⟨m', mk', g1, g2, g3, g4⟩ := hp
    rcases hnr with hnr | hnr
    · have := g4 hnr
      subst this
      show LeavesInM (FW none) 0 P fn a.tmps (fun e w' => ∃ m', Holds w' m' ∧ R e m') a.defers (.panicking ch) w'
      rw [g3]
      exact ⟨m', g1, g2⟩
    · exact absurd g2 (hnr ch m')
  | outgrown => exact hp.elim

end Go.Hp
