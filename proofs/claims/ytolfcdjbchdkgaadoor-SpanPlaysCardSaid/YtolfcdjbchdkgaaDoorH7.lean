/- Regions over heaplets: in the order of the text, and in every order that a drawn region allows. Own work; nothing of any program. -/
import Derived.Test.YtolfcdjbchdkgaaDoorH6
namespace Go.Hp
open Go

def dstAt (ops : Array Oper) (j : Nat) : Option Nat := (ops[j]?).bind (·.dst)

/-- The last operation before j that writes t. -/
def lastW (ops : Array Oper) : Nat → Nat → Option Nat
  | 0, _ => none
  | j + 1, t => if dstAt ops j = some t then some j else lastW ops j t

def envAt (ops : Array Oper) (V : Nat → EV) (σ : Nat → EV) (j : Nat) : Nat → EV := fun t =>
  match lastW ops j t with | some k => V k | none => σ t

def upd (V : Nat → EV) (j : Nat) (e : EV) : Nat → EV := fun i => if i = j then e else V i

theorem lastW_lt {ops : Array Oper} : ∀ {j t k : Nat}, lastW ops j t = some k → k < j ∧ dstAt ops k = some t := by
  intro j
  induction j with
  | zero => intro t k h; cases h
  | succ j ih =>
    intro t k h
    simp only [lastW] at h
    split at h
    · cases h; exact ⟨by omega, by assumption⟩
    · have := ih h; exact ⟨by omega, this.2⟩

theorem lastW_none {ops : Array Oper} : ∀ {j t : Nat}, lastW ops j t = none → ∀ k, k < j → dstAt ops k ≠ some t := by
  intro j
  induction j with
  | zero => intro t _ k hk; omega
  | succ j ih =>
    intro t h k hk
    simp only [lastW] at h
    split at h
    · cases h
    · rename_i hj
      by_cases e : k = j
      · subst e; exact hj
      · exact ih h k (by omega)

theorem lastW_last {ops : Array Oper} : ∀ {j t k : Nat}, lastW ops j t = some k → ∀ i, k < i → i < j → dstAt ops i ≠ some t := by
  intro j
  induction j with
  | zero => intro t k h; cases h
  | succ j ih =>
    intro t k h i hi hij
    simp only [lastW] at h
    split at h
    · cases h; omega
    · rename_i hj
      by_cases e : i = j
      · subst e; exact hj
      · exact ih h i hi (by omega)

theorem envAt_succ (ops : Array Oper) (V σ : Nat → EV) (j t : Nat) : envAt ops V σ (j + 1) t = if dstAt ops j = some t then V j else envAt ops V σ j t := by
  simp only [envAt, lastW]
  by_cases h : dstAt ops j = some t <;> simp [h]

theorem envAt_upd {ops : Array Oper} {V σ : Nat → EV} {j k : Nat} {e : EV} (h : k ≤ j) (t : Nat) : envAt ops (upd V j e) σ k t = envAt ops V σ k t := by
  simp only [envAt]
  cases hl : lastW ops k t with
  | none => rfl
  | some i => have := (lastW_lt hl).1; simp only [upd, if_neg (show i ≠ j by omega)]

theorem envAt_ok {ops : Array Oper} {V σ : Nat → EV} (hV : ∀ i, (V i).ok) (hσ : ∀ t, (σ t).ok) (j t : Nat) : (envAt ops V σ j t).ok := by
  simp only [envAt]; split <;> first | exact hV _ | exact hσ _

theorem upd_ok {V : Nat → EV} {j : Nat} {e : EV} (hV : ∀ i, (V i).ok) (he : e.ok) : ∀ i, (upd V j e i).ok := by
  intro i; simp only [upd]; split <;> first | exact he | exact hV _

/-! ### Guards -/
def lastWok (ops : Array Oper) (j g : Nat) : Bool := match dstAt ops g with | some d => lastW ops j d == some g | none => false

def guarded (ops : Array Oper) (V : Nat → EV) (o : Oper) (j : Nat) (run skip : (Nat → EV) → HP → Prop) : HP → Prop :=
  match o.guard with
  | none => run V
  | some (g, want) =>
    match lastWok ops j g with
    | false => no
    | true =>
      match (V g).lit with
      | some b => match b == want with | true => run V | false => skip V
      | none =>
        match (V g).v with
        | .bool x => hIf x ((match true == want with | true => run | false => skip) (upd V g ⟨.bool true, some true⟩)) ((match false == want with | true => run | false => skip) (upd V g ⟨.bool false, some false⟩))
        | .tuple ⟨[]⟩ => skip V
        | _ => no

def Wanted (ops : Array Oper) (V : Nat → EV) (o : Oper) (j : Nat) (b : Bool) : Prop :=
  match o.guard with
  | none => b = true
  | some (g, want) => ∃ d, dstAt ops g = some d ∧ lastW ops j d = some g ∧ ((∃ c, (V g).v = .bool c ∧ b = (c == want)) ∨ ((V g).v = undef ∧ b = false))

theorem guarded_sound {ops : Array Oper} {V : Nat → EV} {o : Oper} {j : Nat} {run skip : (Nat → EV) → HP → Prop} {m : HP} (hV : ∀ i, (V i).ok) (h : guarded ops V o j run skip m) :
    ∃ V', (∀ i, (V' i).v = (V i).v) ∧ (∀ i, (V' i).ok) ∧ ((Wanted ops V' o j true ∧ run V' m) ∨ (Wanted ops V' o j false ∧ skip V' m)) := by
  unfold guarded at h
  unfold Wanted
  generalize hg : o.guard = gd at h
  split at h
  · exact ⟨V, fun _ => rfl, hV, .inl ⟨rfl, h⟩⟩
  · rename_i g want
    generalize hl : lastWok ops j g = lw at h
    split at h
    · exact h.elim
    · unfold lastWok at hl
      generalize hd : dstAt ops g = dd at hl
      split at hl
      · rename_i d
        have hl : lastW ops j d = some g := by simpa using hl
        generalize hlit : (V g).lit = lit at h
        split at h
        · rename_i b
          have hv := hV g b hlit
          refine ⟨V, fun _ => rfl, hV, ?_⟩
          generalize hb : (b == want) = bw at h
          split at h
          · exact .inl ⟨⟨d, rfl, hl, .inl ⟨b, hv, hb.symm⟩⟩, h⟩
          · exact .inr ⟨⟨d, rfl, hl, .inl ⟨b, hv, hb.symm⟩⟩, h⟩
        · generalize hv : (V g).v = v at h
          split at h
          · rename_i x
            have fin : ∀ c, x = c → ((match c == want with | true => run | false => skip) (upd V g ⟨.bool c, some c⟩)) m →
                ∃ V', (∀ i, (V' i).v = (V i).v) ∧ (∀ i, (V' i).ok) ∧ (((∃ d_1, some d = some d_1 ∧ lastW ops j d_1 = some g ∧ ((∃ c, (V' g).v = .bool c ∧ true = (c == want)) ∨ ((V' g).v = undef ∧ true = false))) ∧ run V' m) ∨
                  ((∃ d_1, some d = some d_1 ∧ lastW ops j d_1 = some g ∧ ((∃ c, (V' g).v = .bool c ∧ false = (c == want)) ∨ ((V' g).v = undef ∧ false = false))) ∧ skip V' m)) := by
              intro c hc h
              subst hc
              refine ⟨upd V g ⟨.bool x, some x⟩, fun i => ?_, upd_ok hV (fun b hb => by simp at hb; simp [hb]), ?_⟩
              · simp only [upd]; split
                · rename_i e; subst e; exact hv.symm
                · rfl
              · have hvg : (upd V g ⟨.bool x, some x⟩ g).v = .bool x := by simp [upd]
                generalize hb : (x == want) = bw at h
                split at h
                · exact .inl ⟨⟨d, rfl, hl, .inl ⟨x, hvg, hb.symm⟩⟩, h⟩
                · exact .inr ⟨⟨d, rfl, hl, .inl ⟨x, hvg, hb.symm⟩⟩, h⟩
            cases hx : x with
            | true => exact fin true hx (h.1 hx)
            | false => exact fin false hx (h.2 hx)
          · exact ⟨V, fun _ => rfl, hV, .inr ⟨⟨d, rfl, hl, .inr ⟨hv, rfl⟩⟩, h⟩⟩
          · exact h.elim
      · cases hl

theorem yielded_bool {ops : Array Oper} {tmps : Array Value} {g d : Nat} {c : Bool} (hd : dstAt ops g = some d) (hv : tmps.getD d undef = .bool c) : yielded ops tmps g = some c := by
  have : tmps[d]? = some (.bool c) := by
    rcases Nat.lt_or_ge d tmps.size with h | h
    · rw [Array.getD_eq_getD_getElem?] at hv
      simp [h] at hv ⊢; exact hv
    · rw [Array.getD_eq_getD_getElem?, Array.getElem?_eq_none h] at hv
      simp [undef] at hv
  unfold dstAt at hd
  simp only [yielded, hd, Option.bind_some, this]

theorem yielded_undef {ops : Array Oper} {tmps : Array Value} {g d : Nat} (hd : dstAt ops g = some d) (hv : tmps.getD d undef = undef) : yielded ops tmps g = none := by
  unfold dstAt at hd
  simp only [yielded, hd, Option.bind_some]
  rw [Array.getD_eq_getD_getElem?] at hv
  cases h : tmps[d]? with
  | none => rfl
  | some v => rw [h] at hv; simp only [Option.getD_some] at hv; subst hv; rfl

theorem wanted_eq {ops : Array Oper} {V : Nat → EV} {o : Oper} {j : Nat} {b : Bool} (h : Wanted ops V o j b) {tmps : Array Value}
    (ha : ∀ g want d, o.guard = some (g, want) → dstAt ops g = some d → lastW ops j d = some g → tmps.getD d undef = (V g).v) : Region.wanted o (yielded ops tmps) = b := by
  unfold Wanted at h
  unfold Region.wanted
  cases hg : o.guard with
  | none => rw [hg] at h; exact h.symm
  | some gw =>
    obtain ⟨g, want⟩ := gw
    rw [hg] at h
    obtain ⟨d, hd, hl, ⟨c, hv, rfl⟩ | ⟨hv, rfl⟩⟩ := h
    · have := ha g want d hg hd hl
      rw [hv] at this
      simp only [yielded_bool hd this]
      rfl
    · have := ha g want d hg hd hl
      rw [hv] at this
      simp only [yielded_undef hd this]; rfl

/-! ### The order of the text -/
def denOps (P : Program) (ops : Array Oper) (σ : Nat → EV) (X : List PanicEntry → HP → Prop) : List Nat → (Nat → EV) → ((Nat → EV) → HP → Prop) → HP → Prop
  | [], V, K => K V
  | j :: js, V, K =>
    match ops[j]? with
    | none => no
    | some o => guarded ops V o j (fun V' => denOne P o.type o.op (envAt ops V' σ j) (fun ev => denOps P ops σ X js (upd V' j ev) K) X)
        (fun V' => denOps P ops σ X js (upd V' j ⟨undef, none⟩) K)

theorem denOne_not {P : Program} {ty : TypeId} {op : Op} {s : Nat → EV} {K : EV → HP → Prop} {X : List PanicEntry → HP → Prop} {m : HP} (h : denOne P ty op s K X m) : (∀ c, op ≠ .defer c) ∧ (∀ cs b, op ≠ .select cs b) :=
  ⟨fun c e => by subst e; exact h, fun cs b e => by subst e; exact h⟩

theorem eval_eq {a : Act} {s : Nat → EV} (h : ∀ t, a.tmps.getD t undef = (s t).v) : a.eval = fun x => (evE s x).v :=
  funext fun x => by cases x <;> simp [Act.eval, evE, h]

theorem getD_put {a : Act} {dst : Option Nat} {v : Value} (hd : ∀ d, dst = some d → d < a.tmps.size) (t : Nat) :
    (a.put dst v).tmps.getD t undef = if dst = some t then v else a.tmps.getD t undef := by
  cases dst with
  | none => simp [Act.put]
  | some d =>
    have hlt := hd d rfl
    simp only [Act.put, Array.getD_eq_getD_getElem?, Array.getElem?_setIfInBounds, Option.some.injEq]
    by_cases e : d = t
    · subst e; simp [hlt]
    · simp [e]
theorem put_size (a : Act) (dst : Option Nat) (v : Value) : (a.put dst v).tmps.size = a.tmps.size := by cases dst <;> simp [Act.put]
theorem put_defers (a : Act) (dst : Option Nat) (v : Value) : (a.put dst v).defers = a.defers := by cases dst <;> simp [Act.put]

/-- Every operation's temporary is one. -/
def dstOk (N : Nat) (ops : Array Oper) : Bool := ops.toList.all fun o => match o.dst with | some d => decide (d < N) | none => true
theorem dstOk_spec {N : Nat} {ops : Array Oper} (h : dstOk N ops = true) {j : Nat} {o : Oper} (ho : ops[j]? = some o) : ∀ d, o.dst = some d → d < N := by
  intro d hd
  have := List.all_eq_true.1 h o (by rw [← Array.getElem?_toList] at ho; exact List.mem_of_getElem? ho)
  rw [hd] at this
  simpa using this

structure Reg (N : Nat) (ds : List Deferred) (a : Act) (s : Nat → EV) : Prop where
  size : a.tmps.size = N
  eq : ∀ t, a.tmps.getD t undef = (s t).v
  ok : ∀ t, (s t).ok
  ds : a.defers = ds

theorem denOps_sound {P : Program} {ops : Array Oper} {σ : Nat → EV} {X : List PanicEntry → HP → Prop} {N : Nat} {ds : List Deferred} {ro : Option Nat} {n : Nat} (hN : dstOk N ops = true) (hσ : ∀ t, (σ t).ok)
    {K : (Nat → EV) → HP → Prop} {Q : Exit → Act → World → Prop}
    (hX : ∀ c a w m, a.tmps.size = N → a.defers = ds → Holds w m → X c m → Q (.panic c) a w) : ∀ (k j : Nat) (V : Nat → EV) (m : HP) (a : Act) (w : World), (∀ i, (V i).ok) → Reg N ds a (envAt ops V σ j) → Holds w m →
    (∀ V m a w, Reg N ds a (envAt ops V σ (j + k)) → (∀ i, (V i).ok) → Holds w m → K V m → Q .normal a w) →
    denOps P ops σ X (List.range' j k) V K m → wpOpsIn (FW ro) n P ops Q (List.range' j k) a w := by
  intro k
  induction k with
  | zero =>
    intro j V m a w hV ha hw hQ h
    simpa [wpOpsIn] using hQ V m a w ha hV hw h
  | succ k ih =>
    intro j V m a w hV ha hw hQ h
    rw [List.range'_succ] at h ⊢
    simp only [denOps] at h
    rw [wpOpsIn_cons]
    unfold wpOpIn
    cases ho : ops[j]? with
    | none => rw [ho] at h; exact h.elim
    | some o =>
      rw [ho] at h
      simp only at h ⊢
      obtain ⟨V', hVv, hVo, hr⟩ := guarded_sound hV h
      have henv : ∀ t, (envAt ops V' σ j t).v = (envAt ops V σ j t).v := fun t => by simp only [envAt]; split <;> simp [hVv]
      have hact : ∀ t, a.tmps.getD t undef = (envAt ops V' σ j t).v := fun t => by rw [ha.eq, henv]
      have hwant : ∀ b, Wanted ops V' o j b → Region.wanted o (yielded ops a.tmps) = b := fun b hb => wanted_eq hb fun g want d _ _ hl => by
        rw [hact d]; simp [envAt, hl]
      have habout : ∀ f, o.about P w a.eval = some f → (FW ro).fn f := fun _ _ => trivial
      have hdst : ∀ d, o.dst = some d → d < a.tmps.size := fun d hd => by rw [ha.size]; exact dstOk_spec hN ho d hd
      have hdj : dstAt ops j = o.dst := by simp [dstAt, ho]
      have next : ∀ (ev : EV) (m' : HP) (w' : World), ev.ok → Holds w' m' → denOps P ops σ X (List.range' (j + 1) k) (upd V' j ev) K m' →
          wpOpsIn (FW ro) n P ops Q (List.range' (j + 1) k) (a.put o.dst ev.v) w' := by
        intro ev m' w' he hw' hd
        refine ih (j + 1) (upd V' j ev) m' _ w' (upd_ok hVo he) ⟨by rw [put_size, ha.size], fun t => ?_, envAt_ok (upd_ok hVo he) hσ _, by rw [put_defers, ha.ds]⟩ hw' ?_ hd
        · rw [getD_put hdst, envAt_succ, hdj]
          split
          · simp [upd]
          · rw [envAt_upd (Nat.le_refl _)]; exact hact t
        · intro V m a w g1 g2 g3 g4
          exact hQ V m a w (by rwa [show j + (k + 1) = j + 1 + k by omega]) g2 g3 g4
      rcases hr with ⟨hw1, hr⟩ | ⟨hw1, hr⟩
      · rw [hwant _ hw1]
        simp only [if_true]
        obtain ⟨hnd, _⟩ := denOne_not hr
        refine ⟨habout, ?_⟩
        rw [Oper.semAt_eq _ _ _ hnd, eval_eq hact]
        refine (denOne_in (envAt_ok hVo hσ j) hr hw).upon ?_ ?_
        · rintro v w' m' hw' ⟨ev, rfl, he, hk⟩
          exact next ev m' w' he hw' hk
        · intro c w' m' hw' hx
          exact hX c a w' m' ha.size ha.ds hw' hx
      · rw [hwant _ hw1]
        simp only [Bool.false_eq_true, if_false]
        exact ⟨habout, next ⟨undef, none⟩ m w (EV.ok_none _) hw hr⟩

end Go.Hp
