/- Code and functions over heaplets. Own work; nothing of any program. -/
import Derived.Test.YtolfcdjbchdkgaaDoorH9
import Derived.RangeFuncIn
namespace Go.Hp
open Go

/-! ### Live variables, as a tuple -/
@[reducible] def Tup : List (Nat × Ty) → Type
  | [] => Unit
  | (_, t) :: l => t.T × Tup l

def projOk : List (Nat × Ty) → (Nat → EV) → Bool
  | [], _ => true
  | (i, t) :: l, σ => t.is (σ i).v && projOk l σ
def proj : (L : List (Nat × Ty)) → (Nat → EV) → Tup L
  | [], _ => ()
  | (i, t) :: l, σ => (t.un (σ i).v, proj l σ)
/-- The live ones are x's, those of W are s's, the others as they were. -/
def loopEnv : (L : List (Nat × Ty)) → (W : List Nat) → Tup L → (Nat → EV) → (Nat → EV) → Nat → EV
  | [], W, _, s, σ, t => match W.contains t with | true => s t | false => σ t
  | (i, ty) :: l, W, x, s, σ, t => match t == i with | true => ⟨ty.val x.1, none⟩ | false => loopEnv l W x.2 s σ t

def hLoop {α : Type} (x0 : α) (body : α → (α → HP → Prop) → HP → Prop) : HP → Prop := fun m =>
  ∃ I : Nat → α → HP → Prop, (∃ k, I k x0 m) ∧ ∀ k x m, I k x m → body x (fun x' m' => ∃ k', k' < k ∧ I k' x' m') m
def hLet {α : Type} (A : (α → HP → Prop) → HP → Prop) (k : α → HP → Prop) : HP → Prop := fun m =>
  ∃ J : α → HP → Prop, (∀ x m, J x m → k x m) ∧ A J m
def hAll (f : (Nat → EV) → HP → Prop) : HP → Prop := fun m => ∀ s, (∀ t, (s t).ok) → f s m

structure Ann where
  loop : List (Nat × List (Nat × Ty)) := []
  cut : List (Nat × List (Nat × Ty)) := []
  range : List (Nat × List Nat) := []

def keyOf : Code → Option Nat
  | .region id _ _ => some id
  | .seq a b => match keyOf a with | some k => some k | none => keyOf b
  | .cond _ a b => match keyOf a with | some k => some k | none => keyOf b
  | .block _ b | .loop b | .scope b => keyOf b
  | _ => none

def lookupN {α : Type} : List (Nat × α) → Nat → Option α
  | [], _ => none
  | (k, v) :: l, n => match n == k with | true => some v | false => lookupN l n

def annOf (l : List (Nat × List (Nat × Ty))) (c : Code) : Option (List (Nat × Ty)) :=
  match keyOf c with | some k => lookupN l k | none => none

def writes : Code → List Nat
  | .region _ ops _ => ops.toList.filterMap (·.dst)
  | .seq a b => writes a ++ writes b
  | .cond _ a b => writes a ++ writes b
  | .block _ b | .loop b | .scope b => writes b
  | .rangeFunc _ _ a b => writes a ++ writes b
  | _ => []

def noRange : Code → Bool
  | .seq a b => noRange a && noRange b
  | .cond _ a b => noRange a && noRange b
  | .block _ b | .loop b | .scope b => noRange b
  | .rangeFunc .. => false
  | _ => true

def codeOk (N : Nat) : Code → Bool
  | .region _ ops draw => dstOk N ops && (!draw || drawOk ops)
  | .seq a b => codeOk N a && codeOk N b
  | .cond _ a b => codeOk N a && codeOk N b
  | .block _ b | .loop b | .scope b => codeOk N b
  | _ => true

def mkLoop (fn : FuncId) (tm : Array Value) (ps : Array Tmp) (assign body : Code) (r : Nat) : Loop :=
  { state := .ready, pending := none, fn, tmps := tm, params := ps, assign, body, defers := r }

/-- A loop's record, as the loop begins: its code, and the values of some temporaries. -/
def IsLoop (N : Nat) (vals : List (Nat × Value)) (c : Code) (rc : Loop) : Prop :=
  rc.state = .ready ∧ rc.pending = none ∧ rc.tmps.size = N ∧ (∃ g, c = .rangeFunc g rc.params rc.assign rc.body) ∧ ∀ p ∈ vals, rc.tmps.getD p.1 undef = p.2

/-- A range over a function: the loop's record l, the block r for deferred calls; the function is called. -/
def hRange (P : Program) (N : Nat) (g : Value) (vals : List (Nat × Value)) (c : Code) (Kn Kr : Nat → HP → Prop) (Ke : Nat → Nat → HP → Prop) : HP → Prop := fun m =>
  ∃ f fs cs, g = .func (.func f) fs cs ∧ ∀ (l r : Nat) (rc0 : Loop), IsLoop N vals c rc0 →
    Does P f ⟨fs.toList ++ [.func (.yield l) #[] #[]] ++ cs.toList⟩ (pt l (.loop rc0) + (pt r (.deferred (some [])) + m)) fun e m3 =>
      (∃ v, e = .returned v) ∧ ∃ rc m4, m3 = pt l (.loop rc) + m4 ∧ (rc.state == .busy) = false ∧
        match rc.pending with
        | none => Kn r (pt l (.loop { rc with state := .exhausted }) + m4)
        | some .ret => Kr r (pt l (.loop { rc with state := .exhausted }) + m4)
        | some (.exit id) => Ke id r (pt l (.loop { rc with state := .exhausted }) + m4)
        | _ => False

def hPick (b : Bool) (x y : HP → Prop) : HP → Prop := match b with | true => x | false => y

def valsOf (L : List Nat) (σ : Nat → EV) : List (Nat × Value) := L.map fun t => (t, (σ t).v)

def den (P : Program) (ann : Ann) (N : Nat) (top : Bool) : Code → (Nat → EV) → List Nat → (Exit → (Nat → EV) → List Nat → HP → Prop) → (List PanicEntry → HP → Prop) → HP → Prop
  | .skip, σ, mk, Q, _ => Q .normal σ mk
  | .ret, σ, mk, Q, _ => Q .ret σ mk
  | .exit id, σ, mk, Q, _ => Q (.exit id) σ mk
  | .seq a b, σ, mk, Q, X =>
    match annOf ann.cut b, noRange a with
    | some L, true => hLet (fun k => den P ann N top a σ mk (fun e σ' mk' => match e with | .normal => (match projOk L σ' with | true => k (proj L σ') | false => no) | e => Q e σ' mk') X)
        (fun x => hAll fun s => den P ann N top b (loopEnv L (writes a) x s σ) mk Q X)
    | _, _ => den P ann N top a σ mk (fun e σ' mk' => match e with | .normal => den P ann N top b σ' mk' Q X | e => Q e σ' mk') X
  | .cond c t e, σ, mk, Q, X =>
    match (evE σ c).lit with
    | some true => den P ann N top t σ mk Q X
    | some false => den P ann N top e σ mk Q X
    | none => match (evE σ c).v with | .bool b => hIf b (den P ann N top t σ mk Q X) (den P ann N top e σ mk Q X) | _ => no
  | .block id body, σ, mk, Q, X =>
    den P ann N top body σ mk (fun e σ' mk' => match e with | .exit i => (match i == id with | true => Q .normal σ' mk' | false => Q (.exit i) σ' mk') | e => Q e σ' mk') X
  | .loop body, σ, mk, Q, X =>
    match annOf ann.loop body, noRange body with
    | some L, true =>
      match projOk L σ with
      | true => hLoop (proj L σ) fun x again => hAll fun s => den P ann N top body (loopEnv L (writes body) x s σ) mk
          (fun e σ' mk' => match e with | .normal => (match projOk L σ' with | true => again (proj L σ') | false => no) | e => Q e σ' mk') X
      | false => no
    | _, _ => no
  | .region _ ops draw, σ, mk, Q, X =>
    match draw with
    | false => denOps P ops σ X (List.range' 0 ops.size) (fun _ => ⟨undef, none⟩) fun V => Q .normal (envAt ops V σ ops.size) mk
    | true => denDraw P ops (ancTab ops ops.size) σ X (fun V => Q .normal (envAt ops V σ ops.size) mk) (ops.size + 1) [] [] (fun _ => ⟨undef, none⟩)
  | .rangeFunc g ps assign body, σ, mk, Q, _ =>
    match top with
    | true =>
      match keyOf body with
      | some k => match lookupN ann.range k with
        | some L => hRange P N (evE σ g).v (valsOf L σ) (.rangeFunc g ps assign body) (fun r => Q .normal σ (r :: mk)) (fun r => Q .ret σ (r :: mk)) (fun id r => Q (.exit id) σ (r :: mk))
        | none => no
      | none => no
    | false => no
  | _, _, _, _, _ => no

/-! ### Sound -/
def dsOf (mk : List Nat) : List Deferred := mk.map fun r => { target := .collected r, args := #[] }

def PostR (N : Nat) (W : List Nat) (nr : Bool) (σ : Nat → EV) (mk : List Nat) (Q : Exit → (Nat → EV) → List Nat → HP → Prop) (X : List PanicEntry → HP → Prop) : Exit → Act → World → Prop
  | .panic c, a, w => ∃ m mk', Holds w m ∧ X c m ∧ a.defers = dsOf mk' ∧ (nr = true → mk' = mk)
  | .outgrown, _, _ => False
  | .goto _, _, _ => False
  | e, a, w => ∃ σ' mk' m, Reg N (dsOf mk') a σ' ∧ Holds w m ∧ Q e σ' mk' m ∧ (∀ t, W.contains t = false → (σ' t).v = (σ t).v) ∧ (nr = true → mk' = mk)

theorem loopEnv_spec {W : List Nat} {s σ : Nat → EV} : ∀ {L : List (Nat × Ty)} {σ' : Nat → EV}, projOk L σ' = true → (∀ t, W.contains t = true → (s t).v = (σ' t).v) → (∀ t, W.contains t = false → (σ t).v = (σ' t).v) →
    ∀ t, (loopEnv L W (proj L σ') s σ t).v = (σ' t).v := by
  intro L
  induction L with
  | nil =>
    intro σ' _ h1 h2 t
    simp only [loopEnv]
    split
    · rename_i h; exact h1 t h
    · rename_i h; exact h2 t h
  | cons p l ih =>
    obtain ⟨i, ty⟩ := p
    intro σ' hp h1 h2 t
    simp only [projOk, Bool.and_eq_true] at hp
    simp only [loopEnv, proj]
    split
    · rename_i h
      have : t = i := by simpa using h
      subst this
      exact Ty.val_un hp.1
    · exact ih hp.2 h1 h2 t

theorem loopEnv_ok {W : List Nat} {s σ : Nat → EV} (hs : ∀ t, (s t).ok) (hσ : ∀ t, (σ t).ok) : ∀ {L : List (Nat × Ty)} {x : Tup L} (t : Nat), (loopEnv L W x s σ t).ok := by
  intro L
  induction L with
  | nil => intro x t; simp only [loopEnv]; split <;> first | exact hs _ | exact hσ _
  | cons p l ih =>
    obtain ⟨i, ty⟩ := p
    intro x t
    simp only [loopEnv]
    split
    · exact EV.ok_none _
    · exact ih t

theorem lastW_writes {ops : Array Oper} {n t k : Nat} (h : lastW ops n t = some k) : (ops.toList.filterMap (·.dst)).contains t = true := by
  have := (lastW_lt h).2
  unfold dstAt at this
  cases ho : ops[k]? with
  | none => rw [ho] at this; cases this
  | some o =>
    rw [ho] at this
    simp only [List.contains_iff_mem]
    exact List.mem_filterMap.2 ⟨o, by rw [← Array.getElem?_toList] at ho; exact List.mem_of_getElem? ho, this⟩

theorem contains_append_false {x y : List Nat} {t : Nat} : (x ++ y).contains t = false ↔ x.contains t = false ∧ y.contains t = false := by
  rw [List.contains_append, Bool.or_eq_false_iff]

theorem least {p : Nat → Prop} (h : ∃ k, p k) : ∃ k, p k ∧ ∀ j, p j → k ≤ j := by
  obtain ⟨k, hk⟩ := h
  induction k using Nat.strongRecOn with
  | _ k ih =>
    by_cases hx : ∃ j, j < k ∧ p j
    · obtain ⟨j, hj, hpj⟩ := hx
      exact ih j hj hpj
    · exact ⟨k, hk, fun j hj => Nat.le_of_not_lt fun hlt => hx ⟨j, hlt, hj⟩⟩

theorem den_sound {P : Program} (hm : P.follows .mixedOrders = true) {ann : Ann} {N : Nat} {top : Bool} {ro : Option Nat} (htop : top = true → ro = none) {n : Nat} {X : List PanicEntry → HP → Prop} :
    ∀ (c : Code) (σ : Nat → EV) (mk : List Nat) (Q : Exit → (Nat → EV) → List Nat → HP → Prop) (m : HP) (a : Act) (w : World), codeOk N c = true → den P ann N top c σ mk Q X m → Reg N (dsOf mk) a σ → Holds w m →
      c.wpIn (FW ro) n P (PostR N (writes c) (noRange c) σ mk Q X) a w := by
  intro c
  induction c with
  | skip => intro σ mk Q m a w _ h ha hw; exact wpIn_skip ⟨σ, mk, m, ha, hw, h, fun _ _ => rfl, fun _ => rfl⟩
  | ret => intro σ mk Q m a w _ h ha hw; exact wpIn_ret ⟨σ, mk, m, ha, hw, h, fun _ _ => rfl, fun _ => rfl⟩
  | exit id => intro σ mk Q m a w _ h ha hw; exact wpIn_exit ⟨σ, mk, m, ha, hw, h, fun _ _ => rfl, fun _ => rfl⟩
  | scope b _ => intro σ mk Q m a w _ h; exact h.elim
  | label l => intro σ mk Q m a w _ h; exact h.elim
  | goto l => intro σ mk Q m a w _ h; exact h.elim
  | refuse s => intro σ mk Q m a w _ h; exact h.elim
  | cond c t e iht ihe =>
    intro σ mk Q m a w hok h ha hw
    simp only [codeOk, Bool.and_eq_true] at hok
    simp only [den] at h
    have hev : a.eval c = (evE σ c).v := by rw [eval_eq ha.eq]
    have hc := evE_ok ha.ok c
    have monoT : ∀ e' a' w', PostR N (writes t) (noRange t) σ mk Q X e' a' w' → PostR N (writes (.cond c t e)) (noRange (.cond c t e)) σ mk Q X e' a' w' := by
      intro e' a' w' hp
      cases e' <;> first
        | exact hp.elim
        | (obtain ⟨σ', mk', m', h1, h2, h3, h4, h5⟩ := hp
           exact ⟨σ', mk', m', h1, h2, h3, fun u hu => h4 u (contains_append_false.1 hu).1, fun hn => h5 (by simp only [noRange, Bool.and_eq_true] at hn; exact hn.1)⟩)
        | (obtain ⟨m', mk', h1, h2, h3, h4⟩ := hp
           exact ⟨m', mk', h1, h2, h3, fun hn => h4 (by simp only [noRange, Bool.and_eq_true] at hn; exact hn.1)⟩)
    have monoE : ∀ e' a' w', PostR N (writes e) (noRange e) σ mk Q X e' a' w' → PostR N (writes (.cond c t e)) (noRange (.cond c t e)) σ mk Q X e' a' w' := by
      intro e' a' w' hp
      cases e' <;> first
        | exact hp.elim
        | (obtain ⟨σ', mk', m', h1, h2, h3, h4, h5⟩ := hp
           exact ⟨σ', mk', m', h1, h2, h3, fun u hu => h4 u (contains_append_false.1 hu).2, fun hn => h5 (by simp only [noRange, Bool.and_eq_true] at hn; exact hn.2)⟩)
        | (obtain ⟨m', mk', h1, h2, h3, h4⟩ := hp
           exact ⟨m', mk', h1, h2, h3, fun hn => h4 (by simp only [noRange, Bool.and_eq_true] at hn; exact hn.2)⟩)
    generalize hl : (evE σ c).lit = l at h
    split at h
    · exact wpIn_cond_true (by rw [hev, hc _ hl]) (wpIn_mono (iht σ mk Q m a w hok.1 h ha hw) monoT)
    · exact wpIn_cond_false (by rw [hev, hc _ hl]) (wpIn_mono (ihe σ mk Q m a w hok.2 h ha hw) monoE)
    · generalize hv : (evE σ c).v = v at h
      split at h
      · rename_i b
        refine wpIn_cond_split (t := b) (by rw [hev, hv]) (fun hb => ?_) (fun hb => ?_)
        · exact wpIn_mono (iht σ mk Q m a w hok.1 (h.1 hb) ha hw) monoT
        · exact wpIn_mono (ihe σ mk Q m a w hok.2 (h.2 hb) ha hw) monoE
      · exact h.elim
  | block id b ih =>
    intro σ mk Q m a w hok h ha hw
    simp only [den] at h
    refine wpIn_block (wpIn_mono (ih σ mk _ m a w hok h ha hw) ?_)
    intro e a' w' hp
    cases e with
    | exit i =>
      obtain ⟨σ', mk', m', h1, h2, h3, h4, h5⟩ := hp
      simp only [Exit.inBlock]
      simp only at h3
      generalize hi : (i == id) = ii at h3
      split at h3
      · have : i = id := by simpa using hi
        rw [if_pos this]
        exact ⟨σ', mk', m', h1, h2, h3, h4, h5⟩
      · have : i ≠ id := by simpa using hi
        rw [if_neg this]
        exact ⟨σ', mk', m', h1, h2, h3, h4, h5⟩
    | normal => exact hp
    | ret => exact hp
    | goto l => exact hp.elim
    | panic c => exact hp
    | outgrown => exact hp.elim
  | seq x y ihx ihy =>
    intro σ mk Q m a w hok h ha hw
    simp only [codeOk, Bool.and_eq_true] at hok
    simp only [den] at h
    have others : ∀ {e : Exit} {σ' : Nat → EV} {mk' : List Nat} {m' : HP} {a' : Act} {w' : World}, e ≠ .normal → (∀ c, e ≠ .panic c) → e ≠ .outgrown → (∀ l, e ≠ .goto l) → Reg N (dsOf mk') a' σ' → Holds w' m' → Q e σ' mk' m' →
        (∀ t, (writes x).contains t = false → (σ' t).v = (σ t).v) → (noRange x = true → mk' = mk) → PostR N (writes (.seq x y)) (noRange (.seq x y)) σ mk Q X e a' w' := by
      intro e σ' mk' m' a' w' h0 h1 h2 h3 g1 g2 g3 g4 g5
      have : ∃ σ' mk' m, Reg N (dsOf mk') a' σ' ∧ Holds w' m ∧ Q e σ' mk' m ∧ (∀ t, (writes (.seq x y)).contains t = false → (σ' t).v = (σ t).v) ∧ (noRange (.seq x y) = true → mk' = mk) :=
        ⟨σ', mk', m', g1, g2, g3, fun u hu => g4 u (contains_append_false.1 hu).1, fun hn => g5 (by simp only [noRange, Bool.and_eq_true] at hn; exact hn.1)⟩
      cases e with
      | normal => exact absurd rfl h0
      | panic c => exact absurd rfl (h1 c)
      | outgrown => exact absurd rfl h2
      | goto l => exact absurd rfl (h3 l)
      | ret => exact this
      | exit i => exact this
    have second : ∀ {σ1 : Nat → EV} {mk1 : List Nat} {m1 : HP} {a1 : Act} {w1 : World}, den P ann N top y σ1 mk1 Q X m1 → Reg N (dsOf mk1) a1 σ1 → Holds w1 m1 →
        (∀ t, (writes x).contains t = false → (σ1 t).v = (σ t).v) → (noRange x = true → mk1 = mk) → y.wpIn (FW ro) n P (PostR N (writes (.seq x y)) (noRange (.seq x y)) σ mk Q X) a1 w1 := by
      intro σ1 mk1 m1 a1 w1 g1 g2 g3 g4 g5
      refine wpIn_mono (ihy σ1 mk1 Q m1 a1 w1 hok.2 g1 g2 g3) ?_
      intro e a' w' hp
      cases e <;> first
        | exact hp.elim
        | (obtain ⟨σ', mk', m', k1, k2, k3, k4, k5⟩ := hp
           exact ⟨σ', mk', m', k1, k2, k3, fun u hu => (k4 u (contains_append_false.1 hu).2).trans (g4 u (contains_append_false.1 hu).1),
             fun hn => by simp only [noRange, Bool.and_eq_true] at hn; exact (k5 hn.2).trans (g5 hn.1)⟩)
        | (obtain ⟨m', mk', k1, k2, k3, k4⟩ := hp
           exact ⟨m', mk', k1, k2, k3, fun hn => by simp only [noRange, Bool.and_eq_true] at hn; exact (k4 hn.2).trans (g5 hn.1)⟩)
    generalize hc : annOf ann.cut y = cc at h
    generalize hnr : noRange x = nr at h
    split at h
    · rename_i L
      obtain ⟨J, hJ, hA⟩ := h
      refine wpIn_seq (wpIn_mono (ihx σ mk _ m a w hok.1 hA ha hw) ?_)
      intro e a' w' hp
      cases e with
      | normal =>
        obtain ⟨σ', mk', m', g1, g2, g3, g4, g5⟩ := hp
        simp only at g3
        generalize hpo : projOk L σ' = po at g3
        split at g3
        · have hmk := g5 hnr
          subst hmk
          have hk := hJ _ _ g3
          have henv : ∀ t, (loopEnv L (writes x) (proj L σ') (fun t => ⟨(σ' t).v, none⟩) σ t).v = (σ' t).v :=
            loopEnv_spec hpo (fun t _ => rfl) (fun t ht => (g4 t ht).symm)
          refine second (hk (fun t => ⟨(σ' t).v, none⟩) (fun t => EV.ok_none _)) ⟨g1.size, fun t => by rw [henv]; exact g1.eq t, fun t => loopEnv_ok (fun t => EV.ok_none _) ha.ok t, g1.ds⟩ g2 (fun t ht => by rw [henv]; exact g4 t ht) (fun _ => rfl)
        · exact g3.elim
      | ret => obtain ⟨σ', mk', m', g1, g2, g3, g4, g5⟩ := hp; exact others (by simp) (by simp) (by simp) (by simp) g1 g2 g3 g4 g5
      | exit i => obtain ⟨σ', mk', m', g1, g2, g3, g4, g5⟩ := hp; exact others (by simp) (by simp) (by simp) (by simp) g1 g2 g3 g4 g5
      | goto l => exact hp.elim
      | panic c => obtain ⟨m', mk', k1, k2, k3, k4⟩ := hp; exact ⟨m', mk', k1, k2, k3, fun hn => k4 (by simp only [noRange, Bool.and_eq_true] at hn; exact hn.1)⟩
      | outgrown => exact hp.elim
    · refine wpIn_seq (wpIn_mono (ihx σ mk _ m a w hok.1 h ha hw) ?_)
      intro e a' w' hp
      cases e with
      | normal =>
        obtain ⟨σ', mk', m', g1, g2, g3, g4, g5⟩ := hp
        exact second g3 g1 g2 g4 g5
      | ret => obtain ⟨σ', mk', m', g1, g2, g3, g4, g5⟩ := hp; exact others (by simp) (by simp) (by simp) (by simp) g1 g2 g3 g4 g5
      | exit i => obtain ⟨σ', mk', m', g1, g2, g3, g4, g5⟩ := hp; exact others (by simp) (by simp) (by simp) (by simp) g1 g2 g3 g4 g5
      | goto l => exact hp.elim
      | panic c => obtain ⟨m', mk', k1, k2, k3, k4⟩ := hp; exact ⟨m', mk', k1, k2, k3, fun hn => k4 (by simp only [noRange, Bool.and_eq_true] at hn; exact hn.1)⟩
      | outgrown => exact hp.elim
  | loop b ih =>
    intro σ mk Q m a w hok h ha hw
    simp only [den] at h
    generalize hc : annOf ann.loop b = cc at h
    generalize hnr : noRange b = nr at h
    split at h
    · rename_i L
      generalize hpo : projOk L σ = po at h
      split at h
      · obtain ⟨I, ⟨k0, hI0⟩, hround⟩ := h
        let Inv : Nat → Act → World → Prop := fun k a' w' => ∃ σ' m', Reg N (dsOf mk) a' σ' ∧ Holds w' m' ∧ projOk L σ' = true ∧ I k (proj L σ') m' ∧ ∀ t, (writes b).contains t = false → (σ' t).v = (σ t).v
        let mu : Act → World → Nat := fun a' w' => open Classical in if hx : ∃ k, Inv k a' w' then Classical.choose (least hx) else 0
        have hmu : ∀ k a' w', Inv k a' w' → Inv (mu a' w') a' w' ∧ mu a' w' ≤ k := by
          intro k a' w' hk
          have hx : ∃ k, Inv k a' w' := ⟨k, hk⟩
          have e : mu a' w' = Classical.choose (least hx) := dif_pos hx
          rw [e]
          exact ⟨(Classical.choose_spec (least hx)).1, (Classical.choose_spec (least hx)).2 k hk⟩
        refine wpIn_loop (fun a' w' => ∃ k, Inv k a' w') mu ⟨k0, σ, m, ha, hw, hpo, hI0, fun _ _ => rfl⟩ ?_
        rintro a1 w1 ⟨k1, hk1⟩
        obtain ⟨⟨σ1, m1, g1, g2, g3, g4, g5⟩, _⟩ := hmu k1 a1 w1 hk1
        have henv : ∀ t, (loopEnv L (writes b) (proj L σ1) (fun t => ⟨(σ1 t).v, none⟩) σ t).v = (σ1 t).v :=
          loopEnv_spec g3 (fun t _ => rfl) (fun t ht => (g5 t ht).symm)
        refine wpIn_mono (ih _ mk _ m1 a1 w1 hok (hround _ _ _ g4 (fun t => ⟨(σ1 t).v, none⟩) (fun t => EV.ok_none _))
          ⟨g1.size, fun t => by rw [henv]; exact g1.eq t, fun t => loopEnv_ok (fun t => EV.ok_none _) ha.ok t, g1.ds⟩ g2) ?_
        intro e a' w' hp
        have back : ∀ {σ' : Nat → EV}, (∀ t, (writes b).contains t = false → (σ' t).v = (loopEnv L (writes b) (proj L σ1) (fun t => ⟨(σ1 t).v, none⟩) σ t).v) →
            ∀ t, (writes b).contains t = false → (σ' t).v = (σ t).v := fun h4 t ht => by rw [h4 t ht, henv]; exact g5 t ht
        cases e with
        | normal =>
          obtain ⟨σ', mk', m', k1, k2, k3, k4, k5⟩ := hp
          simp only at k3
          generalize hpo' : projOk L σ' = po' at k3
          split at k3
          · have hmk := k5 hnr
            subst hmk
            obtain ⟨k', hlt, hI'⟩ := k3
            have hinv : Inv k' a' w' := ⟨σ', m', k1, k2, hpo', hI', back k4⟩
            exact ⟨⟨k', hinv⟩, Nat.lt_of_le_of_lt (hmu k' a' w' hinv).2 hlt⟩
          · exact k3.elim
        | ret => obtain ⟨σ', mk', m', k1, k2, k3, k4, k5⟩ := hp; exact ⟨σ', mk', m', k1, k2, k3, back k4, fun _ => k5 hnr⟩
        | exit i => obtain ⟨σ', mk', m', k1, k2, k3, k4, k5⟩ := hp; exact ⟨σ', mk', m', k1, k2, k3, back k4, fun _ => k5 hnr⟩
        | goto l => exact hp.elim
        | panic c => exact hp
        | outgrown => exact hp.elim
      · exact h.elim
    · exact h.elim
  | region id ops draw =>
    intro σ mk Q m a w hok h ha hw
    simp only [codeOk, Bool.and_eq_true] at hok
    simp only [den] at h
    have hQ : ∀ (V : Nat → EV) (m : HP) (a : Act) (w : World), Reg N (dsOf mk) a (envAt ops V σ ops.size) → (∀ i, (V i).ok) → Holds w m → Q .normal (envAt ops V σ ops.size) mk m →
        PostR N (writes (.region id ops draw)) (noRange (.region id ops draw)) σ mk Q X .normal a w := by
      intro V m a w g1 _ g2 g3
      refine ⟨_, mk, m, g1, g2, g3, fun t ht => ?_, fun _ => rfl⟩
      simp only [envAt]
      cases hl : lastW ops ops.size t with
      | none => rfl
      | some k => have := lastW_writes hl; simp only [writes] at ht; rw [this] at ht; cases ht
    have hX : ∀ (c : List PanicEntry) (a : Act) (w : World) (m : HP), a.tmps.size = N → a.defers = dsOf mk → Holds w m → X c m →
        PostR N (writes (.region id ops draw)) (noRange (.region id ops draw)) σ mk Q X (.panic c) a w := fun c a w m _ g0 g1 g2 => ⟨m, mk, g1, g2, g0, fun _ => rfl⟩
    cases draw with
    | false =>
      simp only at h
      refine wpIn_region ?_
      rw [List.range_eq_range']
      refine denOps_sound hok.1 ha.ok hX ops.size 0 _ m a w (fun _ => EV.ok_none _) ⟨ha.size, ha.eq, ha.ok, ha.ds⟩ hw ?_ h
      intro V m a w g1 g2 g3 g4
      rw [Nat.zero_add] at g1
      exact hQ V m a w g1 g2 g3 g4
    | true =>
      simp only at h
      have hd : drawOk ops = true := by simpa using hok.2
      exact draw_sound ha.ok hd hok.1 hX hQ hm ha hw h
  | rangeFunc g ps assign body _ _ =>
    intro σ mk Q m a w hok h ha hw
    simp only [den] at h
    cases top with
    | false => exact h.elim
    | true =>
      simp only at h
      obtain rfl := htop rfl
      cases hk : keyOf body with
      | none => rw [hk] at h; exact h.elim
      | some k =>
      rw [hk] at h
      simp only at h
      cases hl : lookupN ann.range k with
      | none => rw [hl] at h; exact h.elim
      | some L =>
      rw [hl] at h
      simp only at h
      obtain ⟨f, fs, cs, hg, h⟩ := h
      · have hev : a.eval g = .func (.func f) fs cs := by rw [eval_eq ha.eq]; exact hg
        refine wpIn_rangeFunc fun fn _ => ?_
        let r := w.heap.size
        let w1 : World := { w with heap := w.heap.push (.deferred (some [])) }
        let rc := mkLoop fn a.tmps ps assign body r
        let w2 : World := { w1 with heap := w1.heap.push (.loop rc) }
        have hw1 : Holds w1 (pt r (.deferred (some [])) + m) := hw.push _
        have hw2 : Holds w2 (pt w1.heap.size (.loop rc) + (pt r (.deferred (some [])) + m)) := hw1.push _
        have hcall := h w1.heap.size r (mkLoop fn a.tmps ps assign body r) ⟨rfl, rfl, ha.size, ⟨g, rfl⟩, by
          intro p hp; unfold valsOf at hp; obtain ⟨t, _, rfl⟩ := List.mem_map.1 hp; exact ha.eq t⟩
        refine ⟨w1.heap.size, [{ target := .collected r, args := #[] }], w2, { target := .fn (.func f) cs, args := fs ++ #[.func (.yield w1.heap.size) #[] #[]] }, w2, f, _, w2, ?_, ?_, fun _ _ => trivial, ?_, by simp [FW], callsIn_FW ((hcall.2 w2 hw2).mono ?_)⟩
        · simp [Instr.enterLoop, FW, w2, w1, rc, mkLoop, r]
        · simp only [resolve, rangeCall, hev, Deferred.ofValue, Sem.run_pure]
          simp [Act.eval]
        · have e2 : (fs ++ #[Value.func (.yield w1.heap.size) #[] #[]] ++ cs) = ⟨fs.toList ++ [.func (.yield w1.heap.size) #[] #[]] ++ cs.toList⟩ := by apply Array.ext'; simp
          simp only [invoke]
          rw [e2]
          exact hcall.1 _ w2
        · rintro e w3 ⟨m3, hw3, ⟨v, rfl⟩, rc', m4, rfl, hst, hpend⟩
          have hgl := hw3.get.1
          have hend : (Instr.endLoop w1.heap.size).run P w3 = .ok rc'.pending { w3 with heap := w3.heap.setIfInBounds w1.heap.size (.loop { rc' with state := .exhausted }) } := by
            have hst' : ¬ rc'.state = .busy := by simpa using hst
            simp [Instr.endLoop, Instr.getLoop, getObj, setObj, Sem.run, hgl, hst', hst]
          have hw4 : Holds { w3 with heap := w3.heap.setIfInBounds w1.heap.size (.loop { rc' with state := .exhausted }) } (pt w1.heap.size (.loop { rc' with state := .exhausted }) + m4) := hw3.setObj
          refine ⟨_, _, hend, ?_⟩
          have hreg : Reg N (dsOf (r :: mk)) { a with defers := [{ target := .collected r, args := #[] }] ++ a.defers } σ := ⟨ha.size, ha.eq, ha.ok, by rw [ha.ds]; rfl⟩
          have fin : ∀ (e : Exit) (m5 : HP), Holds { w3 with heap := w3.heap.setIfInBounds w1.heap.size (.loop { rc' with state := .exhausted }) } m5 → Q e σ (r :: mk) m5 →
              ∃ σ' mk' m', Reg N (dsOf mk') { a with defers := [{ target := .collected r, args := #[] }] ++ a.defers } σ' ∧
              Holds { w3 with heap := w3.heap.setIfInBounds w1.heap.size (.loop { rc' with state := .exhausted }) } m' ∧ Q e σ' mk' m' ∧
              (∀ t, (writes (.rangeFunc g ps assign body)).contains t = false → (σ' t).v = (σ t).v) ∧ (noRange (.rangeFunc g ps assign body) = true → mk' = mk) :=
            fun e m5 h5 hq => ⟨σ, r :: mk, m5, hreg, h5, hq, fun _ _ => rfl, fun hn => by cases hn⟩
          obtain ⟨st, pd, fn', tm', ps', as', bd', df'⟩ := rc'
          simp only at hpend hw4 fin ⊢
          cases pd with
          | none => exact fin _ _ hw4 hpend
          | some c =>
            cases c <;> simp only at hpend ⊢ <;> try (exact hpend.elim)
            case exit id => exact wpIn_exit (fin _ _ hw4 hpend)
            case ret => exact wpIn_ret (fin _ _ hw4 hpend)

end Go.Hp
