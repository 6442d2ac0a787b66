/- Operations and regions over heaplets: the predicate, and that it is sound, in the order of the text and in every order that a region allows. Own work; nothing of any program. -/
import Derived.Test.YtolfcdjbchdkgaaDoorH5
namespace Go.Hp
open Go

/-- The fences used here: every function, any depth. -/
def FW (ro : Option Nat) : Fence := { fn := fun _ => True, depth := none, alive := false, round := ro }

theorem callsIn_FW {ro : Option Nat} {n : Nat} {P : Program} {f : FuncId} {args : Array Value} {w : World} {R : Ending → World → Prop} (h : Calls P f args w R) : CallsIn (FW ro) n P f args w R :=
  (callsIn_wide (n := n)).2 h

/-- A call of a loop's body: from whatever world that holds m. -/
def HYield (P : Program) (l : Nat) (args : Array Value) (m : HP) (R : Ending → HP → Prop) : Prop :=
  ∀ w, Holds w m → ∃ f tmps assign body, (Instr.yield l args).run P w = .ok (.round l f tmps assign body) w ∧
    ∀ n, RoundIn (FW none) n P l f tmps assign body w fun e w' => ∃ m', Holds w' m' ∧ R e m'

theorem HYield.mono {P : Program} {l : Nat} {args : Array Value} {m : HP} {R R' : Ending → HP → Prop} (h : HYield P l args m R) (hr : ∀ e m', R e m' → R' e m') : HYield P l args m R' := by
  intro w hw
  obtain ⟨f, tmps, assign, body, h1, h2⟩ := h w hw
  exact ⟨f, tmps, assign, body, h1, fun n => (h2 n).mono fun e w' ⟨m', g1, g2⟩ => ⟨m', g1, hr _ _ g2⟩⟩

/-- What an operation's run must come to. -/
def OpIn (P : Program) (K : Value → HP → Prop) (X : List PanicEntry → HP → Prop) : Result Next → Prop
  | .ok (.value v) w' => ∃ m', Holds w' m' ∧ K v m'
  | .ok .skip w' => ∃ m', Holds w' m' ∧ K undef m'
  | .ok (.enter f args) w' => ∃ m', Holds w' m' ∧ HCalls P f args m' (retX K X)
  | .ok (.round l f tmps assign body) w' => ∀ n, RoundIn (FW none) n P l f tmps assign body w' fun e w'' => ∃ m', Holds w'' m' ∧ retX K X e m'
  | .halt (.panic v) w' => ∃ m', Holds w' m' ∧ X [{ v, recovered := false }] m'
  | _ => False

theorem OpIn.upon {P : Program} {K : Value → HP → Prop} {X : List PanicEntry → HP → Prop} {r : Result Next} (h : OpIn P K X r) {ro : Option Nat} {n : Nat} {o : Oper} {a : Act}
    {next : Act → World → Prop} {Q : Exit → Act → World → Prop} (hn : ∀ v w' m', Holds w' m' → K v m' → next (a.put o.dst v) w')
    (hx : ∀ c w' m', Holds w' m' → X c m' → Q (.panic c) a w') : o.uponIn (FW ro) n P a next Q r := by
  cases r with
  | ok x w' =>
    cases x <;> simp only [OpIn] at h <;> try (exact h.elim)
    case value v => obtain ⟨m', h1, h2⟩ := h; exact hn _ _ _ h1 h2
    case skip => obtain ⟨m', h1, h2⟩ := h; exact hn _ _ _ h1 h2
    case enter f args =>
      obtain ⟨m', h1, h2⟩ := h
      refine ⟨by simp [FW], callsIn_FW ((h2 w' h1).mono ?_)⟩
      rintro e w'' ⟨m'', g1, g2⟩
      cases e with
      | returned v => exact hn _ _ _ g1 g2
      | panicked c => exact hx _ _ _ g1 g2
      | outgrown => exact g2.elim
    case round l f tmps assign body =>
      refine ⟨by simp [FW], RoundIn.mono (h (n - 1)) ?_⟩
      rintro e w'' ⟨m'', g1, g2⟩
      cases e with
      | returned v => exact hn _ _ _ g1 g2
      | panicked c => exact hx _ _ _ g1 g2
      | outgrown => exact g2.elim
  | halt x w' =>
    cases x <;> simp only [OpIn] at h <;> try (exact h.elim)
    case panic v => obtain ⟨m', h1, h2⟩ := h; exact hx _ _ _ h1 h2

/-- Values of these kinds. -/
def exTys : List Ty → (List Value → HP → Prop) → HP → Prop
  | [], K => K []
  | t :: ts, K => fun m => ∃ x : t.T, exTys ts (fun l => K (t.val x :: l)) m
def exTy (P : Program) (t : TypeId) (K : Value → HP → Prop) : HP → Prop :=
  match aggB P t, P.underlying t with
  | true, _ => exTys (flat P 20 t) fun l => K (.agg ⟨l⟩)
  | false, some d => fun m => ∃ x, K ((tyScalar d).val x) m
  | false, none => no
def exTyps (P : Program) : List TypeId → (List Value → HP → Prop) → HP → Prop
  | [], K => K []
  | t :: ts, K => exTy P t fun v => exTyps P ts fun l => K (v :: l)
/-- A result, of the type t: its parts. -/
def tyd (P : Program) (t : TypeId) (v : Value) (K : Value → HP → Prop) : HP → Prop :=
  match P.underlying t with
  | some (.tuple ⟨[]⟩) => K v
  | some (.tuple ts) => exTyps P ts.toList fun vs m => v = .tuple ⟨vs⟩ ∧ K (.tuple ⟨vs⟩) m
  | _ => exTy P t fun u m => v = u ∧ K u m

theorem exTys_sound {ts : List Ty} : ∀ {K : List Value → HP → Prop} {m : HP}, exTys ts K m → ∃ l, K l m := by
  induction ts with
  | nil => intro K m h; exact ⟨[], h⟩
  | cons t ts ih => intro K m h; obtain ⟨x, h⟩ := h; obtain ⟨l, h⟩ := ih h; exact ⟨_, h⟩
theorem exTy_sound {P : Program} {t : TypeId} {K : Value → HP → Prop} {m : HP} (h : exTy P t K m) : ∃ v, K v m := by
  unfold exTy at h
  generalize aggB P t = g at h
  generalize P.underlying t = u at h
  split at h
  · obtain ⟨l, h⟩ := exTys_sound h; exact ⟨_, h⟩
  · obtain ⟨x, h⟩ := h; exact ⟨_, h⟩
  · exact h.elim
theorem exTyps_sound {P : Program} {ts : List TypeId} : ∀ {K : List Value → HP → Prop} {m : HP}, exTyps P ts K m → ∃ l, K l m := by
  induction ts with
  | nil => intro K m h; exact ⟨[], h⟩
  | cons t ts ih => intro K m h; obtain ⟨v, h⟩ := exTy_sound h; obtain ⟨l, h⟩ := ih h; exact ⟨_, h⟩
theorem tyd_sound {P : Program} {t : TypeId} {v : Value} {K : Value → HP → Prop} {m : HP} (h : tyd P t v K m) : K v m := by
  unfold tyd at h
  generalize P.underlying t = u at h
  split at h
  · exact h
  · obtain ⟨l, h1, h2⟩ := exTyps_sound h; rw [h1]; exact h2
  · obtain ⟨l, h1, h2⟩ := exTy_sound h; rw [h1]; exact h2

def hCall (P : Program) (f : FuncId) (args : Array Value) (X : List PanicEntry → HP → Prop) (K : Value → HP → Prop) : HP → Prop := fun m => Does P f args m (retX K X)
def hYield (P : Program) (l : Nat) (args : Array Value) (X : List PanicEntry → HP → Prop) (K : Value → HP → Prop) : HP → Prop := fun m => HYield P l args m (retX K X)

def lCall (P : Program) (ty : TypeId) (fv : Value) (args : List Value) (K : Value → HP → Prop) (X : List PanicEntry → HP → Prop) : HP → Prop :=
  match fv with
  | .func (.func f) fs cs => hCall P f ⟨fs.toList ++ args ++ cs.toList⟩ X fun v => tyd P ty v K
  | .func (.yield l) fs _ => hYield P l ⟨fs.toList ++ args⟩ X fun v => tyd P ty v K
  | _ => no

theorem retX_tyd {P : Program} {ty : TypeId} {K : Value → HP → Prop} {X : List PanicEntry → HP → Prop} (e : Ending) (m : HP) (h : retX (fun v => tyd P ty v K) X e m) : retX K X e m := by
  cases e <;> first | exact tyd_sound h | exact h

def denL (P : Program) (ty : TypeId) (op : Op) (ρ : Operand → Value) (K : Value → HP → Prop) (X : List PanicEntry → HP → Prop) : HP → Prop :=
  match op with
  | .alloc t => lAlloc P t K
  | .box t x => lBox t (ρ x) K
  | .buildSlice t n parts => lBuildSlice P t n (parts.map fun (i, x) => (i, ρ x)) K
  | .store t a x => lStore P t (ρ a) (ρ x) (K undef)
  | .makeSlice t l c => lMake P t (ρ l) (ρ c) K
  | .makeMap _ none => lMakeMap K
  | .mapUpdate t mp k x => lMapUpdate P t (ρ mp) (ρ k) (ρ x) (K undef)
  | .panic x => match ρ x with | .iface t v => X [{ v := .iface t v, recovered := false }] | _ => no
  | .call c =>
    match c.callee with
    | .builtin .append => lAppend P c.argTypes (c.args.toList.map ρ) K
    | .builtin .delete => lDelete P c.argTypes (c.args.toList.map ρ) K
    | .value f => lCall P ty (ρ f) (c.args.toList.map ρ) K X
    | _ => no
  | _ => no

theorem denL_sound {P : Program} {o : Oper} {ρ : Operand → Value} {K : Value → HP → Prop} {X : List PanicEntry → HP → Prop} {m : HP} (h : denL P o.type o.op ρ K X m) {w : World} (hw : Holds w m) :
    OpIn P K X ((execOp ρ o).run P w) := by
  have wv : ∀ {s : Sem Value}, Wv P s K m → execOp ρ o = (do pure (Next.value (← s)) : Sem Next) → OpIn P K X ((execOp ρ o).run P w) := by
    intro s hs e
    obtain ⟨v, w', m', h1, h2, h3⟩ := hs w hw
    rw [e, run_v h1]
    exact ⟨m', h2, h3⟩
  have wu : ∀ {s : Sem Unit}, Wu P s (K undef) m → execOp ρ o = (do s; pure Next.skip : Sem Next) → OpIn P K X ((execOp ρ o).run P w) := by
    intro s hs e
    obtain ⟨w', m', h1, h2, h3⟩ := hs w hw
    rw [e]
    simp only [Sem.run_bind, h1, Result.andThen_ok, Sem.run_pure]
    exact ⟨m', h2, h3⟩
  obtain ⟨dst, op, ty, pos, after, guard⟩ := o
  simp only at h
  cases op <;> simp only [denL] at h <;> try (exact h.elim)
  case alloc t => exact wv (lAlloc_sound h) rfl
  case box t x => exact wv (lBox_sound h) rfl
  case buildSlice t n parts => exact wv (lBuildSlice_sound h) rfl
  case store t a x => exact wu (lStore_sound h) rfl
  case makeSlice t l c => exact wv (lMake_sound h) rfl
  case makeMap t r =>
    cases r with
    | none => exact wv (lMakeMap_sound h) rfl
    | some r => exact h.elim
  case mapUpdate t mp k x => exact wu (lMapUpdate_sound h) rfl
  case panic x =>
    generalize hx : ρ x = p at h
    split at h
    · rename_i t v
      have e : (execOp ρ { dst, op := .panic x, type := ty, pos, after, guard }).run P w = .halt (.panic (.iface t v)) w := by simp [execOp, hx, Instr.panic]
      rw [e]; exact ⟨m, hw, h⟩
    · exact h.elim
  case call c =>
    obtain ⟨callee, args, ats⟩ := c
    simp only at h
    split at h
    · refine wv (lAppend_sound (ty := ty) (args := args.map ρ) (ts := ats) ?_) rfl
      rw [map_toList]; exact h
    · refine wv (lDelete_sound (ty := ty) (args := args.map ρ) (ts := ats) ?_) rfl
      rw [map_toList]; exact h
    · rename_i f
      unfold lCall at h
      generalize hf : ρ f = fv at h
      split at h
      · rename_i g fs cs
        have e : (execOp ρ { dst, op := .call { callee := .value f, args, argTypes := ats }, type := ty, pos, after, guard }).run P w = .ok (.enter g ⟨fs.toList ++ args.toList.map ρ ++ cs.toList⟩) w := by
          have : (fs ++ args.map ρ ++ cs) = ⟨fs.toList ++ args.toList.map ρ ++ cs.toList⟩ := by apply Array.ext'; simp
          rw [← this]
          simp only [execOp, resolve, hf, Deferred.ofValue, invoke, Sem.run_bind, Sem.run_pure, Result.andThen_ok]
          exact h.1 _ w
        rw [e]; exact ⟨m, hw, (Does.mono h retX_tyd).2⟩
      · rename_i l fs cs
        obtain ⟨f', tmps, assign, body, h1, h2⟩ := (HYield.mono h retX_tyd) w hw
        have e : (execOp ρ { dst, op := .call { callee := .value f, args, argTypes := ats }, type := ty, pos, after, guard }).run P w = .ok (.round l f' tmps assign body) w := by
          have : (fs ++ args.map ρ) = ⟨fs.toList ++ args.toList.map ρ⟩ := by apply Array.ext'; simp
          rw [← this] at h1
          simp only [execOp, resolve, hf, Deferred.ofValue, invoke, Sem.run_bind, Sem.run_pure, Result.andThen_ok]
          exact h1
        rw [e]; exact h2
      · exact h.elim
    · exact h.elim

/-- One operation, in the temporaries' state s. -/
def denOne (P : Program) (ty : TypeId) (op : Op) (s : Nat → EV) (K : EV → HP → Prop) (X : List PanicEntry → HP → Prop) : HP → Prop :=
  match op with
  | .move x => K (evE s x)
  | .assign x => K (evE s x)
  | .pick c a b =>
    match (evE s c).lit with
    | some true => K (evE s a)
    | some false => K (evE s b)
    | none => match (evE s c).v with | .bool x => hIf x (K (evE s a)) (K (evE s b)) | _ => no
  | op =>
    match isQuiet op with
    | true => denQ P op (fun x => (evE s x).v) (fun v => K ⟨v, none⟩)
    | false => denL P ty op (fun x => (evE s x).v) (fun v => K ⟨v, none⟩) X

theorem EV.ok_none (v : Value) : EV.ok ⟨v, none⟩ := fun b h => by cases h

theorem pick_sound {P : Program} {o : Oper} {c x y : Operand} (ho : o.op = .pick c x y) {s : Nat → EV} (hs : ∀ t, (s t).ok) {K : EV → HP → Prop} {m : HP}
    (h : (match (evE s c).lit with
      | some true => K (evE s x)
      | some false => K (evE s y)
      | none => match (evE s c).v with | .bool b => hIf b (K (evE s x)) (K (evE s y)) | _ => no) m) :
    ∃ ev, ev.ok ∧ (∀ w : World, (execOp (fun x => (evE s x).v) o).run P w = .ok (.value ev.v) w) ∧ K ev m := by
  have hc := evE_ok hs c
  have key : ∀ b, (evE s c).v = .bool b → ∀ ev, ev = (if b then evE s x else evE s y) → K ev m → ∃ ev, ev.ok ∧ (∀ w : World, (execOp (fun x => (evE s x).v) o).run P w = .ok (.value ev.v) w) ∧ K ev m := by
    intro b hb ev he hk
    refine ⟨ev, ?_, fun w => ?_, hk⟩
    · rw [he]; split <;> exact evE_ok hs _
    · obtain ⟨dst, op, ty, pos, after, guard⟩ := o
      simp only at ho; subst ho
      cases b <;> simp [execOp, hb, asBool, he]
  generalize hl : (evE s c).lit = l at h
  split at h
  · exact key true (hc _ hl) _ rfl h
  · exact key false (hc _ hl) _ rfl h
  · generalize hv : (evE s c).v = v at h
    split at h
    · rename_i b
      cases b with
      | true => exact key true hv _ rfl (h.1 rfl)
      | false => exact key false hv _ rfl (h.2 rfl)
    · exact h.elim

theorem denOne_quiet {P : Program} {o : Oper} (hq : isQuiet o.op = true) {s : Nat → EV} (hs : ∀ t, (s t).ok) {K : EV → HP → Prop} {X : List PanicEntry → HP → Prop} {m : HP} (h : denOne P o.type o.op s K X m) :
    ∃ ev, ev.ok ∧ (∀ w, Holds w m → (execOp (fun x => (evE s x).v) o).run P w = .ok (.value ev.v) w) ∧ K ev m := by
  have main : denQ P o.op (fun x => (evE s x).v) (fun v => K ⟨v, none⟩) m → ∃ ev, ev.ok ∧ (∀ w, Holds w m → (execOp (fun x => (evE s x).v) o).run P w = .ok (.value ev.v) w) ∧ K ev m := by
    intro hd
    obtain ⟨v, h1, h2⟩ := denQ_sound hd
    exact ⟨⟨v, none⟩, EV.ok_none v, h1, h2⟩
  obtain ⟨dst, op, ty, pos, after, guard⟩ := o
  simp only at h hq main
  cases op with
  | move x => exact ⟨_, evE_ok hs x, fun w _ => by simp [execOp], h⟩
  | assign x => exact ⟨_, evE_ok hs x, fun w _ => by simp [execOp], h⟩
  | pick c a b =>
    obtain ⟨ev, h1, h2, h3⟩ := pick_sound (P := P) (o := { dst, op := .pick c a b, type := ty, pos, after, guard }) rfl hs h
    exact ⟨ev, h1, fun w _ => h2 w, h3⟩
  | _ => unfold denOne at h; simp only [hq] at h; exact main h

theorem denOne_pure {P : Program} {o : Oper} (hq : isQuiet o.op = true) (hh : isHeapy P o.op = false) {s : Nat → EV} (hs : ∀ t, (s t).ok) {K : EV → HP → Prop} {X : List PanicEntry → HP → Prop} {m : HP}
    (h : denOne P o.type o.op s K X m) : ∃ ev, ev.ok ∧ (∀ w : World, (execOp (fun x => (evE s x).v) o).run P w = .ok (.value ev.v) w) ∧ K ev m := by
  have main : denQ P o.op (fun x => (evE s x).v) (fun v => K ⟨v, none⟩) m → ∃ ev, ev.ok ∧ (∀ w : World, (execOp (fun x => (evE s x).v) o).run P w = .ok (.value ev.v) w) ∧ K ev m := by
    intro hd
    obtain ⟨v, h1, h2⟩ := denQ_sound (denQ_shift hh hd)
    exact ⟨⟨v, none⟩, EV.ok_none v, fun w => h1 w (Holds.zero w), h2⟩
  obtain ⟨dst, op, ty, pos, after, guard⟩ := o
  simp only at h hq hh main
  cases op with
  | move x => exact ⟨_, evE_ok hs x, fun w => by simp [execOp], h⟩
  | assign x => exact ⟨_, evE_ok hs x, fun w => by simp [execOp], h⟩
  | pick c a b => exact pick_sound (P := P) (o := { dst, op := .pick c a b, type := ty, pos, after, guard }) rfl hs h
  | _ => unfold denOne at h; simp only [hq] at h; exact main h

theorem exTys_mono {ts : List Ty} : ∀ {K K' : List Value → HP → Prop} {m : HP}, (∀ l m, K l m → K' l m) → exTys ts K m → exTys ts K' m := by
  induction ts with
  | nil => intro K K' m hk h; exact hk _ _ h
  | cons t ts ih => intro K K' m hk ⟨x, h⟩; exact ⟨x, ih (fun l m h => hk _ _ h) h⟩
theorem exTy_mono {P : Program} {t : TypeId} {K K' : Value → HP → Prop} {m : HP} (hk : ∀ v m, K v m → K' v m) (h : exTy P t K m) : exTy P t K' m := by
  unfold exTy at *
  generalize aggB P t = g at h ⊢
  generalize P.underlying t = u at h ⊢
  split at h
  · exact exTys_mono (fun l m h => hk _ _ h) h
  · obtain ⟨x, h⟩ := h; exact ⟨x, hk _ _ h⟩
  · exact h.elim
theorem exTyps_mono {P : Program} {ts : List TypeId} : ∀ {K K' : List Value → HP → Prop} {m : HP}, (∀ l m, K l m → K' l m) → exTyps P ts K m → exTyps P ts K' m := by
  induction ts with
  | nil => intro K K' m hk h; exact hk _ _ h
  | cons t ts ih => intro K K' m hk h; exact exTy_mono (fun v m h => ih (fun l m h => hk _ _ h) h) h
theorem tyd_mono {P : Program} {t : TypeId} {v : Value} {K K' : Value → HP → Prop} {m : HP} (hk : ∀ v m, K v m → K' v m) (h : tyd P t v K m) : tyd P t v K' m := by
  unfold tyd at *
  generalize P.underlying t = u at h ⊢
  split at h
  · exact hk _ _ h
  · exact exTyps_mono (fun l m ⟨h1, h2⟩ => ⟨h1, hk _ _ h2⟩) h
  · exact exTy_mono (fun l m ⟨h1, h2⟩ => ⟨h1, hk _ _ h2⟩) h

theorem denL_mono {P : Program} {o : Oper} {ρ : Operand → Value} {K K' : Value → HP → Prop} {X : List PanicEntry → HP → Prop} {m : HP} (hk : ∀ v m, K v m → K' v m) (hd : denL P o.type o.op ρ K X m) :
    denL P o.type o.op ρ K' X m := by
  obtain ⟨dst, op, ty, pos, after, guard⟩ := o
  simp only at hd ⊢
  have hret : ∀ e m', retX (fun v => tyd P ty v K) X e m' → retX (fun v => tyd P ty v K') X e m' := fun e m' h => by cases e <;> first | exact tyd_mono hk h | exact h
  have hst : ∀ (vs : List Value) (ad : Addr) (i : Nat) (m : HP), hStores vs ad i (K undef) m → hStores vs ad i (K' undef) m := by
    intro vs
    induction vs with
    | nil => intro ad i m h; exact hk _ _ h
    | cons v vs ih =>
      intro ad i m ⟨c, T, fr, r, h1, h2, h3, h4, h5⟩
      exact ⟨c, T, fr, r, h1, h2, h3, h4, ih _ _ _ h5⟩
  cases op <;> simp only [denL] at hd ⊢ <;> try (exact hd.elim)
  case alloc t => unfold lAlloc at hd ⊢; generalize zeroB P t = z at hd ⊢; split at hd <;> first | exact hd.elim | exact fun b => hk _ _ (hd b)
  case box t x => exact fun b => hk _ _ (hd b)
  case buildSlice t n parts =>
    unfold lBuildSlice at hd ⊢; generalize sliceCells P t n _ = z at hd ⊢
    split at hd <;> first | exact hd.elim | exact fun b => hk _ _ (hd b)
  case store t a x =>
    unfold lStore at hd ⊢
    generalize ρ a = p at hd ⊢
    split at hd
    · split at hd
      · rename_i hc; simp only [hc, and_self, if_true]; exact hst _ _ _ _ hd
      · exact hd.elim
    · exact hd.elim
  case makeSlice t l c =>
    unfold lMake at hd ⊢
    generalize P.underlying t = u at hd ⊢
    generalize ρ l = p at hd ⊢
    generalize ρ c = q at hd ⊢
    split at hd
    · rename_i e _ _ _ _
      generalize sizeB P e = s1 at hd ⊢
      generalize bytesB P e = s2 at hd ⊢
      generalize zeroB P e = s3 at hd ⊢
      split at hd
      · obtain ⟨a1, a2, a3, a4, a5⟩ := hd
        exact ⟨a1, a2, a3, a4, fun b => hk _ _ (a5 b)⟩
      · exact hd.elim
    · exact hd.elim
  case makeMap t r => cases r with | none => exact fun b => hk _ _ (hd b) | some r => exact hd.elim
  case mapUpdate t mp k x =>
    unfold lMapUpdate at hd ⊢
    generalize P.underlying t = u at hd ⊢
    generalize ρ mp = p at hd ⊢
    generalize ρ k = q at hd ⊢
    split at hd
    · rename_i key _ _ _ _
      generalize P.underlying key = u2 at hd ⊢
      split at hd
      · split at hd
        · rename_i hc
          subst hc
          simp only [if_true]
          obtain ⟨b, es, clock, rr, h1, h2, h3, h4⟩ := hd
          exact ⟨b, es, clock, rr, h1, h2, h3, hk _ _ h4⟩
        · exact hd.elim
      · exact hd.elim
    · exact hd.elim
  case panic x => exact hd
  case call c =>
    obtain ⟨callee, args, ats⟩ := c
    simp only at hd ⊢
    split at hd
    · unfold lAppend at hd ⊢
      generalize ats[0]? = o0 at hd ⊢
      generalize ats[1]? = o1 at hd ⊢
      generalize List.map _ args.toList = l at hd ⊢
      split at hd
      · rename_i st xt _ _ _ _ _ _
        generalize P.underlying st = u1 at hd ⊢
        generalize P.underlying xt = u2 at hd ⊢
        split at hd
        · rename_i e _
          generalize sizeB P e = s1 at hd ⊢
          generalize bytesB P e = s2 at hd ⊢
          generalize zeroB P e = s3 at hd ⊢
          split at hd
          · obtain ⟨xs, h1, h2, h3, h4, h5⟩ := hd
            refine ⟨xs, h1, h2, h3, fun hle => ?_, fun hlt => ?_⟩
            · rcases h4 hle with ⟨g1, g2⟩ | ⟨ad, g1, c, T, fr, r, g2, g3, g4, g5, g6⟩
              · exact .inl ⟨g1, hk _ _ g2⟩
              · exact .inr ⟨ad, g1, c, T, fr, r, g2, g3, g4, g5, hk _ _ g6⟩
            · obtain ⟨ys, g1, g2, g3, g4, g5⟩ := h5 hlt
              exact ⟨ys, g1, g2, g3, g4, fun cap b hc => hk _ _ (g5 cap b hc)⟩
          · exact hd.elim
        · exact hd.elim
      · exact hd.elim
    · unfold lDelete at hd ⊢
      generalize ats[0]? = o0 at hd ⊢
      generalize List.map _ args.toList = l at hd ⊢
      split at hd
      · rename_i t _ _ _
        generalize P.underlying t = u1 at hd ⊢
        split at hd
        · rename_i key _
          generalize P.underlying key = u2 at hd ⊢
          split at hd
          · split at hd
            · rename_i hc
              subst hc
              simp only [if_true]
              obtain ⟨b, es, clock, rr, h1, h2, h3, h4⟩ := hd
              exact ⟨b, es, clock, rr, h1, h2, h3, hk _ _ h4⟩
            · exact hd.elim
          · exact hd.elim
        · exact hd.elim
      · exact hd.elim
    · unfold lCall at hd ⊢
      rename_i f
      generalize ρ f = fv at hd ⊢
      split at hd
      · exact Does.mono hd hret
      · exact HYield.mono hd hret
      · exact hd.elim
    · exact hd.elim

theorem denOne_in {P : Program} {o : Oper} {s : Nat → EV} (hs : ∀ t, (s t).ok) {K : EV → HP → Prop} {X : List PanicEntry → HP → Prop} {m : HP} (h : denOne P o.type o.op s K X m) {w : World} (hw : Holds w m) :
    OpIn P (fun v m' => ∃ ev, ev.v = v ∧ ev.ok ∧ K ev m') X ((execOp (fun x => (evE s x).v) o).run P w) := by
  by_cases hq : isQuiet o.op = true
  · obtain ⟨ev, h1, h2, h3⟩ := denOne_quiet hq hs h
    rw [h2 w hw]
    exact ⟨m, hw, ev, rfl, h1, h3⟩
  · have hq' : isQuiet o.op = false := by simpa using hq
    have hd : denL P o.type o.op (fun x => (evE s x).v) (fun v => K ⟨v, none⟩) X m := by
      obtain ⟨dst, op, ty, pos, after, guard⟩ := o
      simp only at h hq'
      cases op <;> first | (simp [isQuiet] at hq'; done) | (unfold denOne at h; simp only [hq'] at h; exact h)
    have := denL_sound (P := P) (K := fun v m' => ∃ ev : EV, ev.v = v ∧ ev.ok ∧ K ev m') (X := X) (ρ := fun x => (evE s x).v) (o := o) (m := m) (w := w) ?_ hw
    · exact this
    · exact denL_mono (fun v m' hk => ⟨⟨v, none⟩, rfl, EV.ok_none v, hk⟩) hd

end Go.Hp
