/- One operation, and a region in the order of its text, over heaplets. Own work; nothing of any program. -/
import Derived.Test.YtolfcdjbchdkgaaDoorH4
import Derived.RangeFuncLeaves
import Derived.RangeFuncSeq
namespace Go.Hp
open Go

/-- A temporary's value; 'lit': known to be this bool. -/
structure EV where
  v : Value
  lit : Option Bool

def EV.ok (e : EV) : Prop := ∀ b, e.lit = some b → e.v = .bool b

def litOf : Value → Option Bool
  | .bool b => some b
  | _ => none

def evE (s : Nat → EV) : Operand → EV
  | .tmp t => s t
  | .const v => ⟨v, litOf v⟩
  | .global g => ⟨.pointer (some ⟨g, 0, none⟩), none⟩
  | .func f => ⟨.func (.func f) #[] #[], none⟩

theorem evE_ok {s : Nat → EV} (h : ∀ t, (s t).ok) (x : Operand) : (evE s x).ok := by
  cases x with
  | tmp t => exact h t
  | const v => intro b hb; cases v <;> simp_all [evE, litOf]
  | global g => intro b hb; simp [evE] at hb
  | func f => intro b hb; simp [evE] at hb

/-! ### One operation -/
def isQuiet : Op → Bool
  | .move _ | .assign _ | .pick .. | .build .. | .load .. | .nilCheck _ | .binOp .. | .unOp .. | .convert .. | .slice .. | .fieldAddr .. | .field .. | .indexAddr .. | .index ..
  | .lookup .. | .extract .. | .makeFunc .. => true
  | .call c => match c.callee with | .builtin .len | .builtin .min | .builtin .max => true | _ => false
  | _ => false

/-- Does its value hang on memory? -/
def isHeapy (P : Program) : Op → Bool
  | .load .. | .lookup .. => true
  | .convert s _ _ => match P.underlying s with | some (.slice _) => true | _ => false
  | _ => false

def qExtract (x : Value) (i : Nat) (K : Value → HP → Prop) : HP → Prop :=
  match x with
  | .tuple vs => match vs[i]? with | some v => K v | none => no
  | _ => no

def denQ (P : Program) (op : Op) (ρ : Operand → Value) (K : Value → HP → Prop) : HP → Prop :=
  match op with
  | .move x | .assign x => K (ρ x)
  | .build t parts => qBuild P t (parts.map fun (i, x) => (i, ρ x)) K
  | .load t a => qLoad P t (ρ a) K
  | .nilCheck x => qNil (ρ x) K
  | .binOp op t x y _ => qBin P op t x y (ρ x) (ρ y) K
  | .unOp op _ x => qUn op (ρ x) K
  | .convert s d x => qConv P s d (ρ x) K
  | .slice t x lo hi mx => qSlice P t (ρ x) (lo.map ρ) (hi.map ρ) (mx.map ρ) K
  | .fieldAddr s x f => qFieldAddr P s (ρ x) f K
  | .field s x f => qField P s (ρ x) f K
  | .indexAddr t x i => qIndexAddr P t (ρ x) (ρ i) K
  | .index t x i => qIndex P t (ρ x) (ρ i) K
  | .lookup t x i ok => qLookup P t (ρ x) (ρ i) ok K
  | .extract x i => qExtract (ρ x) i K
  | .makeFunc f fs cs => K (.func f (fs.map ρ) (cs.map ρ))
  | .call c =>
    match c.callee with
    | .builtin .len => match c.argTypes[0]?, c.args.toList.map ρ with | some t, [x] => qLen P t x K | _, _ => no
    | .builtin .min => qMin .lss (c.args.toList.map ρ) K
    | .builtin .max => qMin .gtr (c.args.toList.map ρ) K
    | _ => no
  | _ => no

theorem run_v {P : Program} {s : Sem Value} {w w' : World} {v : Value} (h : s.run P w = .ok v w') : (do pure (Next.value (← s)) : Sem Next).run P w = .ok (.value v) w' := by simp [h]

theorem map_toList {α β : Type} (a : Array α) (f : α → β) : (a.map f).toList = a.toList.map f := by simp

theorem minv_run {P : Program} {op : BinOp} (h : op = .lss ∨ op = .gtr) {x y v : Value} (hm : minv op x y = some v) (w : World) :
    ((if op = .lss then Builtin.min2 x y else Builtin.max2 x y : Sem Value)).run P w = .ok v w := by
  unfold minv at hm
  split at hm
  · cases hm; simp [Builtin.min2]
  · cases hm; simp [Builtin.max2]
  · cases hm

theorem denQ_sound {P : Program} {o : Oper} {ρ : Operand → Value} {K : Value → HP → Prop} {m : HP} (h : denQ P o.op ρ K m) :
    ∃ v, (∀ w, Holds w m → (execOp ρ o).run P w = .ok (.value v) w) ∧ K v m := by
  have up : ∀ {s : Sem Value}, (∃ v, Yv P s m v ∧ K v m) → execOp ρ o = (do pure (Next.value (← s)) : Sem Next) → ∃ v, (∀ w, Holds w m → (execOp ρ o).run P w = .ok (.value v) w) ∧ K v m := by
    rintro s ⟨v, hv, hk⟩ e
    exact ⟨v, fun w hw => by rw [e]; exact run_v (hv w hw), hk⟩
  obtain ⟨dst, op, ty, pos, after, guard⟩ := o
  simp only at h
  cases op <;> simp only [denQ] at h <;> try (exact h.elim)
  case move x => exact ⟨_, fun w _ => by simp [execOp], h⟩
  case assign x => exact ⟨_, fun w _ => by simp [execOp], h⟩
  case build t parts => exact up (qBuild_sound h) rfl
  case load t a => exact up (qLoad_sound h) rfl
  case nilCheck x =>
    unfold qNil at h
    generalize hp : ρ x = p at h
    split at h
    · obtain ⟨a, rfl, hk⟩ := h
      exact ⟨_, fun w _ => by simp [execOp, hp], hk⟩
    · exact ⟨_, fun w _ => by simp [execOp, hp], h⟩
    · exact ⟨_, fun w _ => by simp [execOp, hp], h⟩
    · exact h.elim
  case binOp op t x y yt =>
    obtain ⟨v, hv, hk⟩ := qBin_sound h
    exact up ⟨v, fun w _ => hv w, hk⟩ rfl
  case unOp op t x =>
    unfold qUn at h
    generalize hx : ρ x = p at h
    split at h
    · exact ⟨_, fun w _ => by simp [execOp, hx, Op.unary, Op.intArith], h⟩
    · exact ⟨_, fun w _ => by simp [execOp, hx, Op.unary, intBits_eq], h⟩
    · exact ⟨_, fun w _ => by simp [execOp, hx, Op.unary], h⟩
    · exact h.elim
  case convert s d x => exact up (qConv_sound h) rfl
  case slice t x lo hi mx => exact up (qSlice_sound h) rfl
  case fieldAddr s x f => exact up (qFieldAddr_sound h) rfl
  case field s x f => exact up (qField_sound h) rfl
  case indexAddr t x i => exact up (qIndexAddr_sound h) rfl
  case index t x i => exact up (qIndex_sound h) rfl
  case lookup t x i ok => exact up (qLookup_sound h) rfl
  case extract x i =>
    unfold qExtract at h
    generalize hx : ρ x = p at h
    split at h
    · rename_i vs
      generalize hv : vs[i]? = vv at h
      split at h
      · exact ⟨_, fun w _ => by simp [execOp, hx, Instr.extract, hv], h⟩
      · exact h.elim
    · exact h.elim
  case makeFunc f fs cs => exact ⟨_, fun w _ => by simp [execOp, Instr.makeFunc], h⟩
  case call c =>
    obtain ⟨callee, args, ats⟩ := c
    simp only at h
    split at h
    · -- len
      generalize h0 : ats[0]? = o0 at h
      generalize ha : args.toList.map ρ = l at h
      split at h
      · rename_i t x
        have ha' : (args.map ρ)[0]? = some x := by rw [← Array.getElem?_toList, map_toList, ha]; rfl
        unfold qLen at h
        generalize hu : P.underlying t = u at h
        split at h <;> first
          | exact h.elim
          | (refine ⟨_, fun w _ => ?_, h⟩
             simp [execOp, resolve, invoke, builtin, Builtin.len_, h0, ha', run_underlying hu, goInt])
      · exact h.elim
    · -- min
      unfold qMin at h
      generalize ha : args.toList.map ρ = l at h
      split at h
      · exact ⟨_, fun w _ => by simp [execOp, resolve, invoke, builtin, Builtin.min_, ha], h⟩
      · rename_i x y
        generalize hm : minv .lss x y = z at h
        split at h
        · have := fun w => minv_run (P := P) (.inl rfl) hm w
          simp only [if_true] at this
          exact ⟨_, fun w _ => by simp [execOp, resolve, invoke, builtin, Builtin.min_, ha, this], h⟩
        · exact h.elim
      · rename_i x y z
        generalize hm : minv .lss x y = z1 at h
        split at h
        · rename_i v1
          generalize hm2 : minv .lss v1 z = z2 at h
          split at h
          · have h1 := fun w => minv_run (P := P) (.inl rfl) hm w
            have h2 := fun w => minv_run (P := P) (.inl rfl) hm2 w
            simp only [if_true] at h1 h2
            exact ⟨_, fun w _ => by simp [execOp, resolve, invoke, builtin, Builtin.min_, ha, h1, h2], h⟩
          · exact h.elim
        · exact h.elim
      · exact h.elim
    · -- max
      unfold qMin at h
      generalize ha : args.toList.map ρ = l at h
      split at h
      · exact ⟨_, fun w _ => by simp [execOp, resolve, invoke, builtin, Builtin.max_, ha], h⟩
      · rename_i x y
        generalize hm : minv .gtr x y = z at h
        split at h
        · have := fun w => minv_run (P := P) (.inr rfl) hm w
          simp only [reduceCtorEq, if_false] at this
          exact ⟨_, fun w _ => by simp [execOp, resolve, invoke, builtin, Builtin.max_, ha, this], h⟩
        · exact h.elim
      · rename_i x y z
        generalize hm : minv .gtr x y = z1 at h
        split at h
        · rename_i v1
          generalize hm2 : minv .gtr v1 z = z2 at h
          split at h
          · have h1 := fun w => minv_run (P := P) (.inr rfl) hm w
            have h2 := fun w => minv_run (P := P) (.inr rfl) hm2 w
            simp only [reduceCtorEq, if_false] at h1 h2
            exact ⟨_, fun w _ => by simp [execOp, resolve, invoke, builtin, Builtin.max_, ha, h1, h2], h⟩
          · exact h.elim
        · exact h.elim
      · exact h.elim
    · exact h.elim

/-! A value that does not hang on memory can be had of the empty heaplet. -/
theorem denQ_shift {P : Program} {op : Op} (hh : isHeapy P op = false) {ρ : Operand → Value} {K : Value → HP → Prop} {m : HP} (h : denQ P op ρ K m) :
    denQ P op ρ (fun v _ => K v m) 0 := by
  cases op <;> simp only [denQ] at h ⊢ <;> try (first | exact h | (simp [isHeapy] at hh; done))
  case build t parts => unfold qBuild at h ⊢; generalize buildCells P t _ = c at h ⊢; split at h <;> first | exact h | exact h.elim
  case nilCheck x => unfold qNil at h ⊢; generalize ρ x = p at h ⊢; split at h <;> first | exact h | exact h.elim
  case binOp op t x y yt =>
    unfold qBin at h ⊢
    generalize ρ x = p at h ⊢
    generalize ρ y = q at h ⊢
    split at h
    case h_1 => exact h
    unfold qBin0 at h ⊢
    split at h
    · rename_i k _ k' _ _
      by_cases hk : k = k'
      · cases op <;> simp only [hk, if_true] at h ⊢ <;> exact h
      · cases op <;> simp only [hk, if_false] at h ⊢ <;> first | exact h | exact h.elim
    · cases op <;> first | exact h | exact h.elim
    all_goals first
      | (generalize hu : P.underlying t = u at h ⊢; split at h <;> first | exact h | exact h.elim)
      | (cases op <;> first | exact h | exact h.elim)
      | exact h.elim
  case unOp op t x => unfold qUn at h ⊢; generalize ρ x = p at h ⊢; split at h <;> first | exact h | exact h.elim
  case convert s d x =>
    unfold qConv at h ⊢
    generalize ρ x = p at h ⊢
    split at h
    · generalize P.underlying s = u at h ⊢
      generalize P.underlying d = u2 at h ⊢
      split at h <;> first | exact h | exact h.elim
    · generalize P.underlying s = u at h ⊢
      generalize P.underlying d = u2 at h ⊢
      split at h <;> first | exact h | exact h.elim
    · simp only [isHeapy] at hh
      generalize P.underlying s = u at h hh ⊢
      generalize P.underlying d = u2 at h ⊢
      split at h
      · simp at hh
      · exact h.elim
    · exact h.elim
  case slice t x lo hi mx =>
    unfold qSlice at h ⊢
    generalize mx.map ρ = mx' at h ⊢
    generalize lo.map ρ = lo' at h ⊢
    generalize hi.map ρ = hi' at h ⊢
    generalize ρ x = p at h ⊢
    split at h
    · exact h.elim
    · generalize P.underlying t = u at h ⊢
      split at h
      · rename_i e _ _ _
        generalize sizeB P e = ss at h ⊢
        split at h
        · split at h <;> first | exact h | exact h.elim
        · exact h.elim
      · exact h.elim
  case fieldAddr s x f =>
    unfold qFieldAddr at h ⊢
    generalize ρ x = p at h ⊢
    generalize fieldOff P s f = oo at h ⊢
    split at h <;> first | exact h | exact h.elim
  case field s x f =>
    unfold qField at h ⊢
    generalize ρ x = p at h ⊢
    generalize P.underlying s = u at h ⊢
    split at h
    · rename_i cs fs
      generalize fs[f]? = ff at h ⊢
      split at h
      · rename_i fl
        unfold qPart at h ⊢
        generalize aggB P fl.type = g at h ⊢
        generalize P.underlying fl.type = u2 at h ⊢
        split at h
        · generalize sizeB P fl.type = ss at h ⊢
          split at h <;> first | exact h | exact h.elim
        · generalize cs[fl.offset]? = vv at h ⊢
          split at h <;> first | exact h | exact h.elim
        · exact h.elim
      · exact h.elim
    · exact h.elim
  case indexAddr t x i =>
    unfold qIndexAddr at h ⊢
    generalize ρ x = p at h ⊢
    generalize ρ i = q at h ⊢
    split at h
    · generalize P.underlying t = u at h ⊢
      split at h
      · rename_i e _ _ _
        generalize sizeB P e = ss at h ⊢
        split at h <;> first | exact h | exact h.elim
      · rename_i e _
        generalize sizeB P e = ss at h ⊢
        split at h <;> first | exact h | exact h.elim
      · exact h.elim
    · exact h.elim
  case index t x i =>
    unfold qIndex at h ⊢
    generalize ρ x = p at h ⊢
    generalize ρ i = q at h ⊢
    split at h
    · generalize P.underlying t = u at h ⊢
      split at h
      · exact h
      · rename_i e _
        generalize aggB P e = g at h ⊢
        generalize P.underlying e = u2 at h ⊢
        generalize sizeB P e = ss at h ⊢
        split at h <;> first | exact h | exact h.elim
      · exact h.elim
    · exact h.elim
  case extract x i =>
    unfold qExtract at h ⊢
    generalize ρ x = p at h ⊢
    split at h
    · rename_i vs
      generalize vs[i]? = vv at h ⊢
      split at h <;> first | exact h | exact h.elim
    · exact h.elim
  case call c =>
    obtain ⟨callee, args, ats⟩ := c
    simp only at h ⊢
    split at h
    · generalize ats[0]? = o0 at h ⊢
      generalize args.toList.map ρ = l at h ⊢
      split at h
      · rename_i t x
        unfold qLen at h ⊢
        generalize P.underlying t = u at h ⊢
        split at h <;> first | exact h | exact h.elim
      · exact h.elim
    · unfold qMin at h ⊢
      generalize args.toList.map ρ = l at h ⊢
      split at h
      · exact h
      · rename_i x y
        generalize minv .lss x y = z at h ⊢
        split at h <;> first | exact h | exact h.elim
      · rename_i x y z
        generalize minv .lss x y = z1 at h ⊢
        split at h
        · rename_i v1
          generalize minv .lss v1 z = z2 at h ⊢
          split at h <;> first | exact h | exact h.elim
        · exact h.elim
      · exact h.elim
    · unfold qMin at h ⊢
      generalize args.toList.map ρ = l at h ⊢
      split at h
      · exact h
      · rename_i x y
        generalize minv .gtr x y = z at h ⊢
        split at h <;> first | exact h | exact h.elim
      · rename_i x y z
        generalize minv .gtr x y = z1 at h ⊢
        split at h
        · rename_i v1
          generalize minv .gtr v1 z = z2 at h ⊢
          split at h <;> first | exact h | exact h.elim
        · exact h.elim
      · exact h.elim
    · exact h.elim

end Go.Hp
