/- Operations over heaplets: those that leave memory as it is. Own work; nothing of any program. -/
import Derived.Test.YtolfcdjbchdkgaaDoorH2
namespace Go.Hp
open Go

def no : HP → Prop := fun _ => False

/-- 'Whatever world holds m: this run yields v, and leaves the world as it is.' -/
def Yv (P : Program) (s : Sem Value) (m : HP) (v : Value) : Prop := ∀ w, Holds w m → s.run P w = .ok v w

def qLoad (P : Program) (t : TypeId) (p : Value) (K : Value → HP → Prop) : HP → Prop :=
  match p with
  | .pointer (some ad) =>
    match aggB P t, P.underlying t with
    | true, some _ =>
      if sizeB P t = some (flat P 20 t).length then hLoads (flat P 20 t) ad 0 (fun l => K (.agg ⟨l⟩)) else no
    | false, some d => hLoad (tyScalar d) ad (fun x => K ((tyScalar d).val x))
    | _, none => no
  | _ => no

theorem qLoad_sound {P : Program} {t : TypeId} {p : Value} {K : Value → HP → Prop} {m : HP} (h : qLoad P t p K m) : ∃ v, Yv P (Instr.loadAt t p) m v ∧ K v m := by
  unfold qLoad at h
  split at h
  case h_2 => exact h.elim
  case h_1 ad =>
  have agg : aggB P t = true → (P.underlying t).isSome = true → (if sizeB P t = some (flat P 20 t).length then hLoads (flat P 20 t) ad 0 (fun l => K (.agg ⟨l⟩)) else no) m →
      ∃ v, Yv P (Instr.loadAt t (.pointer (some ad))) m v ∧ K v m := by
    intro hag hsome h
    split at h
    case isFalse => exact h.elim
    case isTrue hsz =>
    obtain ⟨l, hl, hall, hk⟩ := hLoads_sound h
    refine ⟨_, fun w hw => ?_, hk⟩
    have h1 : (loadCells ad (flat P 20 t).length).run P w = .ok l.toArray w := by
      rw [← hl]
      exact run_loadCells_list w ad l (fun j v hj => by have := hall j v hj; rw [Nat.zero_add] at this; exact this.cell hw)
    simp [Instr.loadAt, Instr.sureAddr, loadVar, run_isAgg w hsome, hag, run_sizeB w hsz, h1]
  generalize hag : aggB P t = g at h
  generalize hu : P.underlying t = u at h
  split at h
  case h_1 => exact agg hag (by simp [hu]) h
  case h_2 d =>
    obtain ⟨x, hx, hk⟩ := h
    have hs : (P.underlying t).isSome = true := by rw [hu]; rfl
    exact ⟨_, fun w hw => by simp [Instr.loadAt, Instr.sureAddr, loadVar, run_isAgg w hs, hag, hx.cell hw], hk⟩
  case h_3 => exact h.elim

def qNil (x : Value) (K : Value → HP → Prop) : HP → Prop :=
  match x with
  | .pointer p => hNil p (fun a => K (.pointer (some a)))
  | .func (.func f) fs cs => K (.func (.func f) fs cs)
  | .func (.yield l) fs cs => K (.func (.yield l) fs cs)
  | _ => no

/-- '==' of two structs or arrays, its answer. -/
def SEq (P : Program) (op : BinOp) (t : TypeId) (xo yo : Operand) (x y : Value) (b : Bool) : Prop := ∀ w, (do eqGuard op t xo yo x y; Op.equal t x y).run P w = .ok b w
def hEq (P : Program) (op : BinOp) (t : TypeId) (xo yo : Operand) (x y : Value) (K : Bool → HP → Prop) : HP → Prop := fun m => ∃ b, SEq P op t xo yo x y b ∧ K b m

def qBin0 (P : Program) (op : BinOp) (t : TypeId) (xo yo : Operand) (x y : Value) (K : Value → HP → Prop) : HP → Prop :=
  match x, y with
  | .int k a, .int k' b =>
    match op with
    | .shl => hShl k a b fun r => K (.int k r)
    | .shr => hShr k a b fun r => K (.int k r)
    | .add => if k = k' then hInt k (a + b) fun r => K (.int k r) else no
    | .sub => if k = k' then hInt k (a - b) fun r => K (.int k r) else no
    | .mul => if k = k' then hInt k (a * b) fun r => K (.int k r) else no
    | .quo => if k = k' then hQuo k a b fun r => K (.int k r) else no
    | .rem => if k = k' then hRem a b fun r => K (.int k r) else no
    | .and => if k = k' then K (.int k (bitv .and k a b)) else no
    | .or => if k = k' then K (.int k (bitv .or k a b)) else no
    | .xor => if k = k' then K (.int k (bitv .xor k a b)) else no
    | .andNot => if k = k' then K (.int k (bitv .andNot k a b)) else no
    | .eql => if k = k' then K (.bool (a == b)) else no
    | .neq => if k = k' then K (.bool (a != b)) else no
    | .lss => if k = k' then K (.bool (decide (a < b))) else no
    | .leq => if k = k' then K (.bool (decide (a ≤ b))) else no
    | .gtr => if k = k' then K (.bool (decide (a > b))) else no
    | .geq => if k = k' then K (.bool (decide (a ≥ b))) else no
  | .string a, .string b =>
    match op with
    | .eql => K (.bool (a.toList == b.toList))
    | .neq => K (.bool (!(a.toList == b.toList)))
    | _ => no
  | .bool a, .bool b =>
    match op, P.underlying t with
    | .eql, some .bool => K (.bool (a == b))
    | .neq, some .bool => K (.bool (!(a == b)))
    | _, _ => no
  | .pointer a, .pointer none =>
    match op, P.underlying t with
    | .eql, some (.pointer _) => K (.bool a.isNone)
    | .neq, some (.pointer _) => K (.bool (!a.isNone))
    | _, _ => no
  | .slice a _ _, .slice none _ _ =>
    match op, P.underlying t with
    | .eql, some (.slice _) => K (.bool a.isNone)
    | .neq, some (.slice _) => K (.bool (!a.isNone))
    | _, _ => no
  | .map a, .map none =>
    match op, P.underlying t with
    | .eql, some (.map _ _) => K (.bool a.isNone)
    | .neq, some (.map _ _) => K (.bool (!a.isNone))
    | _, _ => no
  | .agg xs, .agg ys =>
    match op with
    | .eql => hEq P .eql t xo yo (.agg xs) (.agg ys) fun b => K (.bool b)
    | .neq => hEq P .neq t xo yo (.agg xs) (.agg ys) fun b => K (.bool (!b))
    | _ => no
  | _, _ => no

theorem eqv {P : Program} {t : TypeId} {x y : Value} {b : Bool} (w : World) (xo yo : Operand) (hg : ∀ op, eqGuard op t xo yo x y = pure ())
    (he : binOp .eql t x y = (do pure (.bool (← Op.equal t x y))) ∧ binOp .neq t x y = (do pure (.bool (!(← Op.equal t x y))))) (h : (Op.equal t x y).run P w = .ok b w) :
    (do eqGuard .eql t xo yo x y; binOp .eql t x y : Sem Value).run P w = .ok (.bool b) w ∧ (do eqGuard .neq t xo yo x y; binOp .neq t x y : Sem Value).run P w = .ok (.bool (!b)) w := by
  rw [he.1, he.2, hg, hg]
  simp [h]
section
variable {P : Program} {t : TypeId} (w : World)
theorem equal_eq (x y : Value) : Op.equal t x y = Op.equalIn (9999 + 1) t x y := rfl
theorem run_eqIn_bool (d : Nat) (h : P.underlying t = some .bool) (a b : Bool) : (Op.equalIn (d + 1) t (.bool a) (.bool b)).run P w = .ok (a == b) w := by
  simp only [Op.equalIn, Sem.run_bind, run_underlying h, Result.andThen_ok, Sem.run_pure]
theorem run_eqIn_ptr (d : Nat) {e : TypeId} (h : P.underlying t = some (.pointer e)) (a : Option Addr) : (Op.equalIn (d + 1) t (.pointer a) (.pointer none)).run P w = .ok a.isNone w := by
  cases a <;> simp only [Op.equalIn, Sem.run_bind, run_underlying h, Result.andThen_ok, Sem.run_pure, Option.isNone]
theorem run_eqIn_slice (d : Nat) {e : TypeId} (h : P.underlying t = some (.slice e)) (a : Option Addr) (n c n' c' : Nat) : (Op.equalIn (d + 1) t (.slice a n c) (.slice none n' c')).run P w = .ok a.isNone w := by
  cases a <;> simp only [Op.equalIn, Sem.run_bind, run_underlying h, Result.andThen_ok, Sem.run_pure, Option.isNone]
theorem run_eqIn_map (d : Nat) {k e : TypeId} (h : P.underlying t = some (.map k e)) (a : Option Nat) : (Op.equalIn (d + 1) t (.map a) (.map none)).run P w = .ok a.isNone w := by
  cases a <;> simp only [Op.equalIn, Sem.run_bind, run_underlying h, Result.andThen_ok, Sem.run_pure, Option.isNone]
theorem run_equal_bool (h : P.underlying t = some .bool) (a b : Bool) : (Op.equal t (.bool a) (.bool b)).run P w = .ok (a == b) w := run_eqIn_bool w 9999 h a b
theorem run_equal_ptr {e : TypeId} (h : P.underlying t = some (.pointer e)) (a : Option Addr) : (Op.equal t (.pointer a) (.pointer none)).run P w = .ok a.isNone w := run_eqIn_ptr w 9999 h a
theorem run_equal_slice {e : TypeId} (h : P.underlying t = some (.slice e)) (a : Option Addr) (n c n' c' : Nat) : (Op.equal t (.slice a n c) (.slice none n' c')).run P w = .ok a.isNone w := run_eqIn_slice w 9999 h a n c n' c'
theorem run_equal_map {k e : TypeId} (h : P.underlying t = some (.map k e)) (a : Option Nat) : (Op.equal t (.map a) (.map none)).run P w = .ok a.isNone w := run_eqIn_map w 9999 h a
end

theorem intBits_eq (op : BinOp) (k : IntKind) (a b : Int) (h : op = .and ∨ op = .or ∨ op = .xor ∨ op = .andNot) : Op.intBits op k a b = pure (.int k (bitv op k a b)) := by
  rcases h with rfl | rfl | rfl | rfl <;> rfl

theorem qBin0_sound {P : Program} {op : BinOp} {t : TypeId} {xo yo : Operand} {x y : Value} {K : Value → HP → Prop} {m : HP} (h : qBin0 P op t xo yo x y K m) :
    ∃ v, (∀ w, (do eqGuard op t xo yo x y; binOp op t x y : Sem Value).run P w = .ok v w) ∧ K v m := by
  unfold qBin0 at h
  split at h
  · -- ints
    rename_i k a k' b
    have hg : ∀ op, eqGuard op t xo yo (.int k a) (.int k' b) = pure () := fun op => eqGuard_at_int ..
    have key : ∀ {op : BinOp} {v : Value}, (op ≠ .shl ∧ op ≠ .shr) → k = k' → (∀ w, (binOp op t (.int k a) (.int k b)).run P w = .ok v w) → K v m →
        ∃ v, (∀ w, (do eqGuard op t xo yo (.int k a) (.int k' b); binOp op t (.int k a) (.int k' b) : Sem Value).run P w = .ok v w) ∧ K v m := by
      intro op v _ hk hr hK
      subst hk
      exact ⟨v, fun w => by simp [hg, hr], hK⟩
    cases op <;> simp only at h
    case shl => exact ⟨_, fun w => by simp [hg, binOp, Op.shift, show ¬ b < 0 by have := h.1; omega], h.2⟩
    case shr => exact ⟨_, fun w => by simp [hg, binOp, Op.shift, show ¬ b < 0 by have := h.1; omega], h.2⟩
    case quo =>
      split at h
      case isFalse => exact h.elim
      case isTrue hk => exact key ⟨by simp, by simp⟩ hk (fun w => by simp [binOp, Op.intDiv, h.1]) h.2
    case rem =>
      split at h
      case isFalse => exact h.elim
      case isTrue hk => exact key ⟨by simp, by simp⟩ hk (fun w => by simp [binOp, Op.intDiv, h.1]) h.2
    all_goals
      split at h
      case isFalse => exact h.elim
      case isTrue hk => exact key ⟨by simp, by simp⟩ hk (fun w => by simp [binOp, Op.intArith, Op.intCmp, intBits_eq]) h
  · rename_i a b
    have hg : ∀ op, eqGuard op t xo yo (.string a) (.string b) = pure () := fun op => eqGuard_at_string ..
    cases op <;> simp only at h <;> first | exact h.elim | exact ⟨_, fun w => by simp [hg, binOp, Op.stringOp], h⟩
  · rename_i a b
    have hg : ∀ op, eqGuard op t xo yo (.bool a) (.bool b) = pure () := fun op => eqGuard_at_bool ..
    generalize hu : P.underlying t = u at h
    split at h
    · exact ⟨_, fun w => (eqv w xo yo hg ⟨rfl, rfl⟩ (run_equal_bool w hu a b)).1, h⟩
    · exact ⟨_, fun w => (eqv w xo yo hg ⟨rfl, rfl⟩ (run_equal_bool w hu a b)).2, h⟩
    · exact h.elim
  · rename_i a
    have hg : ∀ op, eqGuard op t xo yo (.pointer a) (.pointer none) = pure () := fun op => eqGuard_at_pointer ..
    generalize hu : P.underlying t = u at h
    split at h
    · exact ⟨_, fun w => (eqv w xo yo hg ⟨by cases a <;> rfl, by cases a <;> rfl⟩ (run_equal_ptr w hu a)).1, h⟩
    · exact ⟨_, fun w => (eqv w xo yo hg ⟨by cases a <;> rfl, by cases a <;> rfl⟩ (run_equal_ptr w hu a)).2, h⟩
    · exact h.elim
  · rename_i a _ _ _ _
    have hg : ∀ op n c n' c', eqGuard op t xo yo (.slice a n c) (.slice none n' c') = pure () := fun op _ _ _ _ => eqGuard_at_slice ..
    generalize hu : P.underlying t = u at h
    split at h
    · exact ⟨_, fun w => (eqv w xo yo (fun op => hg op _ _ _ _) ⟨by cases a <;> rfl, by cases a <;> rfl⟩ (run_equal_slice w hu a _ _ _ _)).1, h⟩
    · exact ⟨_, fun w => (eqv w xo yo (fun op => hg op _ _ _ _) ⟨by cases a <;> rfl, by cases a <;> rfl⟩ (run_equal_slice w hu a _ _ _ _)).2, h⟩
    · exact h.elim
  · rename_i a
    have hg : ∀ op, eqGuard op t xo yo (.map a) (.map none) = pure () := fun op => eqGuard_at_map ..
    generalize hu : P.underlying t = u at h
    split at h
    · exact ⟨_, fun w => (eqv w xo yo hg ⟨by cases a <;> rfl, by cases a <;> rfl⟩ (run_equal_map w hu a)).1, h⟩
    · exact ⟨_, fun w => (eqv w xo yo hg ⟨by cases a <;> rfl, by cases a <;> rfl⟩ (run_equal_map w hu a)).2, h⟩
    · exact h.elim
  · rename_i xs ys
    cases op <;> simp only at h <;> first
      | exact h.elim
      | (obtain ⟨b, hb, hk⟩ := h
         refine ⟨_, fun w => ?_, hk⟩
         have := hb w
         simp only [Sem.run_bind] at this ⊢
         cases hr : (eqGuard _ t xo yo (.agg xs) (.agg ys)).run P w with
         | halt x w' => rw [hr] at this; simp at this
         | ok u w' =>
           rw [hr] at this
           simp only [Result.andThen_ok] at this ⊢
           simp [binOp, this])
  · exact h.elim

/-- A comparison that is taken as the machine answers it. -/
def hCmp (P : Program) (op : BinOp) (t : TypeId) (xo yo : Operand) (x y : Value) (K : Bool → HP → Prop) : HP → Prop := fun m => ∃ b, (∀ w, (do eqGuard op t xo yo x y; binOp op t x y : Sem Value).run P w = .ok (.bool b) w) ∧ K b m

def qBin (P : Program) (op : BinOp) (t : TypeId) (xo yo : Operand) (x y : Value) (K : Value → HP → Prop) : HP → Prop :=
  match y with
  | .nilFunc => hCmp P op t xo yo x y fun b => K (.bool b)
  | _ => qBin0 P op t xo yo x y K

theorem qBin_sound {P : Program} {op : BinOp} {t : TypeId} {xo yo : Operand} {x y : Value} {K : Value → HP → Prop} {m : HP} (h : qBin P op t xo yo x y K m) :
    ∃ v, (∀ w, (do eqGuard op t xo yo x y; binOp op t x y : Sem Value).run P w = .ok v w) ∧ K v m := by
  unfold qBin at h
  split at h
  · obtain ⟨b, h1, h2⟩ := h; exact ⟨_, h1, h2⟩
  · exact qBin0_sound h

def qUn (op : UnOp) (x : Value) (K : Value → HP → Prop) : HP → Prop :=
  match op, x with
  | .neg, .int k n => hInt k (0 - n) fun r => K (.int k r)
  | .xor, .int k n => K (.int k (bitv .xor k (if k.signed then -1 else k.max) n))
  | .not, .bool b => K (.bool (!b))
  | _, _ => no

/-- The bytes of a slice. -/
def hBytes (a : Option Addr) (n : Nat) (K : List UInt8 → HP → Prop) : HP → Prop := fun m =>
  ∃ bs : List UInt8, bs.length = n ∧ Row m a (bs.map fun b => Value.int .u8 b.toNat) ∧ (a = none → n = 0) ∧ K bs m

def qConv (P : Program) (src dst : TypeId) (x : Value) (K : Value → HP → Prop) : HP → Prop :=
  match x with
  | .int _ n =>
    match P.underlying src, P.underlying dst with
    | some _, some (.int k) => hInt k n fun r => K (.int k r)
    | _, _ => no
  | .string s =>
    match P.underlying src, P.underlying dst with
    | some _, some .string => K (.string s)
    | _, _ => no
  | .slice a n c =>
    match P.underlying src, P.underlying dst with
    | some (.slice e), some .string =>
      match P.underlying e with
      | some (.int .u8) => hBytes a n fun bs => K (.string ⟨bs.toArray⟩)
      | _ => no
    | _, _ => no
  | _ => no

theorem bytes_fold (P : Program) (w : World) (bs : List UInt8) : ∀ (s : ByteArray),
    (forIn (m := Sem) (bs.map fun b => Value.int .u8 b.toNat) s fun c s => do
      match c with
      | .int .u8 n => pure (ForInStep.yield (s.push (UInt8.ofNat n.toNat)))
      | _ => do
        stuck "bytesToString: byte expected"
        pure (ForInStep.yield s)).run P w = .ok ⟨s.data ++ bs.toArray⟩ w := by
  induction bs with
  | nil => intro s; simp
  | cons b bs ih =>
    intro s
    simp only [List.map_cons, List.forIn_cons, Sem.run_bind, Sem.run_pure, Result.andThen_ok]
    have e : UInt8.ofNat (Int.toNat (b.toNat : Int)) = b := by simp
    rw [e, ih]
    simp [ByteArray.push]

theorem qConv_sound {P : Program} {src dst : TypeId} {x : Value} {K : Value → HP → Prop} {m : HP} (h : qConv P src dst x K m) : ∃ v, Yv P (convert src dst x) m v ∧ K v m := by
  unfold qConv at h
  split at h
  · generalize hs : P.underlying src = u1 at h
    generalize hd : P.underlying dst = u2 at h
    split at h
    · rename_i d k
      refine ⟨_, fun w _ => ?_, h⟩
      simp [convert, run_underlying hs, run_underlying hd, Conv.intToInt]
    · exact h.elim
  · generalize hs : P.underlying src = u1 at h
    generalize hd : P.underlying dst = u2 at h
    split at h
    · rename_i d
      refine ⟨_, fun w _ => ?_, h⟩
      simp [convert, run_underlying hs, run_underlying hd]
    · exact h.elim
  · rename_i a n c
    generalize hs : P.underlying src = u1 at h
    generalize hd : P.underlying dst = u2 at h
    split at h
    · rename_i e
      generalize he : P.underlying e = u3 at h
      split at h
      ·
        obtain ⟨bs, hn, hrow, hnil, hk⟩ := h
        refine ⟨_, fun w hw => ?_, hk⟩
        cases a with
        | none =>
          obtain rfl : bs = [] := by have := hnil rfl; rw [this] at hn; exact List.length_eq_zero_iff.1 hn
          have he' : (ByteArray.mk ([] : List UInt8).toArray) = ByteArray.empty := rfl
          simp [convert, run_underlying hs, run_underlying hd, run_underlying he, Conv.bytesToString, he']
        | some ad =>
          have h1 : (loadCells ad n).run P w = .ok (bs.map fun b => Value.int .u8 b.toNat).toArray w := by
            have := run_loadCells_list (P := P) w ad (bs.map fun b => Value.int .u8 b.toNat) (fun j v hj => (hrow.at j v hj).cell hw)
            simpa [hn] using this
          have h2 := bytes_fold P w bs ByteArray.empty
          simp only [convert, Sem.run_bind, run_underlying hs, run_underlying hd, run_underlying he, Result.andThen_ok, Conv.bytesToString, h1]
          simp only [List.forIn_toArray]
          refine (congrArg (fun r => Result.andThen r _) h2).trans ?_
          simp [ByteArray.empty, ByteArray.emptyWithCapacity]
          rfl
      · exact h.elim
    · exact h.elim
  · exact h.elim

def fieldOff (P : Program) (s : TypeId) (f : Nat) : Option Nat :=
  match P.underlying s with
  | some (.struct fs) =>
    match fs[f]? with
    | some fl => match sizeB P fl.type with | some (_ + 1) => some fl.offset | _ => none
    | none => none
  | _ => none

def qFieldAddr (P : Program) (s : TypeId) (x : Value) (f : Nat) (K : Value → HP → Prop) : HP → Prop :=
  match x, fieldOff P s f with
  | .pointer (some a), some off => K (.pointer (some (a.add off)))
  | _, _ => no

theorem qFieldAddr_sound {P : Program} {s : TypeId} {x : Value} {f : Nat} {K : Value → HP → Prop} {m : HP} (h : qFieldAddr P s x f K m) : ∃ v, Yv P (Instr.fieldAt s x f) m v ∧ K v m := by
  unfold qFieldAddr at h
  generalize ho : fieldOff P s f = oo at h
  split at h
  case h_2 => exact h.elim
  case h_1 a off =>
  unfold fieldOff at ho
  generalize hu : P.underlying s = u at ho
  split at ho
  case h_2 => cases ho
  case h_1 fs =>
  generalize hf : fs[f]? = ff at ho
  split at ho
  case h_2 => cases ho
  case h_1 fl =>
  generalize hsz : sizeB P fl.type = sz at ho
  split at ho
  case h_2 => cases ho
  case h_1 n =>
  cases ho
  exact ⟨_, fun w _ => by simp [Instr.fieldAt, run_underlying hu, hf, Instr.sureAddr, fieldPlace, run_sizeB w hsz], h⟩

/-- A part of an aggregate. -/
def qPart (P : Program) (t : TypeId) (cs : Array Value) (off : Nat) (K : Value → HP → Prop) : HP → Prop :=
  match aggB P t, P.underlying t with
  | true, some _ => match sizeB P t with | some n => K (.agg (cs.extract off (off + n))) | none => no
  | false, some _ => match cs[off]? with | some v => K v | none => no
  | _, none => no

theorem qPart_sound {P : Program} {t : TypeId} {cs : Array Value} {off : Nat} {K : Value → HP → Prop} {m : HP} (h : qPart P t cs off K m) : ∃ v, Yv P (part t cs off) m v ∧ K v m := by
  unfold qPart at h
  generalize hag : aggB P t = g at h
  have hs : ∀ {d}, P.underlying t = some d → (P.underlying t).isSome = true := fun e => by rw [e]; rfl
  generalize hu : P.underlying t = u at h
  split at h
  case h_1 =>
    generalize hsz : sizeB P t = sz at h
    split at h
    case h_2 => exact h.elim
    case h_1 n => exact ⟨_, fun w _ => by simp [part, run_isAgg w (hs hu), hag, run_sizeB w hsz], h⟩
  case h_2 =>
    generalize hv : cs[off]? = vv at h
    split at h
    case h_2 => exact h.elim
    case h_1 v => exact ⟨_, fun w _ => by simp [part, run_isAgg w (hs hu), hag, hv], h⟩
  case h_3 => exact h.elim

def qField (P : Program) (s : TypeId) (x : Value) (f : Nat) (K : Value → HP → Prop) : HP → Prop :=
  match x, P.underlying s with
  | .agg cs, some (.struct fs) => match fs[f]? with | some fl => qPart P fl.type cs fl.offset K | none => no
  | _, _ => no

theorem qField_sound {P : Program} {s : TypeId} {x : Value} {f : Nat} {K : Value → HP → Prop} {m : HP} (h : qField P s x f K m) : ∃ v, Yv P (Instr.field s x f) m v ∧ K v m := by
  unfold qField at h
  generalize hu : P.underlying s = u at h
  split at h
  case h_2 => exact h.elim
  case h_1 cs fs =>
  generalize hf : fs[f]? = ff at h
  split at h
  case h_2 => exact h.elim
  case h_1 fl =>
  obtain ⟨v, hv, hk⟩ := qPart_sound h
  exact ⟨v, fun w hw => by simp [Instr.field, run_underlying hu, hf, asAgg, hv w hw], hk⟩

def qIndexAddr (P : Program) (t : TypeId) (x i : Value) (K : Value → HP → Prop) : HP → Prop :=
  match i with
  | .int _ n =>
    match P.underlying t, x with
    | some (.slice e), .slice a len _ =>
      match sizeB P e with
      | some sz => hIdx a len n sz fun ad => K (.pointer (some ad))
      | none => no
    | some (.array len e), .pointer (some a) =>
      match sizeB P e with
      | some sz => hIdx (some a) len n sz fun ad => K (.pointer (some ad))
      | none => no
    | _, _ => no
  | _ => no

theorem qIndexAddr_sound {P : Program} {t : TypeId} {x i : Value} {K : Value → HP → Prop} {m : HP} (h : qIndexAddr P t x i K m) : ∃ v, Yv P (Instr.indexAt t x i) m v ∧ K v m := by
  unfold qIndexAddr at h
  split at h
  case h_2 => exact h.elim
  case h_1 k n =>
  generalize hu : P.underlying t = u at h
  split at h
  case h_3 => exact h.elim
  case h_1 e a len cap =>
    generalize hsz : sizeB P e = ss at h
    split at h
    case h_2 => exact h.elim
    case h_1 sz =>
    obtain ⟨ad, rfl, h0, h1, hk⟩ := h
    exact ⟨_, fun w _ => by simp [Instr.indexAt, asIntOf, run_underlying hu, h0, h1, run_sizeB w hsz], hk⟩
  case h_2 len e a =>
    generalize hsz : sizeB P e = ss at h
    split at h
    case h_2 => exact h.elim
    case h_1 sz =>
    obtain ⟨ad, had, h0, h1, hk⟩ := h
    obtain rfl := Option.some.inj had
    exact ⟨_, fun w _ => by simp [Instr.indexAt, asIntOf, run_underlying hu, h0, h1, Instr.sureAddr, run_sizeB w hsz], hk⟩

def qIndex (P : Program) (t : TypeId) (x i : Value) (K : Value → HP → Prop) : HP → Prop :=
  match i with
  | .int _ n =>
    match P.underlying t, x with
    | some .string, .string s => hByte s n fun b => K (.int .u8 b)
    | some (.array len e), .agg cs =>
      match aggB P e, P.underlying e, sizeB P e with
      | false, some d, some 1 => hElem (tyScalar d) cs n len fun x => K ((tyScalar d).val x)
      | _, _, _ => no
    | _, _ => no
  | _ => no

theorem qIndex_sound {P : Program} {t : TypeId} {x i : Value} {K : Value → HP → Prop} {m : HP} (h : qIndex P t x i K m) : ∃ v, Yv P (Instr.index t x i) m v ∧ K v m := by
  unfold qIndex at h
  split at h
  case h_2 => exact h.elim
  case h_1 k n =>
  generalize hu : P.underlying t = u at h
  split at h
  case h_3 => exact h.elim
  case h_1 s =>
    obtain ⟨h0, b, hb, hk⟩ := h
    exact ⟨_, fun w _ => by simp [Instr.index, asIntOf, run_underlying hu, h0, hb], hk⟩
  case h_2 len e cs =>
    generalize hag : aggB P e = g at h
    generalize he : P.underlying e = u2 at h
    generalize hsz : sizeB P e = ss at h
    split at h
    case h_2 => exact h.elim
    case h_1 d =>
    obtain ⟨h0, h1, x, hx, hk⟩ := h
    have hs : (P.underlying e).isSome = true := by rw [he]; rfl
    exact ⟨_, fun w _ => by simp [Instr.index, asIntOf, run_underlying hu, h0, h1, run_sizeB w hsz, part, run_isAgg w hs, hag, hx], hk⟩

/-- 's[lo:hi]' of a slice or a string; no third index. -/
def qSlice (P : Program) (t : TypeId) (x : Value) (lo hi mx : Option Value) (K : Value → HP → Prop) : HP → Prop :=
  match mx with
  | some _ => no
  | none =>
    match P.underlying t, x with
    | some (.slice e), .slice a len cap =>
      match sizeB P e with
      | some sz =>
        match lo, hi with
        | none, none => hCut a cap 0 len sz fun s => K (.slice s.a s.n s.cap)
        | some (.int _ l), none => hCut a cap l len sz fun s => K (.slice s.a s.n s.cap)
        | none, some (.int _ h) => hCut a cap 0 h sz fun s => K (.slice s.a s.n s.cap)
        | some (.int _ l), some (.int _ h) => hCut a cap l h sz fun s => K (.slice s.a s.n s.cap)
        | _, _ => no
      | none => no
    | _, _ => no

theorem run_cut {P : Program} {w : World} {t e : TypeId} {sz : Nat} {a : Option Addr} {len cap : Nat} {lo hi : Option Value} {l h : Int} (hu : P.underlying t = some (.slice e)) (hsz : sizeB P e = some sz)
    (hlo : lo = none ∧ l = 0 ∨ ∃ k, lo = some (.int k l)) (hhi : hi = none ∧ h = len ∨ ∃ k, hi = some (.int k h)) (h0 : 0 ≤ l) (h1 : l ≤ h) (h2 : h ≤ cap) :
    (Instr.sliceAt t (.slice a len cap) lo hi none).run P w = .ok (.slice (if (cap : Int) = l then a else a.map (·.add (l.toNat * sz))) (h - l).toNat (cap - l).toNat) w := by
  have hb : (Instr.sliceBounds true len cap lo hi none).run P w = .ok (l.toNat, h.toNat, cap) w := by
    rcases hlo with ⟨rfl, rfl⟩ | ⟨k, rfl⟩
    · rcases hhi with ⟨rfl, rfl⟩ | ⟨k, rfl⟩
      · simp [Instr.sliceBounds]
      · simp [Instr.sliceBounds, Instr.sliceBound, asIntOf, show 0 ≤ h by omega, h2]
    · rcases hhi with ⟨rfl, rfl⟩ | ⟨k', rfl⟩
      · simp [Instr.sliceBounds, Instr.sliceBound, asIntOf, h0, h1]
      · have h3 : 0 ≤ h := by omega
        have h4 : l ≤ (h.toNat : Int) := by omega
        simp [Instr.sliceBounds, Instr.sliceBound, asIntOf, h3, h2, h0, h1, Int.max_eq_left h3]
  have e1 : h.toNat - l.toNat = (h - l).toNat := by omega
  have e2 : cap - l.toNat = ((cap : Int) - l).toNat := by omega
  have e3 : (cap = l.toNat) ↔ ((cap : Int) = l) := by omega
  simp [Instr.sliceAt, Instr.slice, run_underlying hu, hb, run_sizeB w hsz, e1, e2, e3]

theorem qSlice_sound {P : Program} {t : TypeId} {x : Value} {lo hi mx : Option Value} {K : Value → HP → Prop} {m : HP} (h : qSlice P t x lo hi mx K m) : ∃ v, Yv P (Instr.sliceAt t x lo hi mx) m v ∧ K v m := by
  unfold qSlice at h
  split at h
  case h_1 => exact h.elim
  case h_2 =>
  generalize hu : P.underlying t = u at h
  split at h
  case h_2 => exact h.elim
  case h_1 e a len cap =>
  generalize hsz : sizeB P e = ss at h
  split at h
  case h_2 => exact h.elim
  case h_1 sz =>
  split at h
  case h_5 => exact h.elim
  all_goals
    obtain ⟨h0, h1, h2, hk⟩ := h
    exact ⟨_, fun w _ => run_cut hu hsz (by simp) (by simp) h0 h1 h2, hk⟩

def minv : BinOp → Value → Value → Option Value
  | .lss, .int k x, .int _ y => some (.int k (if y < x then y else x))
  | .gtr, .int k x, .int _ y => some (.int k (if y > x then y else x))
  | _, _, _ => none

def qMin (op : BinOp) (args : List Value) (K : Value → HP → Prop) : HP → Prop :=
  match args with
  | [x] => K x
  | [x, y] => match minv op x y with | some v => K v | none => no
  | [x, y, z] => match minv op x y with | some v => (match minv op v z with | some u => K u | none => no) | none => no
  | _ => no

def qLen (P : Program) (t : TypeId) (x : Value) (K : Value → HP → Prop) : HP → Prop :=
  match P.underlying t, x with
  | some (.slice _), .slice _ n _ => K (.int .i64 n)
  | some .string, .string s => K (.int .i64 s.size)
  | some (.array n _), _ => K (.int .i64 n)
  | _, _ => no

end Go.Hp
