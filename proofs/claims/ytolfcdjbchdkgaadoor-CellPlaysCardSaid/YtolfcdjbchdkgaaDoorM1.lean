/- Heaplets: a commutative monoid of partial heaps, and what it means that a world holds one. Own work; nothing of any program. -/
import Derived.OrdersIn
import Derived.CallsIn
import Derived.Laws.Sem
import Derived.Laws.Cells
import Derived.Laws.Entries
import Derived.Laws.Append
import Derived.RangeFuncLeaves
import Derived.RangeFuncSeq
import Derived.RangeFuncIn
import Derived.KernelRfl
import Derived.RangeFuncRecord
namespace Go.Hp
open Go

/-- What a heaplet says of a block: nothing, one object, or two things at once. -/
inductive C where
  | none
  | one (o : Obj)
  | bad

def C.add : C → C → C
  | .none, y => y
  | .one o, .none => .one o
  | .one _, .one _ => .bad
  | .one _, .bad => .bad
  | .bad, _ => .bad

theorem C.add_comm (x y : C) : x.add y = y.add x := by cases x <;> cases y <;> rfl
theorem C.add_assoc (x y z : C) : (x.add y).add z = x.add (y.add z) := by cases x <;> cases y <;> cases z <;> rfl
theorem C.add_none (x : C) : x.add .none = x := by cases x <;> rfl

/-- What a heaplet says of the operating system and the output: nothing, this, or two things at once. -/
inductive Tk where
  | none
  | one (os : Os) (out : Array (Nat × ByteArray))
  | bad
def Tk.add : Tk → Tk → Tk
  | .none, y => y
  | .one a b, .none => .one a b
  | .one _ _, .one _ _ => .bad
  | .one _ _, .bad => .bad
  | .bad, _ => .bad
theorem Tk.add_comm (x y : Tk) : x.add y = y.add x := by cases x <;> cases y <;> rfl
theorem Tk.add_assoc (x y z : Tk) : (x.add y).add z = x.add (y.add z) := by cases x <;> cases y <;> cases z <;> rfl
theorem Tk.add_none (x : Tk) : x.add .none = x := by cases x <;> rfl
def Tk.held (w : World) : Tk → Prop
  | .none => True
  | .one os out => w.os = os ∧ w.output = out
  | .bad => False

structure HP where
  blk : Nat → C
  tk : Tk
instance : CoeFun HP fun _ => Nat → C := ⟨HP.blk⟩
theorem HP.ext {x y : HP} (h1 : ∀ b, x b = y b) (h2 : x.tk = y.tk) : x = y := by
  cases x; cases y; simp only [HP.mk.injEq]; exact ⟨funext h1, h2⟩
instance : Add HP := ⟨fun x y => ⟨fun b => (x b).add (y b), x.tk.add y.tk⟩⟩
instance : OfNat HP 0 := ⟨⟨fun _ => .none, .none⟩⟩
instance : Inhabited HP := ⟨0⟩

theorem HP.add_app (x y : HP) (b : Nat) : (x + y) b = (x b).add (y b) := rfl
theorem HP.add_tk (x y : HP) : (x + y).tk = x.tk.add y.tk := rfl
theorem HP.add_comm (x y : HP) : x + y = y + x := HP.ext (fun b => C.add_comm _ _) (Tk.add_comm _ _)
theorem HP.add_assoc (x y z : HP) : x + y + z = x + (y + z) := HP.ext (fun b => C.add_assoc _ _ _) (Tk.add_assoc _ _ _)
theorem HP.add_left_comm (x y z : HP) : x + (y + z) = y + (x + z) := by
  rw [← HP.add_assoc, HP.add_comm x y, HP.add_assoc]
@[simp] theorem HP.add_zero (x : HP) : x + 0 = x := HP.ext (fun b => C.add_none _) (Tk.add_none _)
@[simp] theorem HP.zero_add (x : HP) : 0 + x = x := HP.ext (fun _ => rfl) rfl
instance : Std.Associative (α := HP) (· + ·) := ⟨HP.add_assoc⟩
instance : Std.Commutative (α := HP) (· + ·) := ⟨HP.add_comm⟩

/-- One block. -/
def pt (b : Nat) (o : Obj) : HP := ⟨fun i => if i = b then .one o else .none, .none⟩

theorem pt_same (b : Nat) (o : Obj) : pt b o b = .one o := by simp [pt]
theorem pt_other {b i : Nat} (o : Obj) (h : i ≠ b) : pt b o i = .none := by simp [pt, h]

/-- The world holds the heaplet. -/
def HoldsB (w : World) (m : HP) : Prop := ∀ b, match m b with | .none => True | .one o => w.heap[b]? = some o | .bad => False
def Holds (w : World) (m : HP) : Prop := HoldsB w m ∧ m.tk.held w
theorem pt_tk (b : Nat) (o : Obj) (r : HP) : (pt b o + r).tk = r.tk := rfl
theorem Tk.held_right {w : World} {x y : Tk} (h : (x.add y).held w) : y.held w := by cases x <;> cases y <;> simp_all [Tk.add, Tk.held]
theorem Tk.held_eq {w w' : World} {x : Tk} (h : x.held w) (h1 : w'.os = w.os) (h2 : w'.output = w.output) : x.held w' := by cases x <;> simp_all [Tk.held]

theorem Holds.get {w : World} {b : Nat} {o : Obj} {r : HP} (h : Holds w (pt b o + r)) : w.heap[b]? = some o ∧ r b = .none := by
  have := h.1 b
  rw [HP.add_app, pt_same] at this
  cases hr : r b <;> rw [hr] at this <;> simp_all [C.add]

theorem Holds.right {w : World} {x r : HP} (h : Holds w (x + r)) : Holds w r := by
  refine ⟨fun b => ?_, Tk.held_right h.2⟩
  have := h.1 b
  rw [HP.add_app] at this
  cases hx : x b <;> cases hr : r b <;> rw [hx, hr] at this <;> simp_all [C.add]

theorem Holds.left {w : World} {x r : HP} (h : Holds w (x + r)) : Holds w x := by
  rw [HP.add_comm] at h; exact h.right

/-- Another world with the same heap. -/
theorem Holds.of_heap {w w' : World} {m : HP} (h : Holds w m) (he : w'.heap = w.heap) (h1 : w'.os = w.os := by rfl) (h2 : w'.output = w.output := by rfl) : Holds w' m :=
  ⟨fun b => by have := h.1 b; rw [he]; exact this, Tk.held_eq h.2 h1 h2⟩

theorem Holds.zero (w : World) : Holds w 0 := ⟨fun _ => trivial, trivial⟩

/-- A new block. -/
theorem Holds.push {w : World} {m : HP} (h : Holds w m) (o : Obj) : Holds { w with heap := w.heap.push o } (pt w.heap.size o + m) := by
  refine ⟨fun b => ?_, Tk.held_eq (w := w) h.2 rfl rfl⟩
  have hb := h.1 b
  rw [HP.add_app]
  by_cases e : b = w.heap.size
  · subst e
    rw [pt_same]
    cases hm : m w.heap.size <;> rw [hm] at hb
    · simp [C.add]
    · simp at hb
    · exact hb.elim
  · rw [pt_other o e]
    simp only [C.add]
    cases hm : m b <;> rw [hm] at hb
    · simp
    · rename_i x
      have hlt : b < w.heap.size := (Array.getElem?_eq_some_iff.1 hb).1
      simp only [Array.getElem?_push, if_neg e]
      exact hb
    · exact hb

/-- One block turned into another object. -/
theorem Holds.turn {w w' : World} {b : Nat} {o o' : Obj} {r : HP} (h : Holds w (pt b o + r))
    (hb : w'.heap[b]? = some o') (hn : ∀ i, i ≠ b → w'.heap[i]? = w.heap[i]?) (h1 : w'.os = w.os := by rfl) (h2 : w'.output = w.output := by rfl) : Holds w' (pt b o' + r) := by
  refine ⟨fun i => ?_, Tk.held_eq (w := w) h.2 h1 h2⟩
  have hi := h.1 i
  rw [HP.add_app] at hi ⊢
  by_cases e : i = b
  · subst e
    rw [pt_same, h.get.2]
    simpa [C.add] using hb
  · rw [pt_other _ e] at hi ⊢
    rw [hn i e]
    exact hi

theorem Holds.setCell {w : World} {a : Addr} {c : Array Value} {T : TypeId} {fr : Nat × Nat} {r : HP} {v : Value}
    (h : Holds w (pt a.block (.cells c T fr) + r)) (hs : a.spot = none) :
    Holds (w.setCell a v) (pt a.block (.cells (c.setIfInBounds a.off v) T fr) + r) := by
  have hg := h.get.1
  refine h.turn ?_ ?_
  · simp only [World.setCell, hs, Option.isSome_none, Bool.false_eq_true, if_false]
    rw [Array.getElem?_modify]
    simp [hg]
  · intro i hi
    simp only [World.setCell]
    rw [Array.getElem?_modify, if_neg (Ne.symm hi)]

theorem Holds.setObj {w : World} {b : Nat} {o o' : Obj} {r : HP} (h : Holds w (pt b o + r)) :
    Holds { w with heap := w.heap.setIfInBounds b o' } (pt b o' + r) := by
  have hg := h.get.1
  have hlt : b < w.heap.size := (Array.getElem?_eq_some_iff.1 hg).1
  refine h.turn ?_ ?_
  · simp [hlt]
  · intro i hi
    simp [Array.getElem?_setIfInBounds, Ne.symm hi]

/-- All that a world has. -/
def whole (w : World) : HP := ⟨fun b => match w.heap[b]? with | some o => .one o | none => .none, .one w.os w.output⟩

theorem holds_whole (w : World) : Holds w (whole w) := by
  refine ⟨fun b => ?_, ⟨rfl, rfl⟩⟩
  unfold whole
  simp only
  cases w.heap[b]? <;> simp
theorem Holds.same {w w' : World} {r : HP} (h : Holds w' (whole w + r)) : w'.os = w.os ∧ w'.output = w.output := by
  have := h.left.2
  exact this

theorem Holds.of_whole {w w' : World} {r : HP} (h : Holds w' (whole w + r)) {b : Nat} {o : Obj} (hb : w.heap[b]? = some o) : w'.heap[b]? = some o := by
  have := h.left.1 b
  unfold whole at this
  simp only [hb] at this
  exact this

theorem Holds.cell {w : World} {a : Addr} {c : Array Value} {T : TypeId} {fr : Nat × Nat} {r : HP}
    (h : Holds w (pt a.block (.cells c T fr) + r)) (hs : a.spot = none) : w.cell? a = c[a.off]? := by
  simp [World.cell?, h.get.1, hs]

theorem Holds.frozen {w : World} {a : Addr} {c : Array Value} {T : TypeId} {fr : Nat × Nat} {r : HP}
    (h : Holds w (pt a.block (.cells c T fr) + r)) : w.frozen? a = (decide (fr.1 ≤ a.off) && decide (a.off < fr.2)) := by
  simp [World.frozen?, h.get.1]

theorem Holds.shape {w : World} {b : Nat} {c : Array Value} {T : TypeId} {fr : Nat × Nat} {r : HP}
    (h : Holds w (pt b (.cells c T fr) + r)) : w.shape? b = some (T, c.size) := by
  simp [World.shape?, h.get.1]

/-- Finding a block in a sum, by instances. -/
class Has (b : Nat) (m : HP) (o : outParam Obj) (r : outParam HP) : Prop where
  eq : m = pt b o + r
instance Has.here (b : Nat) (o : Obj) : Has b (pt b o) o 0 := ⟨by simp⟩
instance Has.inl (b : Nat) (x y : HP) (o : Obj) (r : HP) [h : Has b x o r] : Has b (x + y) o (r + y) := ⟨by rw [h.eq, HP.add_assoc]⟩
instance Has.inr (b : Nat) (x y : HP) (o : Obj) (r : HP) [h : Has b y o r] : Has b (x + y) o (x + r) := ⟨by rw [h.eq, HP.add_left_comm]⟩
instance (priority := high) Has.head (b : Nat) (y : HP) (o : Obj) : Has b (pt b o + y) o y := ⟨rfl⟩

end Go.Hp
/- The words of the walk over heaplets: what an operation asks and gives, as plain predicates. Own work; nothing of any program. -/
namespace Go.Hp
open Go

/-- A slice value's parts. -/
structure Sl where
  a : Option Addr
  n : Nat
  cap : Nat

/-- Kinds of one-cell values. -/
inductive Ty where
  | int (k : IntKind)
  | bool
  | str
  | ptr
  | slice
  | map
  | float (k : FloatKind)
  | any
deriving DecidableEq

@[reducible] def Ty.T : Ty → Type
  | .int _ => Int
  | .bool => Bool
  | .str => ByteArray
  | .ptr => Option Addr
  | .slice => Sl
  | .map => Option Nat
  | .float _ => Nat
  | .any => Value

def Ty.val : (t : Ty) → t.T → Value
  | .int k, (n : Int) => .int k n
  | .bool, (b : Bool) => .bool b
  | .str, (s : ByteArray) => .string s
  | .ptr, (a : Option Addr) => .pointer a
  | .slice, (s : Sl) => .slice s.a s.n s.cap
  | .map, (r : Option Nat) => .map r
  | .float k, (n : Nat) => .float k n
  | .any, (v : Value) => v

def Ty.is : Ty → Value → Bool
  | .int k, .int k' _ => decide (k = k')
  | .bool, .bool _ => true
  | .str, .string _ => true
  | .ptr, .pointer _ => true
  | .slice, .slice _ _ _ => true
  | .map, .map _ => true
  | .float k, .float k' _ => decide (k = k')
  | .any, _ => true
  | _, _ => false

def Ty.un : (t : Ty) → Value → t.T
  | .int _, .int _ n => n
  | .bool, .bool b => b
  | .str, .string s => s
  | .ptr, .pointer a => a
  | .slice, .slice a n c => ⟨a, n, c⟩
  | .map, .map r => r
  | .float _, .float _ n => n
  | .any, v => v
  | .int _, _ => (0 : Int)
  | .bool, _ => false
  | .str, _ => ByteArray.empty
  | .ptr, _ => none
  | .slice, _ => ⟨none, 0, 0⟩
  | .map, _ => none
  | .float _, _ => (0 : Nat)

theorem Ty.val_un {t : Ty} {v : Value} (h : t.is v = true) : t.val (t.un v) = v := by
  cases t <;> cases v <;> simp_all [Ty.is, Ty.val, Ty.un]

/-! ### Types -/
def tyScalar : TypeDesc → Ty
  | .bool => .bool
  | .int k => .int k
  | .float k => .float k
  | .string => .str
  | .pointer _ => .ptr
  | .slice _ => .slice
  | .map _ _ => .map
  | _ => .any

/-- The cells of a type, each by its kind. -/
def flat (P : Program) : Nat → TypeId → List Ty
  | 0, _ => []
  | n + 1, t => match P.underlying t with
    | some (.struct fs) => fs.toList.flatMap fun f => flat P n f.type
    | some (.array len e) => (List.replicate len ()).flatMap fun _ => flat P n e
    | some d => [tyScalar d]
    | none => []

def aggB (P : Program) (t : TypeId) : Bool := match P.underlying t with | some (.struct _) | some (.array _ _) => true | _ => false
def sizeB (P : Program) (t : TypeId) : Option Nat := (P.info? t).map (·.size)
def bytesB (P : Program) (t : TypeId) : Option Nat := (P.info? t).map (·.bytes)
def zeroB (P : Program) (t : TypeId) : Option Value := (P.info? t).bind (·.zero)

section
variable {P : Program} {t : TypeId} (w : World)
theorem run_isAgg (h : (P.underlying t).isSome = true) : (isAgg t).run P w = .ok (aggB P t) w := by
  obtain ⟨d, hd⟩ := Option.isSome_iff_exists.1 h
  cases d <;> simp [isAgg, aggB, run_underlying hd, hd]
theorem run_sizeB {n : Nat} (h : sizeB P t = some n) : (sizeOf t).run P w = .ok n w := by
  simp only [sizeB, Option.map_eq_some_iff] at h
  obtain ⟨i, hi, rfl⟩ := h
  simp [sizeOf, typeInfo, hi]
theorem run_zeroB {v : Value} (h : zeroB P t = some v) : (zeroValue t).run P w = .ok v w := by
  simp only [zeroB, Option.bind_eq_some_iff] at h
  obtain ⟨i, hi, h⟩ := h
  simp [zeroValue, typeInfo, hi, h]
end

/-! ### Reading and writing -/
/-- The cell at an address. -/
def At (m : HP) (a : Addr) (v : Value) : Prop := ∃ c T fr r, m = pt a.block (.cells c T fr) + r ∧ a.spot = none ∧ c[a.off]? = some v

theorem At.cell {m : HP} {a : Addr} {v : Value} (h : At m a v) {w : World} (hw : Holds w m) : w.cell? a = some v := by
  obtain ⟨c, T, fr, r, rfl, hs, hc⟩ := h
  rw [hw.cell hs, hc]

def hLoad (t : Ty) (a : Addr) (K : t.T → HP → Prop) : HP → Prop := fun m => ∃ x, At m a (t.val x) ∧ K x m

def hLoads : List Ty → Addr → Nat → (List Value → HP → Prop) → HP → Prop
  | [], _, _, K => K []
  | t :: ts, a, i, K => hLoad t (a.add i) fun x => hLoads ts a (i + 1) fun l => K (t.val x :: l)

theorem hLoads_sound {ts : List Ty} : ∀ {a : Addr} {i : Nat} {K : List Value → HP → Prop} {m : HP}, hLoads ts a i K m →
    ∃ l : List Value, l.length = ts.length ∧ (∀ j v, l[j]? = some v → At m (a.add (i + j)) v) ∧ K l m := by
  induction ts with
  | nil => intro a i K m h; exact ⟨[], rfl, by simp, h⟩
  | cons t ts ih =>
    intro a i K m h
    obtain ⟨x, hx, h⟩ := h
    obtain ⟨l, hl, hall, hk⟩ := ih h
    refine ⟨t.val x :: l, by simp [hl], ?_, hk⟩
    intro j v hj
    cases j with
    | zero => simp only [List.getElem?_cons_zero, Option.some.injEq] at hj; subst hj; exact hx
    | succ j =>
      simp only [List.getElem?_cons_succ] at hj
      have := hall j v hj
      rwa [show i + 1 + j = i + (j + 1) by omega] at this

/-- A value of one cell. -/
def hStore (v : Value) (a : Addr) (K : HP → Prop) : HP → Prop := fun m =>
  ∃ c T fr r, m = pt a.block (.cells c T fr) + r ∧ a.spot = none ∧ a.off < c.size ∧ ¬ (fr.1 ≤ a.off ∧ a.off < fr.2) ∧
    K (pt a.block (.cells (c.setIfInBounds a.off v) T fr) + r)

def hStores : List Value → Addr → Nat → (HP → Prop) → HP → Prop
  | [], _, _, K => K
  | v :: vs, a, i, K => hStore v (a.add i) fun m => hStores vs a (i + 1) K m

theorem hStore_sound {v : Value} (hv : v.oneCell' = true) {a : Addr} {K : HP → Prop} {m : HP} (h : hStore v a K m) {P : Program} {w : World} (hw : Holds w m) :
    ∃ w' m', (store a v).run P w = .ok () w' ∧ Holds w' m' ∧ K m' := by
  obtain ⟨c, T, fr, r, rfl, hs, ho, hf, hk⟩ := h
  refine ⟨w.setCell a v, _, ?_, hw.setCell hs, hk⟩
  rw [run_store P w a v _ hv, hw.cell hs, hw.frozen]
  have h1 : c[a.off]? = some c[a.off] := by simp [ho]
  have h2 : (decide (fr.1 ≤ a.off) && decide (a.off < fr.2)) = false := Bool.eq_false_iff.2 fun h => hf (by simpa using h)
  simp [h1, h2]

theorem hStores_sound {vs : List Value} : (∀ v ∈ vs, v.oneCell' = true) → ∀ {a : Addr} {i : Nat} {K : HP → Prop} {m : HP}, hStores vs a i K m → ∀ {P : Program} {w : World}, Holds w m →
    ∃ w' m', (storeCells a vs i).run P w = .ok () w' ∧ Holds w' m' ∧ K m' := by
  induction vs with
  | nil => intro _ a i K m h P w hw; exact ⟨w, m, by simp [storeCells], hw, h⟩
  | cons v vs ih =>
    intro hv a i K m h P w hw
    obtain ⟨w1, m1, h1, hw1, hk1⟩ := hStore_sound (hv v (by simp)) h (P := P) hw
    obtain ⟨w2, m2, h2, hw2, hk2⟩ := ih (fun u hu => hv u (by simp [hu])) hk1 (P := P) hw1
    exact ⟨w2, m2, by simp [storeCells, h1, h2], hw2, hk2⟩

/-- A new block of cells. -/
def hNew (c : Array Value) (T : TypeId) (K : Nat → HP → Prop) : HP → Prop := fun m => ∀ b, K b (pt b (.cells c T (0, 0)) + m)

theorem hNew_sound {c : Array Value} {T : TypeId} {K : Nat → HP → Prop} {m : HP} (h : hNew c T K m) {P : Program} {w : World} (hw : Holds w m) :
    ∃ b w' m', (newRow T c).run P w = .ok ⟨b, 0, none⟩ w' ∧ Holds w' m' ∧ K b m' :=
  ⟨w.heap.size, _, _, by simp [newRow], hw.push _, h _⟩

/-! ### Numbers, tests, addresses -/
def hInt (k : IntKind) (x : Int) (K : Int → HP → Prop) : HP → Prop := K (k.wrap x)
def hQuo (k : IntKind) (a b : Int) (K : Int → HP → Prop) : HP → Prop := fun m => b ≠ 0 ∧ K (k.wrap (a.tdiv b)) m
def hRem (a b : Int) (K : Int → HP → Prop) : HP → Prop := fun m => b ≠ 0 ∧ K (a.tmod b) m
def hShl (k : IntKind) (a b : Int) (K : Int → HP → Prop) : HP → Prop := fun m => 0 ≤ b ∧ K (k.wrap (a * 2 ^ min b.toNat k.bits)) m
def hShr (k : IntKind) (a b : Int) (K : Int → HP → Prop) : HP → Prop := fun m => 0 ≤ b ∧ K (a.fdiv (2 ^ min b.toNat k.bits)) m
def bitv (op : BinOp) (k : IntKind) (x y : Int) : Int :=
  let a := BitVec.ofInt k.bits x
  let b := BitVec.ofInt k.bits y
  k.wrap (match op with | .and => a &&& b | .or => a ||| b | .xor => a ^^^ b | _ => a &&& ~~~b : BitVec k.bits).toNat
def hIf (c : Bool) (A B : HP → Prop) : HP → Prop := fun m => (c = true → A m) ∧ (c = false → B m)
def hNil (p : Option Addr) (K : Addr → HP → Prop) : HP → Prop := fun m => ∃ a, p = some a ∧ K a m
def hIdx (a : Option Addr) (n : Nat) (i : Int) (size : Nat) (K : Addr → HP → Prop) : HP → Prop := fun m =>
  ∃ ad, a = some ad ∧ 0 ≤ i ∧ i < n ∧ K (ad.add (i.toNat * size)) m
def hCut (a : Option Addr) (cap : Nat) (lo hi : Int) (size : Nat) (K : Sl → HP → Prop) : HP → Prop := fun m =>
  0 ≤ lo ∧ lo ≤ hi ∧ hi ≤ cap ∧ K ⟨if (cap : Int) = lo then a else a.map (·.add (lo.toNat * size)), (hi - lo).toNat, (cap - lo).toNat⟩ m
def hElem (t : Ty) (cs : Array Value) (i : Int) (n : Nat) (K : t.T → HP → Prop) : HP → Prop := fun m =>
  0 ≤ i ∧ i < n ∧ ∃ x, cs[i.toNat]? = some (t.val x) ∧ K x m
def hByte (s : ByteArray) (i : Int) (K : Int → HP → Prop) : HP → Prop := fun m =>
  0 ≤ i ∧ ∃ b, s[i.toNat]? = some b ∧ K b.toNat m
/-- A result, or a cell, of a kind. -/
def hTy (t : Ty) (v : Value) (K : t.T → HP → Prop) : HP → Prop := fun m => ∃ x, v = t.val x ∧ K x m

/-! ### Rows of cells: append, copy -/
/-- The cells xs stand from 'a' on (none: there are none). -/
def Row (m : HP) (a : Option Addr) (xs : List Value) : Prop :=
  xs = [] ∨ ∃ ad, a = some ad ∧ ∃ c T fr r, m = pt ad.block (.cells c T fr) + r ∧ ad.spot = none ∧ ∀ j v, xs[j]? = some v → c[ad.off + j]? = some v

theorem Row.at {m : HP} {ad : Addr} {xs : List Value} (h : Row m (some ad) xs) : ∀ j v, xs[j]? = some v → At m (ad.add j) v := by
  intro j v hj
  rcases h with rfl | ⟨ad', h1, c, T, fr, r, rfl, hs, hall⟩
  · simp at hj
  · obtain rfl : ad = ad' := by simpa using h1
    obtain ⟨b, o, sp⟩ := ad
    simp only at hs; subst hs
    refine ⟨c, T, fr, r, by simp [Addr.add_lit], by simp [Addr.add_lit], ?_⟩
    simpa [Addr.add_lit] using hall j v hj

/-- Cells are written over, from 'a' on. -/
def blit (c : Array Value) (off : Nat) : List Value → Array Value
  | [] => c
  | v :: vs => blit (c.setIfInBounds off v) (off + 1) vs
theorem blit_size (vs : List Value) : ∀ (c : Array Value) (off : Nat), (blit c off vs).size = c.size := by
  induction vs with
  | nil => intro c off; rfl
  | cons v vs ih => intro c off; simp [blit, ih]

def hBlit (a : Option Addr) (xs : List Value) (K : HP → Prop) : HP → Prop := fun m =>
  (xs = [] ∧ K m) ∨ ∃ ad, a = some ad ∧ ∃ c T fr r, m = pt ad.block (.cells c T fr) + r ∧ ad.spot = none ∧ ad.off + xs.length ≤ c.size ∧
    (∀ j, j < xs.length → ¬ (fr.1 ≤ ad.off + j ∧ ad.off + j < fr.2)) ∧ K (pt ad.block (.cells (blit c ad.off xs) T fr) + r)

theorem hBlit_sound_aux {b : Nat} {T : TypeId} {fr : Nat × Nat} {r : HP} {P : Program} {o : Nat} : ∀ (xs : List Value), (∀ v ∈ xs, v.oneCell' = true) → ∀ (c : Array Value) (i : Nat) (w : World),
    Holds w (pt b (.cells c T fr) + r) → o + i + xs.length ≤ c.size → (∀ j, j < xs.length → ¬ (fr.1 ≤ o + i + j ∧ o + i + j < fr.2)) →
    ∃ w', (storeCells ⟨b, o, none⟩ xs i).run P w = .ok () w' ∧ Holds w' (pt b (.cells (blit c (o + i) xs) T fr) + r) := by
  intro xs
  induction xs with
  | nil => intro _ c i w hw _ _; exact ⟨w, by simp [storeCells], by simpa [blit] using hw⟩
  | cons v xs ih =>
    intro hv c i w hw hle hfr
    have hst : hStore v ⟨b, o + i, none⟩ (fun m => m = pt b (.cells (c.setIfInBounds (o + i) v) T fr) + r) (pt b (.cells c T fr) + r) :=
      ⟨c, T, fr, r, rfl, rfl, by simp at hle ⊢; omega, by simpa using hfr 0 (by simp), rfl⟩
    obtain ⟨w1, m1, h1, hw1, rfl⟩ := hStore_sound (hv v (by simp)) hst (P := P) hw
    obtain ⟨w2, h2, hw2⟩ := ih (fun u hu => hv u (by simp [hu])) _ (i + 1) w1 hw1 (by simp at hle ⊢; omega) (fun j hj => by
      have := hfr (j + 1) (by simp; omega)
      rwa [show o + i + (j + 1) = o + (i + 1) + j by omega] at this)
    exact ⟨w2, by simp [storeCells, Addr.add_lit, h1, h2], by simpa [blit, Nat.add_assoc] using hw2⟩

theorem hBlit_sound {ad : Addr} {xs : List Value} (hv : ∀ v ∈ xs, v.oneCell' = true) {K : HP → Prop} {m : HP} (h : hBlit (some ad) xs K m) {P : Program} {w : World} (hw : Holds w m) :
    ∃ w' m', (storeCells ad xs).run P w = .ok () w' ∧ Holds w' m' ∧ K m' := by
  rcases h with ⟨rfl, hk⟩ | ⟨ad', h1, c, T, fr, r, rfl, hs, hle, hfr, hk⟩
  · exact ⟨w, m, by simp [storeCells], hw, hk⟩
  · obtain rfl : ad = ad' := by simpa using h1
    obtain ⟨b, o, sp⟩ := ad
    simp only at hs; subst hs
    obtain ⟨w', h2, hw'⟩ := hBlit_sound_aux (P := P) xs hv c 0 w hw (by simpa using hle) (by simpa using hfr)
    exact ⟨w', _, h2, by simpa using hw', hk⟩

/-- append(s, xs...) -/
def hAppend (size bytes : Nat) (zero : Array Value) (e : TypeId) (s x : Sl) (K : Sl → HP → Prop) : HP → Prop := fun m =>
  ∃ xs : List Value, xs.length = x.n * size ∧ Row m x.a xs ∧ (∀ v ∈ xs, v.oneCell' = true) ∧
    (s.n + x.n ≤ s.cap → hBlit (s.a.map (·.add (s.n * size))) xs (fun m' => K ⟨s.a, s.n + x.n, s.cap⟩ m') m) ∧
    (s.cap < s.n + x.n → ∃ ys : List Value, ys.length = s.n * size ∧ Row m s.a ys ∧ bytes ≠ 0 ∧ Builtin.nextslicecap (s.n + x.n) s.cap * bytes ≤ 2 ^ 48 ∧
      ∀ cap b, s.n + x.n ≤ cap → K ⟨some ⟨b, 0, none⟩, s.n + x.n, cap⟩ (pt b (.cells ((ys ++ xs).toArray ++ Builtin.zeroCells zero (cap - (s.n + x.n))) e (0, 0)) + m))

end Go.Hp
/- Operations over heaplets: those that leave memory as it is. Own work; nothing of any program. -/
namespace Go.Hp
open Go

def no : HP → Prop := fun _ => False

/-- 'Whatever world holds m: this run yields v, and leaves the world as it is.' -/
def Yv (P : Program) (s : Sem Value) (m : HP) (v : Value) : Prop := ∀ w, Holds w m → s.run P w = .ok v w

def qLoad (P : Program) (t : TypeId) (p : Value) (K : Value → HP → Prop) : HP → Prop :=
  match p with
  | .pointer (some ad) =>
    match aggB P t, P.underlying t with
    | true, some _ =>
      if sizeB P t = some (flat P 20 t).length then hLoads (flat P 20 t) ad 0 (fun l => K (.agg ⟨l⟩)) else no
    | false, some d => hLoad (tyScalar d) ad (fun x => K ((tyScalar d).val x))
    | _, none => no
  | _ => no

theorem qLoad_sound {P : Program} {t : TypeId} {p : Value} {K : Value → HP → Prop} {m : HP} (h : qLoad P t p K m) : ∃ v, Yv P (Instr.loadAt t p) m v ∧ K v m := by
  unfold qLoad at h
  split at h
  case h_2 => exact h.elim
  case h_1 ad =>
  have agg : aggB P t = true → (P.underlying t).isSome = true → (if sizeB P t = some (flat P 20 t).length then hLoads (flat P 20 t) ad 0 (fun l => K (.agg ⟨l⟩)) else no) m →
      ∃ v, Yv P (Instr.loadAt t (.pointer (some ad))) m v ∧ K v m := by
    intro hag hsome h
    split at h
    case isFalse => exact h.elim
    case isTrue hsz =>
    obtain ⟨l, hl, hall, hk⟩ := hLoads_sound h
    refine ⟨_, fun w hw => ?_, hk⟩
    have h1 : (loadCells ad (flat P 20 t).length).run P w = .ok l.toArray w := by
      rw [← hl]
      exact run_loadCells_list w ad l (fun j v hj => by have := hall j v hj; rw [Nat.zero_add] at this; exact this.cell hw)
    simp [Instr.loadAt, Instr.sureAddr, loadVar, run_isAgg w hsome, hag, run_sizeB w hsz, h1]
  generalize hag : aggB P t = g at h
  generalize hu : P.underlying t = u at h
  split at h
  case h_1 => exact agg hag (by simp [hu]) h
  case h_2 d =>
    obtain ⟨x, hx, hk⟩ := h
    have hs : (P.underlying t).isSome = true := by rw [hu]; rfl
    exact ⟨_, fun w hw => by simp [Instr.loadAt, Instr.sureAddr, loadVar, run_isAgg w hs, hag, hx.cell hw], hk⟩
  case h_3 => exact h.elim

def qNil (x : Value) (K : Value → HP → Prop) : HP → Prop :=
  match x with
  | .pointer p => hNil p (fun a => K (.pointer (some a)))
  | .func (.func f) fs cs => K (.func (.func f) fs cs)
  | .func (.yield l) fs cs => K (.func (.yield l) fs cs)
  | _ => no

/-- '==' of two structs or arrays, its answer. -/
def SEq (P : Program) (op : BinOp) (t : TypeId) (xo yo : Operand) (x y : Value) (b : Bool) : Prop := ∀ w, (do eqGuard op t xo yo x y; Op.equal t x y).run P w = .ok b w
def hEq (P : Program) (op : BinOp) (t : TypeId) (xo yo : Operand) (x y : Value) (K : Bool → HP → Prop) : HP → Prop := fun m => ∃ b, SEq P op t xo yo x y b ∧ K b m

def qBin0 (P : Program) (op : BinOp) (t : TypeId) (xo yo : Operand) (x y : Value) (K : Value → HP → Prop) : HP → Prop :=
  match x, y with
  | .int k a, .int k' b =>
    match op with
    | .shl => hShl k a b fun r => K (.int k r)
    | .shr => hShr k a b fun r => K (.int k r)
    | .add => if k = k' then hInt k (a + b) fun r => K (.int k r) else no
    | .sub => if k = k' then hInt k (a - b) fun r => K (.int k r) else no
    | .mul => if k = k' then hInt k (a * b) fun r => K (.int k r) else no
    | .quo => if k = k' then hQuo k a b fun r => K (.int k r) else no
    | .rem => if k = k' then hRem a b fun r => K (.int k r) else no
    | .and => if k = k' then K (.int k (bitv .and k a b)) else no
    | .or => if k = k' then K (.int k (bitv .or k a b)) else no
    | .xor => if k = k' then K (.int k (bitv .xor k a b)) else no
    | .andNot => if k = k' then K (.int k (bitv .andNot k a b)) else no
    | .eql => if k = k' then K (.bool (a == b)) else no
    | .neq => if k = k' then K (.bool (a != b)) else no
    | .lss => if k = k' then K (.bool (decide (a < b))) else no
    | .leq => if k = k' then K (.bool (decide (a ≤ b))) else no
    | .gtr => if k = k' then K (.bool (decide (a > b))) else no
    | .geq => if k = k' then K (.bool (decide (a ≥ b))) else no
  | .string a, .string b =>
    match op with
    | .eql => K (.bool (a.toList == b.toList))
    | .neq => K (.bool (!(a.toList == b.toList)))
    | _ => no
  | .bool a, .bool b =>
    match op, P.underlying t with
    | .eql, some .bool => K (.bool (a == b))
    | .neq, some .bool => K (.bool (!(a == b)))
    | _, _ => no
  | .pointer a, .pointer none =>
    match op, P.underlying t with
    | .eql, some (.pointer _) => K (.bool a.isNone)
    | .neq, some (.pointer _) => K (.bool (!a.isNone))
    | _, _ => no
  | .slice a _ _, .slice none _ _ =>
    match op, P.underlying t with
    | .eql, some (.slice _) => K (.bool a.isNone)
    | .neq, some (.slice _) => K (.bool (!a.isNone))
    | _, _ => no
  | .map a, .map none =>
    match op, P.underlying t with
    | .eql, some (.map _ _) => K (.bool a.isNone)
    | .neq, some (.map _ _) => K (.bool (!a.isNone))
    | _, _ => no
  | .agg xs, .agg ys =>
    match op with
    | .eql => hEq P .eql t xo yo (.agg xs) (.agg ys) fun b => K (.bool b)
    | .neq => hEq P .neq t xo yo (.agg xs) (.agg ys) fun b => K (.bool (!b))
    | _ => no
  | _, _ => no

theorem eqv {P : Program} {t : TypeId} {x y : Value} {b : Bool} (w : World) (xo yo : Operand) (hg : ∀ op, eqGuard op t xo yo x y = pure ())
    (he : binOp .eql t x y = (do pure (.bool (← Op.equal t x y))) ∧ binOp .neq t x y = (do pure (.bool (!(← Op.equal t x y))))) (h : (Op.equal t x y).run P w = .ok b w) :
    (do eqGuard .eql t xo yo x y; binOp .eql t x y : Sem Value).run P w = .ok (.bool b) w ∧ (do eqGuard .neq t xo yo x y; binOp .neq t x y : Sem Value).run P w = .ok (.bool (!b)) w := by
  rw [he.1, he.2, hg, hg]
  simp [h]
section
variable {P : Program} {t : TypeId} (w : World)
theorem equal_eq (x y : Value) : Op.equal t x y = Op.equalIn (9999 + 1) t x y := rfl
theorem run_eqIn_bool (d : Nat) (h : P.underlying t = some .bool) (a b : Bool) : (Op.equalIn (d + 1) t (.bool a) (.bool b)).run P w = .ok (a == b) w := by
  simp only [Op.equalIn, Sem.run_bind, run_underlying h, Result.andThen_ok, Sem.run_pure]
theorem run_eqIn_ptr (d : Nat) {e : TypeId} (h : P.underlying t = some (.pointer e)) (a : Option Addr) : (Op.equalIn (d + 1) t (.pointer a) (.pointer none)).run P w = .ok a.isNone w := by
  cases a <;> simp only [Op.equalIn, Sem.run_bind, run_underlying h, Result.andThen_ok, Sem.run_pure, Option.isNone]
theorem run_eqIn_slice (d : Nat) {e : TypeId} (h : P.underlying t = some (.slice e)) (a : Option Addr) (n c n' c' : Nat) : (Op.equalIn (d + 1) t (.slice a n c) (.slice none n' c')).run P w = .ok a.isNone w := by
  cases a <;> simp only [Op.equalIn, Sem.run_bind, run_underlying h, Result.andThen_ok, Sem.run_pure, Option.isNone]
theorem run_eqIn_map (d : Nat) {k e : TypeId} (h : P.underlying t = some (.map k e)) (a : Option Nat) : (Op.equalIn (d + 1) t (.map a) (.map none)).run P w = .ok a.isNone w := by
  cases a <;> simp only [Op.equalIn, Sem.run_bind, run_underlying h, Result.andThen_ok, Sem.run_pure, Option.isNone]
theorem run_equal_bool (h : P.underlying t = some .bool) (a b : Bool) : (Op.equal t (.bool a) (.bool b)).run P w = .ok (a == b) w := run_eqIn_bool w 9999 h a b
theorem run_equal_ptr {e : TypeId} (h : P.underlying t = some (.pointer e)) (a : Option Addr) : (Op.equal t (.pointer a) (.pointer none)).run P w = .ok a.isNone w := run_eqIn_ptr w 9999 h a
theorem run_equal_slice {e : TypeId} (h : P.underlying t = some (.slice e)) (a : Option Addr) (n c n' c' : Nat) : (Op.equal t (.slice a n c) (.slice none n' c')).run P w = .ok a.isNone w := run_eqIn_slice w 9999 h a n c n' c'
theorem run_equal_map {k e : TypeId} (h : P.underlying t = some (.map k e)) (a : Option Nat) : (Op.equal t (.map a) (.map none)).run P w = .ok a.isNone w := run_eqIn_map w 9999 h a
end

theorem intBits_eq (op : BinOp) (k : IntKind) (a b : Int) (h : op = .and ∨ op = .or ∨ op = .xor ∨ op = .andNot) : Op.intBits op k a b = pure (.int k (bitv op k a b)) := by
  rcases h with rfl | rfl | rfl | rfl <;> rfl

theorem qBin0_sound {P : Program} {op : BinOp} {t : TypeId} {xo yo : Operand} {x y : Value} {K : Value → HP → Prop} {m : HP} (h : qBin0 P op t xo yo x y K m) :
    ∃ v, (∀ w, (do eqGuard op t xo yo x y; binOp op t x y : Sem Value).run P w = .ok v w) ∧ K v m := by
  unfold qBin0 at h
  split at h
  · -- ints
    rename_i k a k' b
    have hg : ∀ op, eqGuard op t xo yo (.int k a) (.int k' b) = pure () := fun op => eqGuard_at_int ..
    have key : ∀ {op : BinOp} {v : Value}, (op ≠ .shl ∧ op ≠ .shr) → k = k' → (∀ w, (binOp op t (.int k a) (.int k b)).run P w = .ok v w) → K v m →
        ∃ v, (∀ w, (do eqGuard op t xo yo (.int k a) (.int k' b); binOp op t (.int k a) (.int k' b) : Sem Value).run P w = .ok v w) ∧ K v m := by
      intro op v _ hk hr hK
      subst hk
      exact ⟨v, fun w => by simp [hg, hr], hK⟩
    cases op <;> simp only at h
    case shl => exact ⟨_, fun w => by simp [hg, binOp, Op.shift, show ¬ b < 0 by have := h.1; omega], h.2⟩
    case shr => exact ⟨_, fun w => by simp [hg, binOp, Op.shift, show ¬ b < 0 by have := h.1; omega], h.2⟩
    case quo =>
      split at h
      case isFalse => exact h.elim
      case isTrue hk => exact key ⟨by simp, by simp⟩ hk (fun w => by simp [binOp, Op.intDiv, h.1]) h.2
    case rem =>
      split at h
      case isFalse => exact h.elim
      case isTrue hk => exact key ⟨by simp, by simp⟩ hk (fun w => by simp [binOp, Op.intDiv, h.1]) h.2
    all_goals
      split at h
      case isFalse => exact h.elim
      case isTrue hk => exact key ⟨by simp, by simp⟩ hk (fun w => by simp [binOp, Op.intArith, Op.intCmp, intBits_eq]) h
  · rename_i a b
    have hg : ∀ op, eqGuard op t xo yo (.string a) (.string b) = pure () := fun op => eqGuard_at_string ..
    cases op <;> simp only at h <;> first | exact h.elim | exact ⟨_, fun w => by simp [hg, binOp, Op.stringOp], h⟩
  · rename_i a b
    have hg : ∀ op, eqGuard op t xo yo (.bool a) (.bool b) = pure () := fun op => eqGuard_at_bool ..
    generalize hu : P.underlying t = u at h
    split at h
    · exact ⟨_, fun w => (eqv w xo yo hg ⟨rfl, rfl⟩ (run_equal_bool w hu a b)).1, h⟩
    · exact ⟨_, fun w => (eqv w xo yo hg ⟨rfl, rfl⟩ (run_equal_bool w hu a b)).2, h⟩
    · exact h.elim
  · rename_i a
    have hg : ∀ op, eqGuard op t xo yo (.pointer a) (.pointer none) = pure () := fun op => eqGuard_at_pointer ..
    generalize hu : P.underlying t = u at h
    split at h
    · exact ⟨_, fun w => (eqv w xo yo hg ⟨by cases a <;> rfl, by cases a <;> rfl⟩ (run_equal_ptr w hu a)).1, h⟩
    · exact ⟨_, fun w => (eqv w xo yo hg ⟨by cases a <;> rfl, by cases a <;> rfl⟩ (run_equal_ptr w hu a)).2, h⟩
    · exact h.elim
  · rename_i a _ _ _ _
    have hg : ∀ op n c n' c', eqGuard op t xo yo (.slice a n c) (.slice none n' c') = pure () := fun op _ _ _ _ => eqGuard_at_slice ..
    generalize hu : P.underlying t = u at h
    split at h
    · exact ⟨_, fun w => (eqv w xo yo (fun op => hg op _ _ _ _) ⟨by cases a <;> rfl, by cases a <;> rfl⟩ (run_equal_slice w hu a _ _ _ _)).1, h⟩
    · exact ⟨_, fun w => (eqv w xo yo (fun op => hg op _ _ _ _) ⟨by cases a <;> rfl, by cases a <;> rfl⟩ (run_equal_slice w hu a _ _ _ _)).2, h⟩
    · exact h.elim
  · rename_i a
    have hg : ∀ op, eqGuard op t xo yo (.map a) (.map none) = pure () := fun op => eqGuard_at_map ..
    generalize hu : P.underlying t = u at h
    split at h
    · exact ⟨_, fun w => (eqv w xo yo hg ⟨by cases a <;> rfl, by cases a <;> rfl⟩ (run_equal_map w hu a)).1, h⟩
    · exact ⟨_, fun w => (eqv w xo yo hg ⟨by cases a <;> rfl, by cases a <;> rfl⟩ (run_equal_map w hu a)).2, h⟩
    · exact h.elim
  · rename_i xs ys
    cases op <;> simp only at h <;> first
      | exact h.elim
      | (obtain ⟨b, hb, hk⟩ := h
         refine ⟨_, fun w => ?_, hk⟩
         have := hb w
         simp only [Sem.run_bind] at this ⊢
         cases hr : (eqGuard _ t xo yo (.agg xs) (.agg ys)).run P w with
         | halt x w' => rw [hr] at this; simp at this
         | ok u w' =>
           rw [hr] at this
           simp only [Result.andThen_ok] at this ⊢
           simp [binOp, this])
  · exact h.elim

/-- A comparison that is taken as the machine answers it. -/
def hCmp (P : Program) (op : BinOp) (t : TypeId) (xo yo : Operand) (x y : Value) (K : Bool → HP → Prop) : HP → Prop := fun m => ∃ b, (∀ w, (do eqGuard op t xo yo x y; binOp op t x y : Sem Value).run P w = .ok (.bool b) w) ∧ K b m

def qBin (P : Program) (op : BinOp) (t : TypeId) (xo yo : Operand) (x y : Value) (K : Value → HP → Prop) : HP → Prop :=
  match y with
  | .nilFunc => hCmp P op t xo yo x y fun b => K (.bool b)
  | _ => qBin0 P op t xo yo x y K

theorem qBin_sound {P : Program} {op : BinOp} {t : TypeId} {xo yo : Operand} {x y : Value} {K : Value → HP → Prop} {m : HP} (h : qBin P op t xo yo x y K m) :
    ∃ v, (∀ w, (do eqGuard op t xo yo x y; binOp op t x y : Sem Value).run P w = .ok v w) ∧ K v m := by
  unfold qBin at h
  split at h
  · obtain ⟨b, h1, h2⟩ := h; exact ⟨_, h1, h2⟩
  · exact qBin0_sound h

def qUn (op : UnOp) (x : Value) (K : Value → HP → Prop) : HP → Prop :=
  match op, x with
  | .neg, .int k n => hInt k (0 - n) fun r => K (.int k r)
  | .xor, .int k n => K (.int k (bitv .xor k (if k.signed then -1 else k.max) n))
  | .not, .bool b => K (.bool (!b))
  | _, _ => no

/-- The bytes of a slice. -/
def hBytes (a : Option Addr) (n : Nat) (K : List UInt8 → HP → Prop) : HP → Prop := fun m =>
  ∃ bs : List UInt8, bs.length = n ∧ Row m a (bs.map fun b => Value.int .u8 b.toNat) ∧ (a = none → n = 0) ∧ K bs m

def qConv (P : Program) (src dst : TypeId) (x : Value) (K : Value → HP → Prop) : HP → Prop :=
  match x with
  | .int _ n =>
    match P.underlying src, P.underlying dst with
    | some _, some (.int k) => hInt k n fun r => K (.int k r)
    | _, _ => no
  | .string s =>
    match P.underlying src, P.underlying dst with
    | some _, some .string => K (.string s)
    | _, _ => no
  | .slice a n c =>
    match P.underlying src, P.underlying dst with
    | some (.slice e), some .string =>
      match P.underlying e with
      | some (.int .u8) => hBytes a n fun bs => K (.string ⟨bs.toArray⟩)
      | _ => no
    | _, _ => no
  | _ => no

theorem bytes_fold (P : Program) (w : World) (bs : List UInt8) : ∀ (s : ByteArray),
    (forIn (m := Sem) (bs.map fun b => Value.int .u8 b.toNat) s fun c s => do
      match c with
      | .int .u8 n => pure (ForInStep.yield (s.push (UInt8.ofNat n.toNat)))
      | _ => do
        stuck "bytesToString: byte expected"
        pure (ForInStep.yield s)).run P w = .ok ⟨s.data ++ bs.toArray⟩ w := by
  induction bs with
  | nil => intro s; simp
  | cons b bs ih =>
    intro s
    simp only [List.map_cons, List.forIn_cons, Sem.run_bind, Sem.run_pure, Result.andThen_ok]
    have e : UInt8.ofNat (Int.toNat (b.toNat : Int)) = b := by simp
    rw [e, ih]
    simp [ByteArray.push]

theorem qConv_sound {P : Program} {src dst : TypeId} {x : Value} {K : Value → HP → Prop} {m : HP} (h : qConv P src dst x K m) : ∃ v, Yv P (convert src dst x) m v ∧ K v m := by
  unfold qConv at h
  split at h
  · generalize hs : P.underlying src = u1 at h
    generalize hd : P.underlying dst = u2 at h
    split at h
    · rename_i d k
      refine ⟨_, fun w _ => ?_, h⟩
      simp [convert, run_underlying hs, run_underlying hd, Conv.intToInt]
    · exact h.elim
  · generalize hs : P.underlying src = u1 at h
    generalize hd : P.underlying dst = u2 at h
    split at h
    · rename_i d
      refine ⟨_, fun w _ => ?_, h⟩
      simp [convert, run_underlying hs, run_underlying hd]
    · exact h.elim
  · rename_i a n c
    generalize hs : P.underlying src = u1 at h
    generalize hd : P.underlying dst = u2 at h
    split at h
    · rename_i e
      generalize he : P.underlying e = u3 at h
      split at h
      ·
        obtain ⟨bs, hn, hrow, hnil, hk⟩ := h
        refine ⟨_, fun w hw => ?_, hk⟩
        cases a with
        | none =>
          obtain rfl : bs = [] := by have := hnil rfl; rw [this] at hn; exact List.length_eq_zero_iff.1 hn
          have he' : (ByteArray.mk ([] : List UInt8).toArray) = ByteArray.empty := rfl
          simp [convert, run_underlying hs, run_underlying hd, run_underlying he, Conv.bytesToString, he']
        | some ad =>
          have h1 : (loadCells ad n).run P w = .ok (bs.map fun b => Value.int .u8 b.toNat).toArray w := by
            have := run_loadCells_list (P := P) w ad (bs.map fun b => Value.int .u8 b.toNat) (fun j v hj => (hrow.at j v hj).cell hw)
            simpa [hn] using this
          have h2 := bytes_fold P w bs ByteArray.empty
          simp only [convert, Sem.run_bind, run_underlying hs, run_underlying hd, run_underlying he, Result.andThen_ok, Conv.bytesToString, h1]
          simp only [List.forIn_toArray]
          refine (congrArg (fun r => Result.andThen r _) h2).trans ?_
          simp [ByteArray.empty, ByteArray.emptyWithCapacity]
          rfl
      · exact h.elim
    · exact h.elim
  · exact h.elim

def fieldOff (P : Program) (s : TypeId) (f : Nat) : Option Nat :=
  match P.underlying s with
  | some (.struct fs) =>
    match fs[f]? with
    | some fl => match sizeB P fl.type with | some (_ + 1) => some fl.offset | _ => none
    | none => none
  | _ => none

def qFieldAddr (P : Program) (s : TypeId) (x : Value) (f : Nat) (K : Value → HP → Prop) : HP → Prop :=
  match x, fieldOff P s f with
  | .pointer (some a), some off => K (.pointer (some (a.add off)))
  | _, _ => no

theorem qFieldAddr_sound {P : Program} {s : TypeId} {x : Value} {f : Nat} {K : Value → HP → Prop} {m : HP} (h : qFieldAddr P s x f K m) : ∃ v, Yv P (Instr.fieldAt s x f) m v ∧ K v m := by
  unfold qFieldAddr at h
  generalize ho : fieldOff P s f = oo at h
  split at h
  case h_2 => exact h.elim
  case h_1 a off =>
  unfold fieldOff at ho
  generalize hu : P.underlying s = u at ho
  split at ho
  case h_2 => cases ho
  case h_1 fs =>
  generalize hf : fs[f]? = ff at ho
  split at ho
  case h_2 => cases ho
  case h_1 fl =>
  generalize hsz : sizeB P fl.type = sz at ho
  split at ho
  case h_2 => cases ho
  case h_1 n =>
  cases ho
  exact ⟨_, fun w _ => by simp [Instr.fieldAt, run_underlying hu, hf, Instr.sureAddr, fieldPlace, run_sizeB w hsz], h⟩

/-- A part of an aggregate. -/
def qPart (P : Program) (t : TypeId) (cs : Array Value) (off : Nat) (K : Value → HP → Prop) : HP → Prop :=
  match aggB P t, P.underlying t with
  | true, some _ => match sizeB P t with | some n => K (.agg (cs.extract off (off + n))) | none => no
  | false, some _ => match cs[off]? with | some v => K v | none => no
  | _, none => no

theorem qPart_sound {P : Program} {t : TypeId} {cs : Array Value} {off : Nat} {K : Value → HP → Prop} {m : HP} (h : qPart P t cs off K m) : ∃ v, Yv P (part t cs off) m v ∧ K v m := by
  unfold qPart at h
  generalize hag : aggB P t = g at h
  have hs : ∀ {d}, P.underlying t = some d → (P.underlying t).isSome = true := fun e => by rw [e]; rfl
  generalize hu : P.underlying t = u at h
  split at h
  case h_1 =>
    generalize hsz : sizeB P t = sz at h
    split at h
    case h_2 => exact h.elim
    case h_1 n => exact ⟨_, fun w _ => by simp [part, run_isAgg w (hs hu), hag, run_sizeB w hsz], h⟩
  case h_2 =>
    generalize hv : cs[off]? = vv at h
    split at h
    case h_2 => exact h.elim
    case h_1 v => exact ⟨_, fun w _ => by simp [part, run_isAgg w (hs hu), hag, hv], h⟩
  case h_3 => exact h.elim

def qField (P : Program) (s : TypeId) (x : Value) (f : Nat) (K : Value → HP → Prop) : HP → Prop :=
  match x, P.underlying s with
  | .agg cs, some (.struct fs) => match fs[f]? with | some fl => qPart P fl.type cs fl.offset K | none => no
  | _, _ => no

theorem qField_sound {P : Program} {s : TypeId} {x : Value} {f : Nat} {K : Value → HP → Prop} {m : HP} (h : qField P s x f K m) : ∃ v, Yv P (Instr.field s x f) m v ∧ K v m := by
  unfold qField at h
  generalize hu : P.underlying s = u at h
  split at h
  case h_2 => exact h.elim
  case h_1 cs fs =>
  generalize hf : fs[f]? = ff at h
  split at h
  case h_2 => exact h.elim
  case h_1 fl =>
  obtain ⟨v, hv, hk⟩ := qPart_sound h
  exact ⟨v, fun w hw => by simp [Instr.field, run_underlying hu, hf, asAgg, hv w hw], hk⟩

def qIndexAddr (P : Program) (t : TypeId) (x i : Value) (K : Value → HP → Prop) : HP → Prop :=
  match i with
  | .int _ n =>
    match P.underlying t, x with
    | some (.slice e), .slice a len _ =>
      match sizeB P e with
      | some sz => hIdx a len n sz fun ad => K (.pointer (some ad))
      | none => no
    | some (.array len e), .pointer (some a) =>
      match sizeB P e with
      | some sz => hIdx (some a) len n sz fun ad => K (.pointer (some ad))
      | none => no
    | _, _ => no
  | _ => no

theorem qIndexAddr_sound {P : Program} {t : TypeId} {x i : Value} {K : Value → HP → Prop} {m : HP} (h : qIndexAddr P t x i K m) : ∃ v, Yv P (Instr.indexAt t x i) m v ∧ K v m := by
  unfold qIndexAddr at h
  split at h
  case h_2 => exact h.elim
  case h_1 k n =>
  generalize hu : P.underlying t = u at h
  split at h
  case h_3 => exact h.elim
  case h_1 e a len cap =>
    generalize hsz : sizeB P e = ss at h
    split at h
    case h_2 => exact h.elim
    case h_1 sz =>
    obtain ⟨ad, rfl, h0, h1, hk⟩ := h
    exact ⟨_, fun w _ => by simp [Instr.indexAt, asIntOf, run_underlying hu, h0, h1, run_sizeB w hsz], hk⟩
  case h_2 len e a =>
    generalize hsz : sizeB P e = ss at h
    split at h
    case h_2 => exact h.elim
    case h_1 sz =>
    obtain ⟨ad, had, h0, h1, hk⟩ := h
    obtain rfl := Option.some.inj had
    exact ⟨_, fun w _ => by simp [Instr.indexAt, asIntOf, run_underlying hu, h0, h1, Instr.sureAddr, run_sizeB w hsz], hk⟩

def qIndex (P : Program) (t : TypeId) (x i : Value) (K : Value → HP → Prop) : HP → Prop :=
  match i with
  | .int _ n =>
    match P.underlying t, x with
    | some .string, .string s => hByte s n fun b => K (.int .u8 b)
    | some (.array len e), .agg cs =>
      match aggB P e, P.underlying e, sizeB P e with
      | false, some d, some 1 => hElem (tyScalar d) cs n len fun x => K ((tyScalar d).val x)
      | _, _, _ => no
    | _, _ => no
  | _ => no

theorem qIndex_sound {P : Program} {t : TypeId} {x i : Value} {K : Value → HP → Prop} {m : HP} (h : qIndex P t x i K m) : ∃ v, Yv P (Instr.index t x i) m v ∧ K v m := by
  unfold qIndex at h
  split at h
  case h_2 => exact h.elim
  case h_1 k n =>
  generalize hu : P.underlying t = u at h
  split at h
  case h_3 => exact h.elim
  case h_1 s =>
    obtain ⟨h0, b, hb, hk⟩ := h
    exact ⟨_, fun w _ => by simp [Instr.index, asIntOf, run_underlying hu, h0, hb], hk⟩
  case h_2 len e cs =>
    generalize hag : aggB P e = g at h
    generalize he : P.underlying e = u2 at h
    generalize hsz : sizeB P e = ss at h
    split at h
    case h_2 => exact h.elim
    case h_1 d =>
    obtain ⟨h0, h1, x, hx, hk⟩ := h
    have hs : (P.underlying e).isSome = true := by rw [he]; rfl
    exact ⟨_, fun w _ => by simp [Instr.index, asIntOf, run_underlying hu, h0, h1, run_sizeB w hsz, part, run_isAgg w hs, hag, hx], hk⟩

/-- 's[lo:hi]' of a slice or a string; no third index. -/
def qSlice (P : Program) (t : TypeId) (x : Value) (lo hi mx : Option Value) (K : Value → HP → Prop) : HP → Prop :=
  match mx with
  | some _ => no
  | none =>
    match P.underlying t, x with
    | some (.slice e), .slice a len cap =>
      match sizeB P e with
      | some sz =>
        match lo, hi with
        | none, none => hCut a cap 0 len sz fun s => K (.slice s.a s.n s.cap)
        | some (.int _ l), none => hCut a cap l len sz fun s => K (.slice s.a s.n s.cap)
        | none, some (.int _ h) => hCut a cap 0 h sz fun s => K (.slice s.a s.n s.cap)
        | some (.int _ l), some (.int _ h) => hCut a cap l h sz fun s => K (.slice s.a s.n s.cap)
        | _, _ => no
      | none => no
    | _, _ => no

theorem run_cut {P : Program} {w : World} {t e : TypeId} {sz : Nat} {a : Option Addr} {len cap : Nat} {lo hi : Option Value} {l h : Int} (hu : P.underlying t = some (.slice e)) (hsz : sizeB P e = some sz)
    (hlo : lo = none ∧ l = 0 ∨ ∃ k, lo = some (.int k l)) (hhi : hi = none ∧ h = len ∨ ∃ k, hi = some (.int k h)) (h0 : 0 ≤ l) (h1 : l ≤ h) (h2 : h ≤ cap) :
    (Instr.sliceAt t (.slice a len cap) lo hi none).run P w = .ok (.slice (if (cap : Int) = l then a else a.map (·.add (l.toNat * sz))) (h - l).toNat (cap - l).toNat) w := by
  have hb : (Instr.sliceBounds true len cap lo hi none).run P w = .ok (l.toNat, h.toNat, cap) w := by
    rcases hlo with ⟨rfl, rfl⟩ | ⟨k, rfl⟩
    · rcases hhi with ⟨rfl, rfl⟩ | ⟨k, rfl⟩
      · simp [Instr.sliceBounds]
      · simp [Instr.sliceBounds, Instr.sliceBound, asIntOf, show 0 ≤ h by omega, h2]
    · rcases hhi with ⟨rfl, rfl⟩ | ⟨k', rfl⟩
      · simp [Instr.sliceBounds, Instr.sliceBound, asIntOf, h0, h1]
      · have h3 : 0 ≤ h := by omega
        have h4 : l ≤ (h.toNat : Int) := by omega
        simp [Instr.sliceBounds, Instr.sliceBound, asIntOf, h3, h2, h0, h1, Int.max_eq_left h3]
  have e1 : h.toNat - l.toNat = (h - l).toNat := by omega
  have e2 : cap - l.toNat = ((cap : Int) - l).toNat := by omega
  have e3 : (cap = l.toNat) ↔ ((cap : Int) = l) := by omega
  simp [Instr.sliceAt, Instr.slice, run_underlying hu, hb, run_sizeB w hsz, e1, e2, e3]

theorem qSlice_sound {P : Program} {t : TypeId} {x : Value} {lo hi mx : Option Value} {K : Value → HP → Prop} {m : HP} (h : qSlice P t x lo hi mx K m) : ∃ v, Yv P (Instr.sliceAt t x lo hi mx) m v ∧ K v m := by
  unfold qSlice at h
  split at h
  case h_1 => exact h.elim
  case h_2 =>
  generalize hu : P.underlying t = u at h
  split at h
  case h_2 => exact h.elim
  case h_1 e a len cap =>
  generalize hsz : sizeB P e = ss at h
  split at h
  case h_2 => exact h.elim
  case h_1 sz =>
  split at h
  case h_5 => exact h.elim
  all_goals
    obtain ⟨h0, h1, h2, hk⟩ := h
    exact ⟨_, fun w _ => run_cut hu hsz (by simp) (by simp) h0 h1 h2, hk⟩

def minv : BinOp → Value → Value → Option Value
  | .lss, .int k x, .int _ y => some (.int k (if y < x then y else x))
  | .gtr, .int k x, .int _ y => some (.int k (if y > x then y else x))
  | _, _, _ => none

def qMin (op : BinOp) (args : List Value) (K : Value → HP → Prop) : HP → Prop :=
  match args with
  | [x] => K x
  | [x, y] => match minv op x y with | some v => K v | none => no
  | [x, y, z] => match minv op x y with | some v => (match minv op v z with | some u => K u | none => no) | none => no
  | _ => no

def qLen (P : Program) (t : TypeId) (x : Value) (K : Value → HP → Prop) : HP → Prop :=
  match P.underlying t, x with
  | some (.slice _), .slice _ n _ => K (.int .i64 n)
  | some .string, .string s => K (.int .i64 s.size)
  | some (.array n _), _ => K (.int .i64 n)
  | _, _ => no

end Go.Hp
/- Operations over heaplets: those that write or make memory, maps, calls. Own work; nothing of any program. -/
namespace Go.Hp
open Go

/-! ### Calls -/
def HCalls (P : Program) (f : FuncId) (args : Array Value) (m : HP) (R : Ending → HP → Prop) : Prop :=
  ∀ w, Holds w m → Calls P f args w fun e w' => ∃ m', Holds w' m' ∧ R e m'

theorem HCalls.mono {P : Program} {f : FuncId} {args : Array Value} {m : HP} {R R' : Ending → HP → Prop} (h : HCalls P f args m R) (hr : ∀ e m', R e m' → R' e m') : HCalls P f args m R' :=
  fun w hw => (h w hw).mono fun e w' ⟨m', h1, h2⟩ => ⟨m', h1, hr e m' h2⟩

def Callable (P : Program) (f : FuncId) : Prop := ∀ args w, (callFunc f args).run P w = .ok (.enter f args) w

/-- A function of the program, called: from whatever world that holds m. -/
def Does (P : Program) (f : FuncId) (args : Array Value) (m : HP) (R : Ending → HP → Prop) : Prop := Callable P f ∧ HCalls P f args m R

theorem Does.mono {P : Program} {f : FuncId} {args : Array Value} {m : HP} {R R' : Ending → HP → Prop} (h : Does P f args m R) (hr : ∀ e m', R e m' → R' e m') : Does P f args m R' :=
  ⟨h.1, h.2.mono hr⟩

def retX (K : Value → HP → Prop) (X : List PanicEntry → HP → Prop) : Ending → HP → Prop
  | .returned v => K v
  | .panicked c => X c
  | .outgrown => no

/-- What an operation, carried out in the world w, must come to. -/
def OpOK (P : Program) (s : Sem Next) (K : Value → HP → Prop) (X : List PanicEntry → HP → Prop) (w : World) : Prop :=
  match s.run P w with
  | .ok (.value v) w' => ∃ m', Holds w' m' ∧ K v m'
  | .ok .skip w' => ∃ m', Holds w' m' ∧ K undef m'
  | .ok (.enter f args) w' => ∃ m', Holds w' m' ∧ HCalls P f args m' (retX K X)
  | .halt (.panic v) w' => ∃ m', Holds w' m' ∧ X [{ v, recovered := false }] m'
  | _ => False

theorem OpOK.value {P : Program} {s : Sem Value} {K : Value → HP → Prop} {X : List PanicEntry → HP → Prop} {w w' : World} {v : Value} {m' : HP}
    (h : s.run P w = .ok v w') (hw : Holds w' m') (hk : K v m') : OpOK P (do pure (.value (← s))) K X w := by
  unfold OpOK; simp only [Sem.run_bind, h, Result.andThen_ok, Sem.run_pure]; exact ⟨m', hw, hk⟩
theorem OpOK.unit {P : Program} {s : Sem Unit} {K : Value → HP → Prop} {X : List PanicEntry → HP → Prop} {w w' : World} {m' : HP}
    (h : s.run P w = .ok () w') (hw : Holds w' m') (hk : K undef m') : OpOK P (do s; pure .skip) K X w := by
  unfold OpOK; simp only [Sem.run_bind, h, Result.andThen_ok, Sem.run_pure]; exact ⟨m', hw, hk⟩

/-- A value operation that writes: what its run must come to. -/
def Wv (P : Program) (s : Sem Value) (K : Value → HP → Prop) (m : HP) : Prop := ∀ w, Holds w m → ∃ v w' m', s.run P w = .ok v w' ∧ Holds w' m' ∧ K v m'
def Wu (P : Program) (s : Sem Unit) (K : HP → Prop) (m : HP) : Prop := ∀ w, Holds w m → ∃ w' m', s.run P w = .ok () w' ∧ Holds w' m' ∧ K m'

/-! ### store, alloc, box, build, make -/
def okCells (vs : List Value) : Bool := vs.all Value.oneCell'

def lStore (P : Program) (t : TypeId) (p v : Value) (K : HP → Prop) : HP → Prop :=
  match p with
  | .pointer (some ad) => if sizeB P t = some v.cells.size ∧ okCells v.cells.toList = true then hStores v.cells.toList ad 0 K else no
  | _ => no

theorem lStore_sound {P : Program} {t : TypeId} {p v : Value} {K : HP → Prop} {m : HP} (h : lStore P t p v K m) : Wu P (Instr.storeAt t p v) K m := by
  unfold lStore at h
  split at h
  case h_2 => exact h.elim
  case h_1 ad =>
  split at h
  case isFalse => exact h.elim
  case isTrue hc =>
  intro w hw
  have hok : ∀ u ∈ v.cells.toList, u.oneCell' = true := fun u hu => List.all_eq_true.1 hc.2 u hu
  obtain ⟨w', m', h1, h2, h3⟩ := hStores_sound hok h (P := P) hw
  exact ⟨w', m', by simp [Instr.storeAt, Instr.sureAddr, storeVar, run_sizeB w hc.1, h1], h2, h3⟩

def lAlloc (P : Program) (t : TypeId) (K : Value → HP → Prop) : HP → Prop :=
  match zeroB P t with
  | some z => hNew z.cells t fun b => K (.pointer (some ⟨b, 0, none⟩))
  | none => no

theorem lAlloc_sound {P : Program} {t : TypeId} {K : Value → HP → Prop} {m : HP} (h : lAlloc P t K m) : Wv P (Instr.alloc t true (.tuple #[])) K m := by
  unfold lAlloc at h
  generalize hz : zeroB P t = z at h
  split at h
  case h_2 => exact h.elim
  case h_1 z =>
  intro w hw
  obtain ⟨b, w', m', h1, h2, h3⟩ := hNew_sound h (P := P) hw
  exact ⟨_, w', m', by simp [Instr.alloc, run_zeroB w hz, newVar, h1], h2, h3⟩

def lBox (t : TypeId) (v : Value) (K : Value → HP → Prop) : HP → Prop := hNew v.cells t fun b => K (.pointer (some ⟨b, 0, none⟩))
theorem lBox_sound {P : Program} {t : TypeId} {v : Value} {K : Value → HP → Prop} {m : HP} (h : lBox t v K m) : Wv P (Instr.box t v) K m := by
  intro w hw
  obtain ⟨b, w', m', h1, h2, h3⟩ := hNew_sound h (P := P) hw
  exact ⟨_, w', m', by simp [Instr.box, newVar, h1], h2, h3⟩

/-- The cells of a composite value. -/
def buildCells (P : Program) (t : TypeId) (parts : List (Nat × Value)) : Option (Array Value) :=
  match zeroB P t, P.underlying t with
  | some z, some (.struct fs) =>
    if fs.toList.all (fun f => (sizeB P f.type).isSome) then
      Instr.fill (fun i => (fs[i]?).map fun f => (f.offset, (sizeB P f.type).getD 0)) z.cells parts
    else none
  | some z, some (.array _ e) => match sizeB P e with | some s => Instr.fill (fun i => some (i * s, s)) z.cells parts | none => none
  | _, _ => none

theorem run_mapM_list {α β : Type} {P : Program} {w : World} (f : α → Sem β) (g : α → β) : ∀ l : List α, (∀ x ∈ l, (f x).run P w = .ok (g x) w) → (l.mapM f).run P w = .ok (l.map g) w := by
  intro l
  induction l with
  | nil => intro _; simp
  | cons x l ih =>
    intro h
    simp [List.mapM_cons, h x (by simp), ih (fun y hy => h y (by simp [hy]))]

theorem buildCells_sound {P : Program} {t : TypeId} {parts : Array (Nat × Value)} {cs : Array Value} (h : buildCells P t parts.toList = some cs) (w : World) :
    (Instr.build t parts).run P w = .ok (.agg cs) w := by
  unfold buildCells at h
  generalize hz : zeroB P t = z at h
  generalize hu : P.underlying t = u at h
  split at h
  case h_1 z fs =>
    split at h
    case isFalse => cases h
    case isTrue hall =>
    have h1 : (fs.mapM fun f => do pure (f.offset, ← sizeOf f.type) : Sem (Array (Nat × Nat))).run P w = .ok (fs.map fun f => (f.offset, (sizeB P f.type).getD 0)) w := by
      rw [Array.mapM_eq_mapM_toList]
      have := run_mapM_list (P := P) (w := w) (fun f : Field => (do pure (f.offset, ← sizeOf f.type) : Sem (Nat × Nat))) (fun f => (f.offset, (sizeB P f.type).getD 0)) fs.toList (fun f hf => by
        have := List.all_eq_true.1 hall f hf
        obtain ⟨n, hn⟩ := Option.isSome_iff_exists.1 this
        simp [run_sizeB w hn, hn])
      simp only [Sem.run_map, this, Result.andThen_ok]
      congr 1
      apply Array.ext'
      simp
    have h2 : (fun i : Nat => (fs.map fun f : Field => (f.offset, (sizeB P f.type).getD 0))[i]?) = (fun i => (fs[i]?).map fun f : Field => (f.offset, (sizeB P f.type).getD 0)) := by
      funext i; simp
    simp only [Instr.build, Sem.run_bind, run_zeroB w hz, run_underlying hu, Result.andThen_ok, h1, h2, h, Sem.run_pure]
  case h_2 z n e =>
    generalize hs : sizeB P e = s at h
    split at h
    case h_2 => cases h
    case h_1 s =>
    simp only [Instr.build, Sem.run_bind, run_zeroB w hz, run_underlying hu, Result.andThen_ok, run_sizeB w hs, h, Sem.run_pure]
  case h_3 => cases h

def qBuild (P : Program) (t : TypeId) (parts : Array (Nat × Value)) (K : Value → HP → Prop) : HP → Prop :=
  match buildCells P t parts.toList with
  | some cs => K (.agg cs)
  | none => no
theorem qBuild_sound {P : Program} {t : TypeId} {parts : Array (Nat × Value)} {K : Value → HP → Prop} {m : HP} (h : qBuild P t parts K m) : ∃ v, Yv P (Instr.build t parts) m v ∧ K v m := by
  unfold qBuild at h
  generalize hb : buildCells P t parts.toList = c at h
  split at h
  case h_2 => exact h.elim
  case h_1 cs => exact ⟨_, fun w _ => buildCells_sound hb w, h⟩

def makeCells (zero : Array Value) (n : Nat) : Array Value := (Array.range n).map fun i => zero[i % zero.size]!

def sliceCells (P : Program) (t : TypeId) (len : Nat) (parts : List (Nat × Value)) : Option (TypeId × Array Value) :=
  match P.underlying t with
  | some (.slice e) =>
    match sizeB P e, zeroB P e with
    | some s, some z => if len * s > 2 ^ 24 then none else (Instr.fill (fun i => some (i * s, s)) (makeCells z.cells (len * s)) parts).map fun c => (e, c)
    | _, _ => none
  | _ => none

def lBuildSlice (P : Program) (t : TypeId) (len : Nat) (parts : Array (Nat × Value)) (K : Value → HP → Prop) : HP → Prop :=
  match sliceCells P t len parts.toList with
  | some (e, cs) => hNew cs e fun b => K (.slice (some ⟨b, 0, none⟩) len len)
  | none => no

theorem makeCells_zero (z : Array Value) : makeCells z 0 = #[] := by simp [makeCells]

theorem lBuildSlice_sound {P : Program} {t : TypeId} {len : Nat} {parts : Array (Nat × Value)} {K : Value → HP → Prop} {m : HP} (h : lBuildSlice P t len parts K m) :
    Wv P (Instr.buildSlice t len parts) K m := by
  unfold lBuildSlice at h
  generalize hc : sliceCells P t len parts.toList = c at h
  split at h
  case h_2 => exact h.elim
  case h_1 e cs =>
  unfold sliceCells at hc
  generalize hu : P.underlying t = u at hc
  split at hc
  case h_2 => cases hc
  case h_1 e' =>
  generalize hs : sizeB P e' = s at hc
  generalize hz : zeroB P e' = z at hc
  split at hc
  case h_2 => cases hc
  case h_1 s z =>
  split at hc
  case isTrue => cases hc
  case isFalse hle =>
  simp only [Option.map_eq_some_iff] at hc
  obtain ⟨cs', hf, he⟩ := hc
  obtain ⟨rfl, rfl⟩ := Prod.mk.inj he
  intro w hw
  obtain ⟨b, w', m', h1, h2, h3⟩ := hNew_sound h (P := P) hw
  refine ⟨_, w', m', ?_, h2, h3⟩
  by_cases h0 : len * s = 0
  · rw [h0, makeCells_zero] at hf
    simp only [Instr.buildSlice, Sem.run_bind, run_underlying hu, Result.andThen_ok, run_sizeB w hs]
    simp only [h0] at hle ⊢
    simp [hf, h1, Array.range_zero']
  · simp only [makeCells] at hf
    simp [Instr.buildSlice, run_underlying hu, run_sizeB w hs, h0, run_zeroB w hz, show ¬ 16777216 < len * s by omega, hf, h1]

def hMake (size bytes : Nat) (zero : Array Value) (e : TypeId) (l c : Int) (K : Nat → HP → Prop) : HP → Prop := fun m =>
  0 ≤ l ∧ l ≤ c ∧ c ≤ 2 ^ 48 ∧ bytes * c ≤ 2 ^ 48 ∧ ∀ b, K b (pt b (.cells (makeCells zero (c.toNat * size)) e (0, 0)) + m)

def lMake (P : Program) (t : TypeId) (l c : Value) (K : Value → HP → Prop) : HP → Prop :=
  match P.underlying t, l, c with
  | some (.slice e), .int _ ln, .int _ cn =>
    match sizeB P e, bytesB P e, zeroB P e with
    | some s, some by_, some z => hMake s by_ z.cells e ln cn fun b => K (.slice (some ⟨b, 0, none⟩) ln.toNat cn.toNat)
    | _, _, _ => no
  | _, _, _ => no

theorem wrap_i64 {x : Int} (h0 : -9223372036854775808 ≤ x) (h1 : x ≤ 9223372036854775807) : IntKind.i64.wrap x = x := by
  simp only [IntKind.wrap, IntKind.bits, IntKind.signed]
  have : (2 : Int) ^ 64 = 18446744073709551616 := by decide
  have : (2 : Int) ^ (64 - 1) = 9223372036854775808 := by decide
  simp only [*, Bool.true_and, decide_eq_true_eq]
  split <;> omega

theorem lMake_sound {P : Program} {t : TypeId} {l c : Value} {K : Value → HP → Prop} {m : HP} (h : lMake P t l c K m) : Wv P (Instr.makeSlice t l c) K m := by
  unfold lMake at h
  generalize hu : P.underlying t = u at h
  split at h
  case h_2 => exact h.elim
  case h_1 e k1 ln k2 cn =>
  generalize hs : sizeB P e = s at h
  generalize hb : bytesB P e = bb at h
  generalize hz : zeroB P e = z at h
  split at h
  case h_2 => exact h.elim
  case h_1 s by_ z =>
  obtain ⟨h0, h1, h2, h3, hk⟩ := h
  intro w hw
  have p48 : (2 : Int) ^ 48 = 281474976710656 := by decide
  rw [p48] at h2 h3
  have wl : IntKind.i64.wrap ln = ln := wrap_i64 (by omega) (by omega)
  have wc : IntKind.i64.wrap cn = cn := wrap_i64 (by omega) (by omega)
  simp only [bytesB, Option.map_eq_some_iff] at hb
  obtain ⟨i, hi, rfl⟩ := hb
  refine ⟨_, { w with heap := w.heap.push (.cells (makeCells z.cells (cn.toNat * s)) e) }, _, ?_, hw.push _, hk w.heap.size⟩
  have hc0 : ¬ cn < 0 := by omega
  have hl0 : ¬ ln < 0 := by omega
  have hlc : ¬ ln > cn := by omega
  have hbig : ¬ ((i.bytes : Int) * cn > 281474976710656) := by omega
  have ht : (typeInfo e).run P w = .ok i w := by simp [typeInfo, hi]
  have hcond : ((decide (cn < 0) || decide (↑i.bytes * cn > 2 ^ 48)) || decide (ln < 0) || decide (ln > cn)) = false := by
    rw [p48]; simp [hc0, hl0, hlc, hbig]
  by_cases h0' : cn.toNat * s = 0
  · have hz0 : (Array.range 0).map (fun i => (#[] : Array Value)[i % (#[] : Array Value).size]!) = makeCells z.cells (cn.toNat * s) := by rw [h0']; simp [makeCells]
    simp only [Instr.makeSlice, Sem.run_bind, run_underlying hu, Result.andThen_ok, asInt, asIntOf, Sem.run_pure, ht, wl, wc, hcond, Bool.false_eq_true, if_false, run_askRoom, run_sizeB w hs]
    rw [← hz0]
    simp [h0', newRow]
  · simp only [Instr.makeSlice, Sem.run_bind, run_underlying hu, Result.andThen_ok, asInt, asIntOf, Sem.run_pure, ht, wl, wc, hcond, Bool.false_eq_true, if_false, run_askRoom, run_sizeB w hs]
    simp [h0', run_zeroB w hz, newRow, makeCells]

/-! ### append -/
theorem run_firstCells {P : Program} {w : World} {m : HP} (hw : Holds w m) {size : Nat} {x : Sl} {xs : List Value} (hl : xs.length = x.n * size) (hr : Row m x.a xs) :
    (Builtin.firstCells size x.n (.slice x.a x.n x.cap)).run P w = .ok xs.toArray w := by
  obtain ⟨a, n, cap⟩ := x
  cases a with
  | none =>
    rcases hr with rfl | ⟨ad, h, _⟩
    · simp [Builtin.firstCells]
    · cases h
  | some ad =>
    have := run_loadCells_list (P := P) w ad xs (fun j v hj => (hr.at j v hj).cell hw)
    simp only at hl
    rw [hl] at this
    simpa [Builtin.firstCells] using this

def lAppend (P : Program) (ts : Array TypeId) (args : List Value) (K : Value → HP → Prop) : HP → Prop :=
  match ts[0]?, ts[1]?, args with
  | some st, some xt, [.slice sa sn sc, .slice xa xn xc] =>
    match P.underlying st, P.underlying xt with
    | some (.slice e), some (.slice _) =>
      match sizeB P e, bytesB P e, zeroB P e with
      | some size, some bytes, some z => hAppend size bytes z.cells e ⟨sa, sn, sc⟩ ⟨xa, xn, xc⟩ fun s => K (.slice s.a s.n s.cap)
      | _, _, _ => no
    | _, _ => no
  | _, _, _ => no

theorem lAppend_sound {P : Program} {ts : Array TypeId} {ty : TypeId} {args : Array Value} {K : Value → HP → Prop} {m : HP} (h : lAppend P ts args.toList K m) :
    Wv P (Builtin.append_ ts ty args) K m := by
  unfold lAppend at h
  generalize h0 : ts[0]? = o0 at h
  generalize h1 : ts[1]? = o1 at h
  generalize ha : args.toList = l at h
  split at h
  case h_2 => exact h.elim
  case h_1 st xt sa sn sc xa xn xc =>
  generalize hu : P.underlying st = u at h
  generalize hx : P.underlying xt = ux at h
  split at h
  case h_2 => exact h.elim
  case h_1 e e' =>
  generalize hs : sizeB P e = s at h
  generalize hb : bytesB P e = bb at h
  generalize hz : zeroB P e = z at h
  split at h
  case h_2 => exact h.elim
  case h_1 size bytes z =>
  intro w hw
  have ha0 : args[0]? = some (.slice sa sn sc) := by rw [← Array.getElem?_toList, ha]; rfl
  have ha1 : args[1]? = some (.slice xa xn xc) := by rw [← Array.getElem?_toList, ha]; rfl
  simp only [bytesB, Option.map_eq_some_iff] at hb
  obtain ⟨i, hi, rfl⟩ := hb
  obtain ⟨xs, hxl, hxr, hxo, hfit, hgrow⟩ := h
  have ht : ∀ w, (typeInfo e).run P w = .ok i w := fun w => by simp [typeInfo, hi]
  have hfx := run_firstCells (P := P) hw (x := ⟨xa, xn, xc⟩) hxl hxr
  simp only at hfx
  by_cases hle : sn + xn ≤ sc
  · have hfit := hfit hle
    cases sa with
    | none =>
      have hK : K (.slice none (sn + xn) sc) m := by
        rcases hfit with ⟨_, hk⟩ | ⟨ad, h, _⟩
        · exact hk
        · simp at h
      refine ⟨_, w, m, ?_, hw, hK⟩
      simp [Builtin.append_, h0, ha0, ha1, h1, run_underlying hu, run_underlying hx, run_sizeB w hs, Builtin.lenOf, hle, hfx]
    | some ad =>
      obtain ⟨w', m', g1, g2, g3⟩ := hBlit_sound hxo (by simpa using hfit) (P := P) hw
      refine ⟨_, w', m', ?_, g2, g3⟩
      simp [Builtin.append_, h0, ha0, ha1, h1, run_underlying hu, run_underlying hx, run_sizeB w hs, Builtin.lenOf, hle, hfx, g1]
  · obtain ⟨ys, hyl, hyr, hb0, hcap, hk⟩ := hgrow (by simp only; omega)
    simp only at hcap hk hyl
    have hw1 : Holds { w with drawn := w.drawn + 1 } m := hw.of_heap rfl
    have hfx1 := run_firstCells (P := P) hw1 (x := ⟨xa, xn, xc⟩) hxl hxr
    have hfy1 := run_firstCells (P := P) hw1 (x := ⟨sa, sn, sc⟩) hyl hyr
    simp only at hfx1 hfy1
    let newCap := (sn + xn) + w.tape w.drawn (.appendCap (sn + xn) sc e) % (2 ^ 63 - (sn + xn))
    refine ⟨_, _, _, ?_, hw1.push (.cells ((ys ++ xs).toArray ++ Builtin.zeroCells z.cells (newCap - (sn + xn))) e), hk newCap _ (by simp only [newCap]; omega)⟩
    have hcap' : ¬ (Builtin.nextslicecap (sn + xn) sc * i.bytes > 2 ^ 48) := by omega
    simp only [Builtin.append_, h0, ha0, ha1, h1, Sem.run_bind, run_underlying hu, run_underlying hx, Result.andThen_ok, run_sizeB w hs, Sem.run_pure, Builtin.lenOf, Bool.false_eq_true, if_false, hle, ht, false_or, hb0, and_false, Bool.not_false, hcap']
    simp only [run_choose, Question.forced, Bool.false_eq_true, if_false, Result.andThen_ok, Question.cut, run_askRoom, hfy1, hfx1, if_true]
    simp only [run_zeroB _ hz, Result.andThen_ok, newRow, Sem.run_bind, run_newObj, Sem.run_pure]
    simp [newCap]

/-! ### Maps of whole-number keys -/
def intKeys (k : IntKind) (es : Array MapEntry) : Prop := ∀ e ∈ es.toList, ∃ n, e.key = .int k n
def isKey (n : Int) : Value → Bool | .int _ x => decide (x = n) | _ => false
def mfind (es : Array MapEntry) (n : Int) : Option Value := (es.toList.find? fun e => isKey n e.key).map (·.val)
def midx (es : Array MapEntry) (n : Int) : Option Nat := es.toList.findIdx? fun e => isKey n e.key
def mput (es : Array MapEntry) (clock : Nat) (k : IntKind) (n : Int) (v : Value) : Array MapEntry × Nat :=
  match midx es n with
  | some i => (es.modify i fun e => { e with key := .int k n, val := v }, clock)
  | none => (es.push { key := .int k n, val := v, born := clock }, clock + 1)
def mdel (es : Array MapEntry) (n : Int) : Array MapEntry :=
  match midx es n with
  | some i => es.eraseIdxIfInBounds i
  | none => es

theorem findNow_int (k : IntKind) (n : Int) : ∀ (es : List MapEntry) (i : Nat), (∀ e ∈ es, ∃ x, e.key = .int k x) →
    Instr.findNow (.int k) (.int k n) es i = some ((es.findIdx? fun e => isKey n e.key).bind fun j => (es.find? fun e => isKey n e.key).map fun e => (i + j, e.val)) := by
  intro es
  induction es with
  | nil => intro i _; rfl
  | cons e es ih =>
    intro i h
    obtain ⟨x, hx⟩ := h e (by simp)
    have hk : isKey n e.key = decide (x = n) := by rw [hx]; rfl
    simp only [Instr.findNow, hx, Instr.sameNow, if_true, List.findIdx?_cons, List.find?_cons]
    rw [← hx, hk]
    by_cases hxn : x = n
    · subst hxn; simp
    · have : ¬ n = x := fun h => hxn h.symm
      have e1 : (n == x) = false := by simp [this]
      simp only [e1, hxn, decide_false, Bool.false_eq_true, if_false]
      rw [ih (i + 1) (fun e he => h e (by simp [he]))]
      cases es.findIdx? fun e => isKey n e.key with
      | none => rfl
      | some j => simp [Nat.add_assoc, Nat.add_comm 1 j]

section
variable {P : Program} (w : World)
theorem run_checkKey_int {key : TypeId} {k : IntKind} (h : P.underlying key = some (.int k)) (e : Bool) (n : Int) : (Instr.checkKey e 10000 key (.int k n)).run P w = .ok () w := by
  show (Instr.checkKey e (9999 + 1) key (.int k n)).run P w = .ok () w
  generalize (9999 : Nat) = d
  simp only [Instr.checkKey, Sem.run_bind, run_underlying h, Result.andThen_ok, Sem.run_pure]
theorem run_findKey_int {key : TypeId} {k : IntKind} (h : P.underlying key = some (.int k)) (n : Int) {es : Array MapEntry} (hi : intKeys k es) :
    (Instr.findKey key (.int k n) es.toList).run P w = .ok ((midx es n).bind fun j => (mfind es n).map fun v => (j, v)) w := by
  simp only [Instr.findKey, Sem.run_bind, run_underlying h, Result.andThen_ok, findNow_int k n es.toList 0 hi, Sem.run_pure, midx, mfind, Nat.zero_add, Option.map_map]
  rfl
end

theorem idx_find (p : MapEntry → Bool) : ∀ l : List MapEntry, (l.findIdx? p).isSome = (l.find? p).isSome := by
  intro l
  induction l with
  | nil => rfl
  | cons e l ih =>
    simp only [List.findIdx?_cons, List.find?_cons]
    cases p e <;> simp [ih]
theorem midx_mfind (es : Array MapEntry) (n : Int) : (midx es n).isSome = (mfind es n).isSome := by
  simp only [midx, mfind, Option.isSome_map]
  exact idx_find _ _

def hGet (k : IntKind) (r : Option Nat) (n : Int) (K : Option Value → HP → Prop) : HP → Prop := fun m =>
  (r = none ∧ K none m) ∨ ∃ b es clock rr, r = some b ∧ m = pt b (.map es clock) + rr ∧ intKeys k es ∧ K (mfind es n) m

def qLookup (P : Program) (t : TypeId) (x i : Value) (ok : Bool) (K : Value → HP → Prop) : HP → Prop :=
  match P.underlying t, x, i with
  | some (.map key elem), .map r, .int k n =>
    match P.underlying key, aggB P elem, P.underlying elem, zeroB P elem, ok with
    | some (.int k'), false, some d, some z, false => if k = k' then hGet k r n fun o m => ∃ u, o.getD z = (tyScalar d).val u ∧ K ((tyScalar d).val u) m else no
    | some (.int k'), false, some d, some z, true => if k = k' then hGet k r n fun o m => ∃ u, o.getD z = (tyScalar d).val u ∧ K (.tuple #[(tyScalar d).val u, .bool o.isSome]) m else no
    | _, _, _, _, _ => no
  | _, _, _ => no

theorem qLookup_sound {P : Program} {t : TypeId} {x i : Value} {ok : Bool} {K : Value → HP → Prop} {m : HP} (h : qLookup P t x i ok K m) : ∃ v, Yv P (Instr.lookup t x i ok) m v ∧ K v m := by
  unfold qLookup at h
  generalize hu : P.underlying t = u at h
  split at h
  case h_2 => exact h.elim
  case h_1 key elem r k n =>
  generalize hk : P.underlying key = uk at h
  generalize hag : aggB P elem = g at h
  generalize hel : P.underlying elem = ue at h
  generalize hz : zeroB P elem = z at h
  have key : ∀ (z : Value) (k' : IntKind) (hk : P.underlying key = some (.int k')) (hz : zeroB P elem = some z), k = k' → ∀ (K' : Option Value → HP → Prop), hGet k r n K' m →
      ∃ o : Option Value, (∀ w, Holds w m → (Instr.lookup t (.map r) (.int k n) ok).run P w = .ok (if ok then .tuple #[o.getD z, .bool o.isSome] else o.getD z) w) ∧ K' o m := by
    intro z k' hk hz hkk K' hg
    subst hkk
    rcases hg with ⟨rfl, hK⟩ | ⟨b, es, clock, rr, rfl, rfl, hi, hK⟩
    · refine ⟨none, fun w _ => ?_, hK⟩
      have hf : (Instr.findKey key (.int k n) ([] : List MapEntry)).run P w = .ok none w := by
        simpa [midx] using run_findKey_int (P := P) w hk n (es := #[]) (by intro e he; simp at he)
      simp [Instr.lookup, run_underlying hu, run_checkKey_int w hk, hf, run_zeroB w hz]
    · refine ⟨mfind es n, fun w hw => ?_, hK⟩
      have hg := hw.get.1
      have hget : (getObj b).run P w = .ok (.map es clock) w := by simp [getObj, Sem.run, hg]
      have hf := run_findKey_int (P := P) w hk n hi
      simp only [Instr.lookup, Sem.run_bind, run_underlying hu, Result.andThen_ok, hget, Sem.run_pure, run_checkKey_int w hk, hf]
      have hmm := midx_mfind es n
      cases h1 : midx es n with
      | none =>
        rw [h1] at hmm
        have h2 : mfind es n = none := by simpa using hmm.symm
        cases ok <;> simp [h2, run_zeroB w hz]
      | some j =>
        rw [h1] at hmm
        obtain ⟨v, h2⟩ := Option.isSome_iff_exists.1 (by simpa using hmm.symm : (mfind es n).isSome = true)
        cases ok <;> simp [h2]
  split at h
  case h_3 => exact h.elim
  case h_1 k' d z =>
    split at h
    case isFalse => exact h.elim
    case isTrue hkk =>
    obtain ⟨o, h1, u, h2, h3⟩ := key z k' hk hz hkk _ h
    exact ⟨_, fun w hw => by have := h1 w hw; simpa [h2] using this, h3⟩
  case h_2 k' d z =>
    split at h
    case isFalse => exact h.elim
    case isTrue hkk =>
    obtain ⟨o, h1, u, h2, h3⟩ := key z k' hk hz hkk _ h
    exact ⟨_, fun w hw => by have := h1 w hw; simpa [h2] using this, h3⟩

def hNewMap (K : Nat → HP → Prop) : HP → Prop := fun m => ∀ b, K b (pt b (.map #[] 0) + m)
def lMakeMap (K : Value → HP → Prop) : HP → Prop := hNewMap fun b => K (.map (some b))
theorem lMakeMap_sound {P : Program} {t : TypeId} {K : Value → HP → Prop} {m : HP} (h : lMakeMap K m) : Wv P (Instr.makeMap t none) K m := by
  intro w hw
  exact ⟨_, _, _, by simp [Instr.makeMap], hw.push _, h w.heap.size⟩

def hPut (k : IntKind) (r : Option Nat) (n : Int) (v : Value) (K : HP → Prop) : HP → Prop := fun m =>
  ∃ b es clock rr, r = some b ∧ m = pt b (.map es clock) + rr ∧ intKeys k es ∧ K (pt b (.map (mput es clock k n v).1 (mput es clock k n v).2) + rr)

def lMapUpdate (P : Program) (t : TypeId) (x i v : Value) (K : HP → Prop) : HP → Prop :=
  match P.underlying t, x, i with
  | some (.map key _), .map r, .int k n =>
    match P.underlying key with
    | some (.int k') => if k = k' then hPut k r n v K else no
    | _ => no
  | _, _, _ => no

theorem mfind_key {k : IntKind} {es : Array MapEntry} (hi : intKeys k es) {n : Int} {i : Nat} (h : midx es n = some i) : ∃ e, es[i]? = some e ∧ e.key = .int k n := by
  simp only [midx, List.findIdx?_eq_some_iff_getElem] at h
  obtain ⟨hlt, hp, _⟩ := h
  obtain ⟨x, hx⟩ := hi es.toList[i] (List.getElem_mem _)
  rw [hx] at hp
  simp only [isKey, decide_eq_true_eq] at hp
  subst hp
  exact ⟨es.toList[i], by simp at hlt; simp [hlt], hx⟩

theorem lMapUpdate_sound {P : Program} {t : TypeId} {x i v : Value} {K : HP → Prop} {m : HP} (h : lMapUpdate P t x i v K m) : Wu P (Instr.mapUpdate t x i v) K m := by
  unfold lMapUpdate at h
  generalize hu : P.underlying t = u at h
  split at h
  case h_2 => exact h.elim
  case h_1 key elem r k n =>
  generalize hk : P.underlying key = uk at h
  split at h
  case h_2 => exact h.elim
  case h_1 k' =>
  split at h
  case isFalse => exact h.elim
  case isTrue hkk =>
  subst hkk
  obtain ⟨b, es, clock, rr, rfl, rfl, hi, hK⟩ := h
  intro w hw
  have hg := hw.get.1
  have hget : (getObj b).run P w = .ok (.map es clock) w := by simp [getObj, Sem.run, hg]
  have hset : ∀ o, (setObj b o).run P w = .ok () { w with heap := w.heap.setIfInBounds b o } := fun o => by simp [setObj, Sem.run, hg]
  have hf := run_findKey_int (P := P) w hk n hi
  have hmm := midx_mfind es n
  cases h1 : midx es n with
  | none =>
    rw [h1] at hmm
    have h2 : mfind es n = none := by simpa using hmm.symm
    refine ⟨_, _, ?_, hw.setObj, hK⟩
    simp [Instr.mapUpdate, run_underlying hu, hget, run_checkKey_int w hk, hf, h1, hset, mput]
  | some j =>
    rw [h1] at hmm
    obtain ⟨v', h2⟩ := Option.isSome_iff_exists.1 (by simpa using hmm.symm : (mfind es n).isSome = true)
    obtain ⟨e, he, hek⟩ := mfind_key hi h1
    have hstay : (Instr.keyThatStays (.int k n) (.int k n)).run P w = .ok (.int k n) w := by
      show (Instr.keyThatStays (.int k n) (.int k n)).run P w = _
      simp [Instr.keyThatStays, Instr.sameBits]
    refine ⟨_, _, ?_, hw.setObj, hK⟩
    simp [Instr.mapUpdate, run_underlying hu, hget, run_checkKey_int w hk, hf, h1, h2, hset, mput, he, hek, hstay]

def hDel (k : IntKind) (r : Option Nat) (n : Int) (K : HP → Prop) : HP → Prop := fun m =>
  ∃ b es clock rr, r = some b ∧ m = pt b (.map es clock) + rr ∧ intKeys k es ∧ K (pt b (.map (mdel es n) clock) + rr)

def lDelete (P : Program) (ts : Array TypeId) (args : List Value) (K : Value → HP → Prop) : HP → Prop :=
  match ts[0]?, args with
  | some t, [.map r, .int k n] =>
    match P.underlying t with
    | some (.map key _) =>
      match P.underlying key with
      | some (.int k') => if k = k' then hDel k r n (K (.tuple #[])) else no
      | _ => no
    | _ => no
  | _, _ => no

theorem lDelete_sound {P : Program} {ts : Array TypeId} {ty : TypeId} {args : Array Value} {K : Value → HP → Prop} {m : HP} (h : lDelete P ts args.toList K m) :
    Wv P (Builtin.delete_ ts ty args) K m := by
  unfold lDelete at h
  generalize h0 : ts[0]? = o0 at h
  generalize ha : args.toList = l at h
  split at h
  case h_2 => exact h.elim
  case h_1 t r k n =>
  generalize hu : P.underlying t = u at h
  split at h
  case h_2 => exact h.elim
  case h_1 key elem =>
  generalize hk : P.underlying key = uk at h
  split at h
  case h_2 => exact h.elim
  case h_1 k' =>
  split at h
  case isFalse => exact h.elim
  case isTrue hkk =>
  subst hkk
  obtain ⟨b, es, clock, rr, rfl, rfl, hi, hK⟩ := h
  intro w hw
  have ha0 : args[0]? = some (.map (some b)) := by rw [← Array.getElem?_toList, ha]; rfl
  have ha1 : args[1]? = some (.int k n) := by rw [← Array.getElem?_toList, ha]; rfl
  have hg := hw.get.1
  have hget : (getObj b).run P w = .ok (.map es clock) w := by simp [getObj, Sem.run, hg]
  have hset : ∀ o, (setObj b o).run P w = .ok () { w with heap := w.heap.setIfInBounds b o } := fun o => by simp [setObj, Sem.run, hg]
  have hf := run_findKey_int (P := P) w hk n hi
  have hmm := midx_mfind es n
  refine ⟨_, _, _, ?_, hw.setObj, hK⟩
  cases h1 : midx es n with
  | none => simp [Builtin.delete_, h0, ha0, ha1, run_underlying hu, hget, run_checkKey_int w hk, hf, h1, hset, mdel]
  | some j =>
    rw [h1] at hmm
    obtain ⟨v', h2⟩ := Option.isSome_iff_exists.1 (by simpa using hmm.symm : (mfind es n).isSome = true)
    simp [Builtin.delete_, h0, ha0, ha1, run_underlying hu, hget, run_checkKey_int w hk, hf, h1, h2, hset, mdel]

end Go.Hp
/- One operation, and a region in the order of its text, over heaplets. Own work; nothing of any program. -/
namespace Go.Hp
open Go

/-- A temporary's value; 'lit': known to be this bool. -/
structure EV where
  v : Value
  lit : Option Bool

def EV.ok (e : EV) : Prop := ∀ b, e.lit = some b → e.v = .bool b

def litOf : Value → Option Bool
  | .bool b => some b
  | _ => none

def evE (s : Nat → EV) : Operand → EV
  | .tmp t => s t
  | .const v => ⟨v, litOf v⟩
  | .global g => ⟨.pointer (some ⟨g, 0, none⟩), none⟩
  | .func f => ⟨.func (.func f) #[] #[], none⟩

theorem evE_ok {s : Nat → EV} (h : ∀ t, (s t).ok) (x : Operand) : (evE s x).ok := by
  cases x with
  | tmp t => exact h t
  | const v => intro b hb; cases v <;> simp_all [evE, litOf]
  | global g => intro b hb; simp [evE] at hb
  | func f => intro b hb; simp [evE] at hb

/-! ### One operation -/
def isQuiet : Op → Bool
  | .move _ | .assign _ | .pick .. | .build .. | .load .. | .nilCheck _ | .binOp .. | .unOp .. | .convert .. | .slice .. | .fieldAddr .. | .field .. | .indexAddr .. | .index ..
  | .lookup .. | .extract .. | .makeFunc .. => true
  | .call c => match c.callee with | .builtin .len | .builtin .min | .builtin .max => true | _ => false
  | _ => false

/-- Does its value hang on memory? -/
def isHeapy (P : Program) : Op → Bool
  | .load .. | .lookup .. => true
  | .convert s _ _ => match P.underlying s with | some (.slice _) => true | _ => false
  | _ => false

def qExtract (x : Value) (i : Nat) (K : Value → HP → Prop) : HP → Prop :=
  match x with
  | .tuple vs => match vs[i]? with | some v => K v | none => no
  | _ => no

def denQ (P : Program) (op : Op) (ρ : Operand → Value) (K : Value → HP → Prop) : HP → Prop :=
  match op with
  | .move x | .assign x => K (ρ x)
  | .build t parts => qBuild P t (parts.map fun (i, x) => (i, ρ x)) K
  | .load t a => qLoad P t (ρ a) K
  | .nilCheck x => qNil (ρ x) K
  | .binOp op t x y _ => qBin P op t x y (ρ x) (ρ y) K
  | .unOp op _ x => qUn op (ρ x) K
  | .convert s d x => qConv P s d (ρ x) K
  | .slice t x lo hi mx => qSlice P t (ρ x) (lo.map ρ) (hi.map ρ) (mx.map ρ) K
  | .fieldAddr s x f => qFieldAddr P s (ρ x) f K
  | .field s x f => qField P s (ρ x) f K
  | .indexAddr t x i => qIndexAddr P t (ρ x) (ρ i) K
  | .index t x i => qIndex P t (ρ x) (ρ i) K
  | .lookup t x i ok => qLookup P t (ρ x) (ρ i) ok K
  | .extract x i => qExtract (ρ x) i K
  | .makeFunc f fs cs => K (.func f (fs.map ρ) (cs.map ρ))
  | .call c =>
    match c.callee with
    | .builtin .len => match c.argTypes[0]?, c.args.toList.map ρ with | some t, [x] => qLen P t x K | _, _ => no
    | .builtin .min => qMin .lss (c.args.toList.map ρ) K
    | .builtin .max => qMin .gtr (c.args.toList.map ρ) K
    | _ => no
  | _ => no

theorem run_v {P : Program} {s : Sem Value} {w w' : World} {v : Value} (h : s.run P w = .ok v w') : (do pure (Next.value (← s)) : Sem Next).run P w = .ok (.value v) w' := by simp [h]

theorem map_toList {α β : Type} (a : Array α) (f : α → β) : (a.map f).toList = a.toList.map f := by simp

theorem minv_run {P : Program} {op : BinOp} (h : op = .lss ∨ op = .gtr) {x y v : Value} (hm : minv op x y = some v) (w : World) :
    ((if op = .lss then Builtin.min2 x y else Builtin.max2 x y : Sem Value)).run P w = .ok v w := by
  unfold minv at hm
  split at hm
  · cases hm; simp [Builtin.min2]
  · cases hm; simp [Builtin.max2]
  · cases hm

theorem denQ_sound {P : Program} {o : Oper} {ρ : Operand → Value} {K : Value → HP → Prop} {m : HP} (h : denQ P o.op ρ K m) :
    ∃ v, (∀ w, Holds w m → (execOp ρ o).run P w = .ok (.value v) w) ∧ K v m := by
  have up : ∀ {s : Sem Value}, (∃ v, Yv P s m v ∧ K v m) → execOp ρ o = (do pure (Next.value (← s)) : Sem Next) → ∃ v, (∀ w, Holds w m → (execOp ρ o).run P w = .ok (.value v) w) ∧ K v m := by
    rintro s ⟨v, hv, hk⟩ e
    exact ⟨v, fun w hw => by rw [e]; exact run_v (hv w hw), hk⟩
  obtain ⟨dst, op, ty, pos, after, guard⟩ := o
  simp only at h
  cases op <;> simp only [denQ] at h <;> try (exact h.elim)
  case move x => exact ⟨_, fun w _ => by simp [execOp], h⟩
  case assign x => exact ⟨_, fun w _ => by simp [execOp], h⟩
  case build t parts => exact up (qBuild_sound h) rfl
  case load t a => exact up (qLoad_sound h) rfl
  case nilCheck x =>
    unfold qNil at h
    generalize hp : ρ x = p at h
    split at h
    · obtain ⟨a, rfl, hk⟩ := h
      exact ⟨_, fun w _ => by simp [execOp, hp], hk⟩
    · exact ⟨_, fun w _ => by simp [execOp, hp], h⟩
    · exact ⟨_, fun w _ => by simp [execOp, hp], h⟩
    · exact h.elim
  case binOp op t x y yt =>
    obtain ⟨v, hv, hk⟩ := qBin_sound h
    exact up ⟨v, fun w _ => hv w, hk⟩ rfl
  case unOp op t x =>
    unfold qUn at h
    generalize hx : ρ x = p at h
    split at h
    · exact ⟨_, fun w _ => by simp [execOp, hx, Op.unary, Op.intArith], h⟩
    · exact ⟨_, fun w _ => by simp [execOp, hx, Op.unary, intBits_eq], h⟩
    · exact ⟨_, fun w _ => by simp [execOp, hx, Op.unary], h⟩
    · exact h.elim
  case convert s d x => exact up (qConv_sound h) rfl
  case slice t x lo hi mx => exact up (qSlice_sound h) rfl
  case fieldAddr s x f => exact up (qFieldAddr_sound h) rfl
  case field s x f => exact up (qField_sound h) rfl
  case indexAddr t x i => exact up (qIndexAddr_sound h) rfl
  case index t x i => exact up (qIndex_sound h) rfl
  case lookup t x i ok => exact up (qLookup_sound h) rfl
  case extract x i =>
    unfold qExtract at h
    generalize hx : ρ x = p at h
    split at h
    · rename_i vs
      generalize hv : vs[i]? = vv at h
      split at h
      · exact ⟨_, fun w _ => by simp [execOp, hx, Instr.extract, hv], h⟩
      · exact h.elim
    · exact h.elim
  case makeFunc f fs cs => exact ⟨_, fun w _ => by simp [execOp, Instr.makeFunc], h⟩
  case call c =>
    obtain ⟨callee, args, ats⟩ := c
    simp only at h
    split at h
    · -- len
      generalize h0 : ats[0]? = o0 at h
      generalize ha : args.toList.map ρ = l at h
      split at h
      · rename_i t x
        have ha' : (args.map ρ)[0]? = some x := by rw [← Array.getElem?_toList, map_toList, ha]; rfl
        unfold qLen at h
        generalize hu : P.underlying t = u at h
        split at h <;> first
          | exact h.elim
          | (refine ⟨_, fun w _ => ?_, h⟩
             simp [execOp, resolve, invoke, builtin, Builtin.len_, h0, ha', run_underlying hu, goInt])
      · exact h.elim
    · -- min
      unfold qMin at h
      generalize ha : args.toList.map ρ = l at h
      split at h
      · exact ⟨_, fun w _ => by simp [execOp, resolve, invoke, builtin, Builtin.min_, ha], h⟩
      · rename_i x y
        generalize hm : minv .lss x y = z at h
        split at h
        · have := fun w => minv_run (P := P) (.inl rfl) hm w
          simp only [if_true] at this
          exact ⟨_, fun w _ => by simp [execOp, resolve, invoke, builtin, Builtin.min_, ha, this], h⟩
        · exact h.elim
      · rename_i x y z
        generalize hm : minv .lss x y = z1 at h
        split at h
        · rename_i v1
          generalize hm2 : minv .lss v1 z = z2 at h
          split at h
          · have h1 := fun w => minv_run (P := P) (.inl rfl) hm w
            have h2 := fun w => minv_run (P := P) (.inl rfl) hm2 w
            simp only [if_true] at h1 h2
            exact ⟨_, fun w _ => by simp [execOp, resolve, invoke, builtin, Builtin.min_, ha, h1, h2], h⟩
          · exact h.elim
        · exact h.elim
      · exact h.elim
    · -- max
      unfold qMin at h
      generalize ha : args.toList.map ρ = l at h
      split at h
      · exact ⟨_, fun w _ => by simp [execOp, resolve, invoke, builtin, Builtin.max_, ha], h⟩
      · rename_i x y
        generalize hm : minv .gtr x y = z at h
        split at h
        · have := fun w => minv_run (P := P) (.inr rfl) hm w
          simp only [reduceCtorEq, if_false] at this
          exact ⟨_, fun w _ => by simp [execOp, resolve, invoke, builtin, Builtin.max_, ha, this], h⟩
        · exact h.elim
      · rename_i x y z
        generalize hm : minv .gtr x y = z1 at h
        split at h
        · rename_i v1
          generalize hm2 : minv .gtr v1 z = z2 at h
          split at h
          · have h1 := fun w => minv_run (P := P) (.inr rfl) hm w
            have h2 := fun w => minv_run (P := P) (.inr rfl) hm2 w
            simp only [reduceCtorEq, if_false] at h1 h2
            exact ⟨_, fun w _ => by simp [execOp, resolve, invoke, builtin, Builtin.max_, ha, h1, h2], h⟩
          · exact h.elim
        · exact h.elim
      · exact h.elim
    · exact h.elim

/-! A value that does not hang on memory can be had of the empty heaplet. -/
theorem denQ_shift {P : Program} {op : Op} (hh : isHeapy P op = false) {ρ : Operand → Value} {K : Value → HP → Prop} {m : HP} (h : denQ P op ρ K m) :
    denQ P op ρ (fun v _ => K v m) 0 := by
  cases op <;> simp only [denQ] at h ⊢ <;> try (first | exact h | (simp [isHeapy] at hh; done))
  case build t parts => unfold qBuild at h ⊢; generalize buildCells P t _ = c at h ⊢; split at h <;> first | exact h | exact h.elim
  case nilCheck x => unfold qNil at h ⊢; generalize ρ x = p at h ⊢; split at h <;> first | exact h | exact h.elim
  case binOp op t x y yt =>
    unfold qBin at h ⊢
    generalize ρ x = p at h ⊢
    generalize ρ y = q at h ⊢
    split at h
    case h_1 => exact h
    unfold qBin0 at h ⊢
    split at h
    · rename_i k _ k' _ _
      by_cases hk : k = k'
      · cases op <;> simp only [hk, if_true] at h ⊢ <;> exact h
      · cases op <;> simp only [hk, if_false] at h ⊢ <;> first | exact h | exact h.elim
    · cases op <;> first | exact h | exact h.elim
    all_goals first
      | (generalize hu : P.underlying t = u at h ⊢; split at h <;> first | exact h | exact h.elim)
      | (cases op <;> first | exact h | exact h.elim)
      | exact h.elim
  case unOp op t x => unfold qUn at h ⊢; generalize ρ x = p at h ⊢; split at h <;> first | exact h | exact h.elim
  case convert s d x =>
    unfold qConv at h ⊢
    generalize ρ x = p at h ⊢
    split at h
    · generalize P.underlying s = u at h ⊢
      generalize P.underlying d = u2 at h ⊢
      split at h <;> first | exact h | exact h.elim
    · generalize P.underlying s = u at h ⊢
      generalize P.underlying d = u2 at h ⊢
      split at h <;> first | exact h | exact h.elim
    · simp only [isHeapy] at hh
      generalize P.underlying s = u at h hh ⊢
      generalize P.underlying d = u2 at h ⊢
      split at h
      · simp at hh
      · exact h.elim
    · exact h.elim
  case slice t x lo hi mx =>
    unfold qSlice at h ⊢
    generalize mx.map ρ = mx' at h ⊢
    generalize lo.map ρ = lo' at h ⊢
    generalize hi.map ρ = hi' at h ⊢
    generalize ρ x = p at h ⊢
    split at h
    · exact h.elim
    · generalize P.underlying t = u at h ⊢
      split at h
      · rename_i e _ _ _
        generalize sizeB P e = ss at h ⊢
        split at h
        · split at h <;> first | exact h | exact h.elim
        · exact h.elim
      · exact h.elim
  case fieldAddr s x f =>
    unfold qFieldAddr at h ⊢
    generalize ρ x = p at h ⊢
    generalize fieldOff P s f = oo at h ⊢
    split at h <;> first | exact h | exact h.elim
  case field s x f =>
    unfold qField at h ⊢
    generalize ρ x = p at h ⊢
    generalize P.underlying s = u at h ⊢
    split at h
    · rename_i cs fs
      generalize fs[f]? = ff at h ⊢
      split at h
      · rename_i fl
        unfold qPart at h ⊢
        generalize aggB P fl.type = g at h ⊢
        generalize P.underlying fl.type = u2 at h ⊢
        split at h
        · generalize sizeB P fl.type = ss at h ⊢
          split at h <;> first | exact h | exact h.elim
        · generalize cs[fl.offset]? = vv at h ⊢
          split at h <;> first | exact h | exact h.elim
        · exact h.elim
      · exact h.elim
    · exact h.elim
  case indexAddr t x i =>
    unfold qIndexAddr at h ⊢
    generalize ρ x = p at h ⊢
    generalize ρ i = q at h ⊢
    split at h
    · generalize P.underlying t = u at h ⊢
      split at h
      · rename_i e _ _ _
        generalize sizeB P e = ss at h ⊢
        split at h <;> first | exact h | exact h.elim
      · rename_i e _
        generalize sizeB P e = ss at h ⊢
        split at h <;> first | exact h | exact h.elim
      · exact h.elim
    · exact h.elim
  case index t x i =>
    unfold qIndex at h ⊢
    generalize ρ x = p at h ⊢
    generalize ρ i = q at h ⊢
    split at h
    · generalize P.underlying t = u at h ⊢
      split at h
      · exact h
      · rename_i e _
        generalize aggB P e = g at h ⊢
        generalize P.underlying e = u2 at h ⊢
        generalize sizeB P e = ss at h ⊢
        split at h <;> first | exact h | exact h.elim
      · exact h.elim
    · exact h.elim
  case extract x i =>
    unfold qExtract at h ⊢
    generalize ρ x = p at h ⊢
    split at h
    · rename_i vs
      generalize vs[i]? = vv at h ⊢
      split at h <;> first | exact h | exact h.elim
    · exact h.elim
  case call c =>
    obtain ⟨callee, args, ats⟩ := c
    simp only at h ⊢
    split at h
    · generalize ats[0]? = o0 at h ⊢
      generalize args.toList.map ρ = l at h ⊢
      split at h
      · rename_i t x
        unfold qLen at h ⊢
        generalize P.underlying t = u at h ⊢
        split at h <;> first | exact h | exact h.elim
      · exact h.elim
    · unfold qMin at h ⊢
      generalize args.toList.map ρ = l at h ⊢
      split at h
      · exact h
      · rename_i x y
        generalize minv .lss x y = z at h ⊢
        split at h <;> first | exact h | exact h.elim
      · rename_i x y z
        generalize minv .lss x y = z1 at h ⊢
        split at h
        · rename_i v1
          generalize minv .lss v1 z = z2 at h ⊢
          split at h <;> first | exact h | exact h.elim
        · exact h.elim
      · exact h.elim
    · unfold qMin at h ⊢
      generalize args.toList.map ρ = l at h ⊢
      split at h
      · exact h
      · rename_i x y
        generalize minv .gtr x y = z at h ⊢
        split at h <;> first | exact h | exact h.elim
      · rename_i x y z
        generalize minv .gtr x y = z1 at h ⊢
        split at h
        · rename_i v1
          generalize minv .gtr v1 z = z2 at h ⊢
          split at h <;> first | exact h | exact h.elim
        · exact h.elim
      · exact h.elim
    · exact h.elim

end Go.Hp
/- Operations and regions over heaplets: the predicate, and that it is sound, in the order of the text and in every order that a region allows. Own work; nothing of any program. -/
namespace Go.Hp
open Go

/-- The fences used here: every function, any depth. -/
def FW (ro : Option Nat) : Fence := { fn := fun _ => True, depth := none, alive := false, round := ro }

theorem callsIn_FW {ro : Option Nat} {n : Nat} {P : Program} {f : FuncId} {args : Array Value} {w : World} {R : Ending → World → Prop} (h : Calls P f args w R) : CallsIn (FW ro) n P f args w R :=
  (callsIn_wide (n := n)).2 h

/-- A call of a loop's body: from whatever world that holds m. -/
def HYield (P : Program) (l : Nat) (args : Array Value) (m : HP) (R : Ending → HP → Prop) : Prop :=
  ∀ w, Holds w m → ∃ f tmps assign body, (Instr.yield l args).run P w = .ok (.round l f tmps assign body) w ∧
    ∀ n, RoundIn (FW none) n P l f tmps assign body w fun e w' => ∃ m', Holds w' m' ∧ R e m'

theorem HYield.mono {P : Program} {l : Nat} {args : Array Value} {m : HP} {R R' : Ending → HP → Prop} (h : HYield P l args m R) (hr : ∀ e m', R e m' → R' e m') : HYield P l args m R' := by
  intro w hw
  obtain ⟨f, tmps, assign, body, h1, h2⟩ := h w hw
  exact ⟨f, tmps, assign, body, h1, fun n => (h2 n).mono fun e w' ⟨m', g1, g2⟩ => ⟨m', g1, hr _ _ g2⟩⟩

/-- What an operation's run must come to. -/
def OpIn (P : Program) (K : Value → HP → Prop) (X : List PanicEntry → HP → Prop) : Result Next → Prop
  | .ok (.value v) w' => ∃ m', Holds w' m' ∧ K v m'
  | .ok .skip w' => ∃ m', Holds w' m' ∧ K undef m'
  | .ok (.enter f args) w' => ∃ m', Holds w' m' ∧ HCalls P f args m' (retX K X)
  | .ok (.round l f tmps assign body) w' => ∀ n, RoundIn (FW none) n P l f tmps assign body w' fun e w'' => ∃ m', Holds w'' m' ∧ retX K X e m'
  | .halt (.panic v) w' => ∃ m', Holds w' m' ∧ X [{ v, recovered := false }] m'
  | _ => False

theorem OpIn.upon {P : Program} {K : Value → HP → Prop} {X : List PanicEntry → HP → Prop} {r : Result Next} (h : OpIn P K X r) {ro : Option Nat} {n : Nat} {o : Oper} {a : Act}
    {next : Act → World → Prop} {Q : Exit → Act → World → Prop} (hn : ∀ v w' m', Holds w' m' → K v m' → next (a.put o.dst v) w')
    (hx : ∀ c w' m', Holds w' m' → X c m' → Q (.panic c) a w') : o.uponIn (FW ro) n P a next Q r := by
  cases r with
  | ok x w' =>
    cases x <;> simp only [OpIn] at h <;> try (exact h.elim)
    case value v => obtain ⟨m', h1, h2⟩ := h; exact hn _ _ _ h1 h2
    case skip => obtain ⟨m', h1, h2⟩ := h; exact hn _ _ _ h1 h2
    case enter f args =>
      obtain ⟨m', h1, h2⟩ := h
      refine ⟨by simp [FW], callsIn_FW ((h2 w' h1).mono ?_)⟩
      rintro e w'' ⟨m'', g1, g2⟩
      cases e with
      | returned v => exact hn _ _ _ g1 g2
      | panicked c => exact hx _ _ _ g1 g2
      | outgrown => exact g2.elim
    case round l f tmps assign body =>
      refine ⟨by simp [FW], RoundIn.mono (h (n - 1)) ?_⟩
      rintro e w'' ⟨m'', g1, g2⟩
      cases e with
      | returned v => exact hn _ _ _ g1 g2
      | panicked c => exact hx _ _ _ g1 g2
      | outgrown => exact g2.elim
  | halt x w' =>
    cases x <;> simp only [OpIn] at h <;> try (exact h.elim)
    case panic v => obtain ⟨m', h1, h2⟩ := h; exact hx _ _ _ h1 h2

/-- Values of these kinds. -/
def exTys : List Ty → (List Value → HP → Prop) → HP → Prop
  | [], K => K []
  | t :: ts, K => fun m => ∃ x : t.T, exTys ts (fun l => K (t.val x :: l)) m
def exTy (P : Program) (t : TypeId) (K : Value → HP → Prop) : HP → Prop :=
  match aggB P t, P.underlying t with
  | true, _ => exTys (flat P 20 t) fun l => K (.agg ⟨l⟩)
  | false, some d => fun m => ∃ x, K ((tyScalar d).val x) m
  | false, none => no
def exTyps (P : Program) : List TypeId → (List Value → HP → Prop) → HP → Prop
  | [], K => K []
  | t :: ts, K => exTy P t fun v => exTyps P ts fun l => K (v :: l)
/-- A result, of the type t: its parts. -/
def tyd (P : Program) (t : TypeId) (v : Value) (K : Value → HP → Prop) : HP → Prop :=
  match P.underlying t with
  | some (.tuple ⟨[]⟩) => K v
  | some (.tuple ts) => exTyps P ts.toList fun vs m => v = .tuple ⟨vs⟩ ∧ K (.tuple ⟨vs⟩) m
  | _ => exTy P t fun u m => v = u ∧ K u m

theorem exTys_sound {ts : List Ty} : ∀ {K : List Value → HP → Prop} {m : HP}, exTys ts K m → ∃ l, K l m := by
  induction ts with
  | nil => intro K m h; exact ⟨[], h⟩
  | cons t ts ih => intro K m h; obtain ⟨x, h⟩ := h; obtain ⟨l, h⟩ := ih h; exact ⟨_, h⟩
theorem exTy_sound {P : Program} {t : TypeId} {K : Value → HP → Prop} {m : HP} (h : exTy P t K m) : ∃ v, K v m := by
  unfold exTy at h
  generalize aggB P t = g at h
  generalize P.underlying t = u at h
  split at h
  · obtain ⟨l, h⟩ := exTys_sound h; exact ⟨_, h⟩
  · obtain ⟨x, h⟩ := h; exact ⟨_, h⟩
  · exact h.elim
theorem exTyps_sound {P : Program} {ts : List TypeId} : ∀ {K : List Value → HP → Prop} {m : HP}, exTyps P ts K m → ∃ l, K l m := by
  induction ts with
  | nil => intro K m h; exact ⟨[], h⟩
  | cons t ts ih => intro K m h; obtain ⟨v, h⟩ := exTy_sound h; obtain ⟨l, h⟩ := ih h; exact ⟨_, h⟩
theorem tyd_sound {P : Program} {t : TypeId} {v : Value} {K : Value → HP → Prop} {m : HP} (h : tyd P t v K m) : K v m := by
  unfold tyd at h
  generalize P.underlying t = u at h
  split at h
  · exact h
  · obtain ⟨l, h1, h2⟩ := exTyps_sound h; rw [h1]; exact h2
  · obtain ⟨l, h1, h2⟩ := exTy_sound h; rw [h1]; exact h2

def hCall (P : Program) (f : FuncId) (args : Array Value) (X : List PanicEntry → HP → Prop) (K : Value → HP → Prop) : HP → Prop := fun m => Does P f args m (retX K X)
def hYield (P : Program) (l : Nat) (args : Array Value) (X : List PanicEntry → HP → Prop) (K : Value → HP → Prop) : HP → Prop := fun m => HYield P l args m (retX K X)

def lCall (P : Program) (ty : TypeId) (fv : Value) (args : List Value) (K : Value → HP → Prop) (X : List PanicEntry → HP → Prop) : HP → Prop :=
  match fv with
  | .func (.func f) fs cs => hCall P f ⟨fs.toList ++ args ++ cs.toList⟩ X fun v => tyd P ty v K
  | .func (.yield l) fs _ => hYield P l ⟨fs.toList ++ args⟩ X fun v => tyd P ty v K
  | _ => no

theorem retX_tyd {P : Program} {ty : TypeId} {K : Value → HP → Prop} {X : List PanicEntry → HP → Prop} (e : Ending) (m : HP) (h : retX (fun v => tyd P ty v K) X e m) : retX K X e m := by
  cases e <;> first | exact tyd_sound h | exact h

def denL (P : Program) (ty : TypeId) (op : Op) (ρ : Operand → Value) (K : Value → HP → Prop) (X : List PanicEntry → HP → Prop) : HP → Prop :=
  match op with
  | .alloc t => lAlloc P t K
  | .box t x => lBox t (ρ x) K
  | .buildSlice t n parts => lBuildSlice P t n (parts.map fun (i, x) => (i, ρ x)) K
  | .store t a x => lStore P t (ρ a) (ρ x) (K undef)
  | .makeSlice t l c => lMake P t (ρ l) (ρ c) K
  | .makeMap _ none => lMakeMap K
  | .mapUpdate t mp k x => lMapUpdate P t (ρ mp) (ρ k) (ρ x) (K undef)
  | .panic x => match ρ x with | .iface t v => X [{ v := .iface t v, recovered := false }] | _ => no
  | .call c =>
    match c.callee with
    | .builtin .append => lAppend P c.argTypes (c.args.toList.map ρ) K
    | .builtin .delete => lDelete P c.argTypes (c.args.toList.map ρ) K
    | .value f => lCall P ty (ρ f) (c.args.toList.map ρ) K X
    | _ => no
  | _ => no

theorem denL_sound {P : Program} {o : Oper} {ρ : Operand → Value} {K : Value → HP → Prop} {X : List PanicEntry → HP → Prop} {m : HP} (h : denL P o.type o.op ρ K X m) {w : World} (hw : Holds w m) :
    OpIn P K X ((execOp ρ o).run P w) := by
  have wv : ∀ {s : Sem Value}, Wv P s K m → execOp ρ o = (do pure (Next.value (← s)) : Sem Next) → OpIn P K X ((execOp ρ o).run P w) := by
    intro s hs e
    obtain ⟨v, w', m', h1, h2, h3⟩ := hs w hw
    rw [e, run_v h1]
    exact ⟨m', h2, h3⟩
  have wu : ∀ {s : Sem Unit}, Wu P s (K undef) m → execOp ρ o = (do s; pure Next.skip : Sem Next) → OpIn P K X ((execOp ρ o).run P w) := by
    intro s hs e
    obtain ⟨w', m', h1, h2, h3⟩ := hs w hw
    rw [e]
    simp only [Sem.run_bind, h1, Result.andThen_ok, Sem.run_pure]
    exact ⟨m', h2, h3⟩
  obtain ⟨dst, op, ty, pos, after, guard⟩ := o
  simp only at h
  cases op <;> simp only [denL] at h <;> try (exact h.elim)
  case alloc t => exact wv (lAlloc_sound h) rfl
  case box t x => exact wv (lBox_sound h) rfl
  case buildSlice t n parts => exact wv (lBuildSlice_sound h) rfl
  case store t a x => exact wu (lStore_sound h) rfl
  case makeSlice t l c => exact wv (lMake_sound h) rfl
  case makeMap t r =>
    cases r with
    | none => exact wv (lMakeMap_sound h) rfl
    | some r => exact h.elim
  case mapUpdate t mp k x => exact wu (lMapUpdate_sound h) rfl
  case panic x =>
    generalize hx : ρ x = p at h
    split at h
    · rename_i t v
      have e : (execOp ρ { dst, op := .panic x, type := ty, pos, after, guard }).run P w = .halt (.panic (.iface t v)) w := by simp [execOp, hx, Instr.panic]
      rw [e]; exact ⟨m, hw, h⟩
    · exact h.elim
  case call c =>
    obtain ⟨callee, args, ats⟩ := c
    simp only at h
    split at h
    · refine wv (lAppend_sound (ty := ty) (args := args.map ρ) (ts := ats) ?_) rfl
      rw [map_toList]; exact h
    · refine wv (lDelete_sound (ty := ty) (args := args.map ρ) (ts := ats) ?_) rfl
      rw [map_toList]; exact h
    · rename_i f
      unfold lCall at h
      generalize hf : ρ f = fv at h
      split at h
      · rename_i g fs cs
        have e : (execOp ρ { dst, op := .call { callee := .value f, args, argTypes := ats }, type := ty, pos, after, guard }).run P w = .ok (.enter g ⟨fs.toList ++ args.toList.map ρ ++ cs.toList⟩) w := by
          have : (fs ++ args.map ρ ++ cs) = ⟨fs.toList ++ args.toList.map ρ ++ cs.toList⟩ := by apply Array.ext'; simp
          rw [← this]
          simp only [execOp, resolve, hf, Deferred.ofValue, invoke, Sem.run_bind, Sem.run_pure, Result.andThen_ok]
          exact h.1 _ w
        rw [e]; exact ⟨m, hw, (Does.mono h retX_tyd).2⟩
      · rename_i l fs cs
        obtain ⟨f', tmps, assign, body, h1, h2⟩ := (HYield.mono h retX_tyd) w hw
        have e : (execOp ρ { dst, op := .call { callee := .value f, args, argTypes := ats }, type := ty, pos, after, guard }).run P w = .ok (.round l f' tmps assign body) w := by
          have : (fs ++ args.map ρ) = ⟨fs.toList ++ args.toList.map ρ⟩ := by apply Array.ext'; simp
          rw [← this] at h1
          simp only [execOp, resolve, hf, Deferred.ofValue, invoke, Sem.run_bind, Sem.run_pure, Result.andThen_ok]
          exact h1
        rw [e]; exact h2
      · exact h.elim
    · exact h.elim

/-- One operation, in the temporaries' state s. -/
def denOne (P : Program) (ty : TypeId) (op : Op) (s : Nat → EV) (K : EV → HP → Prop) (X : List PanicEntry → HP → Prop) : HP → Prop :=
  match op with
  | .move x => K (evE s x)
  | .assign x => K (evE s x)
  | .pick c a b =>
    match (evE s c).lit with
    | some true => K (evE s a)
    | some false => K (evE s b)
    | none => match (evE s c).v with | .bool x => hIf x (K (evE s a)) (K (evE s b)) | _ => no
  | op =>
    match isQuiet op with
    | true => denQ P op (fun x => (evE s x).v) (fun v => K ⟨v, none⟩)
    | false => denL P ty op (fun x => (evE s x).v) (fun v => K ⟨v, none⟩) X

theorem EV.ok_none (v : Value) : EV.ok ⟨v, none⟩ := fun b h => by cases h

theorem pick_sound {P : Program} {o : Oper} {c x y : Operand} (ho : o.op = .pick c x y) {s : Nat → EV} (hs : ∀ t, (s t).ok) {K : EV → HP → Prop} {m : HP}
    (h : (match (evE s c).lit with
      | some true => K (evE s x)
      | some false => K (evE s y)
      | none => match (evE s c).v with | .bool b => hIf b (K (evE s x)) (K (evE s y)) | _ => no) m) :
    ∃ ev, ev.ok ∧ (∀ w : World, (execOp (fun x => (evE s x).v) o).run P w = .ok (.value ev.v) w) ∧ K ev m := by
  have hc := evE_ok hs c
  have key : ∀ b, (evE s c).v = .bool b → ∀ ev, ev = (if b then evE s x else evE s y) → K ev m → ∃ ev, ev.ok ∧ (∀ w : World, (execOp (fun x => (evE s x).v) o).run P w = .ok (.value ev.v) w) ∧ K ev m := by
    intro b hb ev he hk
    refine ⟨ev, ?_, fun w => ?_, hk⟩
    · rw [he]; split <;> exact evE_ok hs _
    · obtain ⟨dst, op, ty, pos, after, guard⟩ := o
      simp only at ho; subst ho
      cases b <;> simp [execOp, hb, asBool, he]
  generalize hl : (evE s c).lit = l at h
  split at h
  · exact key true (hc _ hl) _ rfl h
  · exact key false (hc _ hl) _ rfl h
  · generalize hv : (evE s c).v = v at h
    split at h
    · rename_i b
      cases b with
      | true => exact key true hv _ rfl (h.1 rfl)
      | false => exact key false hv _ rfl (h.2 rfl)
    · exact h.elim

theorem denOne_quiet {P : Program} {o : Oper} (hq : isQuiet o.op = true) {s : Nat → EV} (hs : ∀ t, (s t).ok) {K : EV → HP → Prop} {X : List PanicEntry → HP → Prop} {m : HP} (h : denOne P o.type o.op s K X m) :
    ∃ ev, ev.ok ∧ (∀ w, Holds w m → (execOp (fun x => (evE s x).v) o).run P w = .ok (.value ev.v) w) ∧ K ev m := by
  have main : denQ P o.op (fun x => (evE s x).v) (fun v => K ⟨v, none⟩) m → ∃ ev, ev.ok ∧ (∀ w, Holds w m → (execOp (fun x => (evE s x).v) o).run P w = .ok (.value ev.v) w) ∧ K ev m := by
    intro hd
    obtain ⟨v, h1, h2⟩ := denQ_sound hd
    exact ⟨⟨v, none⟩, EV.ok_none v, h1, h2⟩
  obtain ⟨dst, op, ty, pos, after, guard⟩ := o
  simp only at h hq main
  cases op with
  | move x => exact ⟨_, evE_ok hs x, fun w _ => by simp [execOp], h⟩
  | assign x => exact ⟨_, evE_ok hs x, fun w _ => by simp [execOp], h⟩
  | pick c a b =>
    obtain ⟨ev, h1, h2, h3⟩ := pick_sound (P := P) (o := { dst, op := .pick c a b, type := ty, pos, after, guard }) rfl hs h
    exact ⟨ev, h1, fun w _ => h2 w, h3⟩
  | _ => unfold denOne at h; simp only [hq] at h; exact main h

theorem denOne_pure {P : Program} {o : Oper} (hq : isQuiet o.op = true) (hh : isHeapy P o.op = false) {s : Nat → EV} (hs : ∀ t, (s t).ok) {K : EV → HP → Prop} {X : List PanicEntry → HP → Prop} {m : HP}
    (h : denOne P o.type o.op s K X m) : ∃ ev, ev.ok ∧ (∀ w : World, (execOp (fun x => (evE s x).v) o).run P w = .ok (.value ev.v) w) ∧ K ev m := by
  have main : denQ P o.op (fun x => (evE s x).v) (fun v => K ⟨v, none⟩) m → ∃ ev, ev.ok ∧ (∀ w : World, (execOp (fun x => (evE s x).v) o).run P w = .ok (.value ev.v) w) ∧ K ev m := by
    intro hd
    obtain ⟨v, h1, h2⟩ := denQ_sound (denQ_shift hh hd)
    exact ⟨⟨v, none⟩, EV.ok_none v, fun w => h1 w (Holds.zero w), h2⟩
  obtain ⟨dst, op, ty, pos, after, guard⟩ := o
  simp only at h hq hh main
  cases op with
  | move x => exact ⟨_, evE_ok hs x, fun w => by simp [execOp], h⟩
  | assign x => exact ⟨_, evE_ok hs x, fun w => by simp [execOp], h⟩
  | pick c a b => exact pick_sound (P := P) (o := { dst, op := .pick c a b, type := ty, pos, after, guard }) rfl hs h
  | _ => unfold denOne at h; simp only [hq] at h; exact main h

theorem exTys_mono {ts : List Ty} : ∀ {K K' : List Value → HP → Prop} {m : HP}, (∀ l m, K l m → K' l m) → exTys ts K m → exTys ts K' m := by
  induction ts with
  | nil => intro K K' m hk h; exact hk _ _ h
  | cons t ts ih => intro K K' m hk ⟨x, h⟩; exact ⟨x, ih (fun l m h => hk _ _ h) h⟩
theorem exTy_mono {P : Program} {t : TypeId} {K K' : Value → HP → Prop} {m : HP} (hk : ∀ v m, K v m → K' v m) (h : exTy P t K m) : exTy P t K' m := by
  unfold exTy at *
  generalize aggB P t = g at h ⊢
  generalize P.underlying t = u at h ⊢
  split at h
  · exact exTys_mono (fun l m h => hk _ _ h) h
  · obtain ⟨x, h⟩ := h; exact ⟨x, hk _ _ h⟩
  · exact h.elim
theorem exTyps_mono {P : Program} {ts : List TypeId} : ∀ {K K' : List Value → HP → Prop} {m : HP}, (∀ l m, K l m → K' l m) → exTyps P ts K m → exTyps P ts K' m := by
  induction ts with
  | nil => intro K K' m hk h; exact hk _ _ h
  | cons t ts ih => intro K K' m hk h; exact exTy_mono (fun v m h => ih (fun l m h => hk _ _ h) h) h
theorem tyd_mono {P : Program} {t : TypeId} {v : Value} {K K' : Value → HP → Prop} {m : HP} (hk : ∀ v m, K v m → K' v m) (h : tyd P t v K m) : tyd P t v K' m := by
  unfold tyd at *
  generalize P.underlying t = u at h ⊢
  split at h
  · exact hk _ _ h
  · exact exTyps_mono (fun l m ⟨h1, h2⟩ => ⟨h1, hk _ _ h2⟩) h
  · exact exTy_mono (fun l m ⟨h1, h2⟩ => ⟨h1, hk _ _ h2⟩) h

theorem denL_mono {P : Program} {o : Oper} {ρ : Operand → Value} {K K' : Value → HP → Prop} {X : List PanicEntry → HP → Prop} {m : HP} (hk : ∀ v m, K v m → K' v m) (hd : denL P o.type o.op ρ K X m) :
    denL P o.type o.op ρ K' X m := by
  obtain ⟨dst, op, ty, pos, after, guard⟩ := o
  simp only at hd ⊢
  have hret : ∀ e m', retX (fun v => tyd P ty v K) X e m' → retX (fun v => tyd P ty v K') X e m' := fun e m' h => by cases e <;> first | exact tyd_mono hk h | exact h
  have hst : ∀ (vs : List Value) (ad : Addr) (i : Nat) (m : HP), hStores vs ad i (K undef) m → hStores vs ad i (K' undef) m := by
    intro vs
    induction vs with
    | nil => intro ad i m h; exact hk _ _ h
    | cons v vs ih =>
      intro ad i m ⟨c, T, fr, r, h1, h2, h3, h4, h5⟩
      exact ⟨c, T, fr, r, h1, h2, h3, h4, ih _ _ _ h5⟩
  cases op <;> simp only [denL] at hd ⊢ <;> try (exact hd.elim)
  case alloc t => unfold lAlloc at hd ⊢; generalize zeroB P t = z at hd ⊢; split at hd <;> first | exact hd.elim | exact fun b => hk _ _ (hd b)
  case box t x => exact fun b => hk _ _ (hd b)
  case buildSlice t n parts =>
    unfold lBuildSlice at hd ⊢; generalize sliceCells P t n _ = z at hd ⊢
    split at hd <;> first | exact hd.elim | exact fun b => hk _ _ (hd b)
  case store t a x =>
    unfold lStore at hd ⊢
    generalize ρ a = p at hd ⊢
    split at hd
    · split at hd
      · rename_i hc; simp only [hc, and_self, if_true]; exact hst _ _ _ _ hd
      · exact hd.elim
    · exact hd.elim
  case makeSlice t l c =>
    unfold lMake at hd ⊢
    generalize P.underlying t = u at hd ⊢
    generalize ρ l = p at hd ⊢
    generalize ρ c = q at hd ⊢
    split at hd
    · rename_i e _ _ _ _
      generalize sizeB P e = s1 at hd ⊢
      generalize bytesB P e = s2 at hd ⊢
      generalize zeroB P e = s3 at hd ⊢
      split at hd
      · obtain ⟨a1, a2, a3, a4, a5⟩ := hd
        exact ⟨a1, a2, a3, a4, fun b => hk _ _ (a5 b)⟩
      · exact hd.elim
    · exact hd.elim
  case makeMap t r => cases r with | none => exact fun b => hk _ _ (hd b) | some r => exact hd.elim
  case mapUpdate t mp k x =>
    unfold lMapUpdate at hd ⊢
    generalize P.underlying t = u at hd ⊢
    generalize ρ mp = p at hd ⊢
    generalize ρ k = q at hd ⊢
    split at hd
    · rename_i key _ _ _ _
      generalize P.underlying key = u2 at hd ⊢
      split at hd
      · split at hd
        · rename_i hc
          subst hc
          simp only [if_true]
          obtain ⟨b, es, clock, rr, h1, h2, h3, h4⟩ := hd
          exact ⟨b, es, clock, rr, h1, h2, h3, hk _ _ h4⟩
        · exact hd.elim
      · exact hd.elim
    · exact hd.elim
  case panic x => exact hd
  case call c =>
    obtain ⟨callee, args, ats⟩ := c
    simp only at hd ⊢
    split at hd
    · unfold lAppend at hd ⊢
      generalize ats[0]? = o0 at hd ⊢
      generalize ats[1]? = o1 at hd ⊢
      generalize List.map _ args.toList = l at hd ⊢
      split at hd
      · rename_i st xt _ _ _ _ _ _
        generalize P.underlying st = u1 at hd ⊢
        generalize P.underlying xt = u2 at hd ⊢
        split at hd
        · rename_i e _
          generalize sizeB P e = s1 at hd ⊢
          generalize bytesB P e = s2 at hd ⊢
          generalize zeroB P e = s3 at hd ⊢
          split at hd
          · obtain ⟨xs, h1, h2, h3, h4, h5⟩ := hd
            refine ⟨xs, h1, h2, h3, fun hle => ?_, fun hlt => ?_⟩
            · rcases h4 hle with ⟨g1, g2⟩ | ⟨ad, g1, c, T, fr, r, g2, g3, g4, g5, g6⟩
              · exact .inl ⟨g1, hk _ _ g2⟩
              · exact .inr ⟨ad, g1, c, T, fr, r, g2, g3, g4, g5, hk _ _ g6⟩
            · obtain ⟨ys, g1, g2, g3, g4, g5⟩ := h5 hlt
              exact ⟨ys, g1, g2, g3, g4, fun cap b hc => hk _ _ (g5 cap b hc)⟩
          · exact hd.elim
        · exact hd.elim
      · exact hd.elim
    · unfold lDelete at hd ⊢
      generalize ats[0]? = o0 at hd ⊢
      generalize List.map _ args.toList = l at hd ⊢
      split at hd
      · rename_i t _ _ _
        generalize P.underlying t = u1 at hd ⊢
        split at hd
        · rename_i key _
          generalize P.underlying key = u2 at hd ⊢
          split at hd
          · split at hd
            · rename_i hc
              subst hc
              simp only [if_true]
              obtain ⟨b, es, clock, rr, h1, h2, h3, h4⟩ := hd
              exact ⟨b, es, clock, rr, h1, h2, h3, hk _ _ h4⟩
            · exact hd.elim
          · exact hd.elim
        · exact hd.elim
      · exact hd.elim
    · unfold lCall at hd ⊢
      rename_i f
      generalize ρ f = fv at hd ⊢
      split at hd
      · exact Does.mono hd hret
      · exact HYield.mono hd hret
      · exact hd.elim
    · exact hd.elim

theorem denOne_in {P : Program} {o : Oper} {s : Nat → EV} (hs : ∀ t, (s t).ok) {K : EV → HP → Prop} {X : List PanicEntry → HP → Prop} {m : HP} (h : denOne P o.type o.op s K X m) {w : World} (hw : Holds w m) :
    OpIn P (fun v m' => ∃ ev, ev.v = v ∧ ev.ok ∧ K ev m') X ((execOp (fun x => (evE s x).v) o).run P w) := by
  by_cases hq : isQuiet o.op = true
  · obtain ⟨ev, h1, h2, h3⟩ := denOne_quiet hq hs h
    rw [h2 w hw]
    exact ⟨m, hw, ev, rfl, h1, h3⟩
  · have hq' : isQuiet o.op = false := by simpa using hq
    have hd : denL P o.type o.op (fun x => (evE s x).v) (fun v => K ⟨v, none⟩) X m := by
      obtain ⟨dst, op, ty, pos, after, guard⟩ := o
      simp only at h hq'
      cases op <;> first | (simp [isQuiet] at hq'; done) | (unfold denOne at h; simp only [hq'] at h; exact h)
    have := denL_sound (P := P) (K := fun v m' => ∃ ev : EV, ev.v = v ∧ ev.ok ∧ K ev m') (X := X) (ρ := fun x => (evE s x).v) (o := o) (m := m) (w := w) ?_ hw
    · exact this
    · exact denL_mono (fun v m' hk => ⟨⟨v, none⟩, rfl, EV.ok_none v, hk⟩) hd

end Go.Hp
/- Regions over heaplets: in the order of the text, and in every order that a drawn region allows. Own work; nothing of any program. -/
namespace Go.Hp
open Go

def dstAt (ops : Array Oper) (j : Nat) : Option Nat := (ops[j]?).bind (·.dst)

/-- The last operation before j that writes t. -/
def lastW (ops : Array Oper) : Nat → Nat → Option Nat
  | 0, _ => none
  | j + 1, t => if dstAt ops j = some t then some j else lastW ops j t

def envAt (ops : Array Oper) (V : Nat → EV) (σ : Nat → EV) (j : Nat) : Nat → EV := fun t =>
  match lastW ops j t with | some k => V k | none => σ t

def upd (V : Nat → EV) (j : Nat) (e : EV) : Nat → EV := fun i => if i = j then e else V i

theorem lastW_lt {ops : Array Oper} : ∀ {j t k : Nat}, lastW ops j t = some k → k < j ∧ dstAt ops k = some t := by
  intro j
  induction j with
  | zero => intro t k h; cases h
  | succ j ih =>
    intro t k h
    simp only [lastW] at h
    split at h
    · cases h; exact ⟨by omega, by assumption⟩
    · have := ih h; exact ⟨by omega, this.2⟩

theorem lastW_none {ops : Array Oper} : ∀ {j t : Nat}, lastW ops j t = none → ∀ k, k < j → dstAt ops k ≠ some t := by
  intro j
  induction j with
  | zero => intro t _ k hk; omega
  | succ j ih =>
    intro t h k hk
    simp only [lastW] at h
    split at h
    · cases h
    · rename_i hj
      by_cases e : k = j
      · subst e; exact hj
      · exact ih h k (by omega)

theorem lastW_last {ops : Array Oper} : ∀ {j t k : Nat}, lastW ops j t = some k → ∀ i, k < i → i < j → dstAt ops i ≠ some t := by
  intro j
  induction j with
  | zero => intro t k h; cases h
  | succ j ih =>
    intro t k h i hi hij
    simp only [lastW] at h
    split at h
    · cases h; omega
    · rename_i hj
      by_cases e : i = j
      · subst e; exact hj
      · exact ih h i hi (by omega)

theorem envAt_succ (ops : Array Oper) (V σ : Nat → EV) (j t : Nat) : envAt ops V σ (j + 1) t = if dstAt ops j = some t then V j else envAt ops V σ j t := by
  simp only [envAt, lastW]
  by_cases h : dstAt ops j = some t <;> simp [h]

theorem envAt_upd {ops : Array Oper} {V σ : Nat → EV} {j k : Nat} {e : EV} (h : k ≤ j) (t : Nat) : envAt ops (upd V j e) σ k t = envAt ops V σ k t := by
  simp only [envAt]
  cases hl : lastW ops k t with
  | none => rfl
  | some i => have := (lastW_lt hl).1; simp only [upd, if_neg (show i ≠ j by omega)]

theorem envAt_ok {ops : Array Oper} {V σ : Nat → EV} (hV : ∀ i, (V i).ok) (hσ : ∀ t, (σ t).ok) (j t : Nat) : (envAt ops V σ j t).ok := by
  simp only [envAt]; split <;> first | exact hV _ | exact hσ _

theorem upd_ok {V : Nat → EV} {j : Nat} {e : EV} (hV : ∀ i, (V i).ok) (he : e.ok) : ∀ i, (upd V j e i).ok := by
  intro i; simp only [upd]; split <;> first | exact he | exact hV _

/-! ### Guards -/
def lastWok (ops : Array Oper) (j g : Nat) : Bool := match dstAt ops g with | some d => lastW ops j d == some g | none => false

def guarded (ops : Array Oper) (V : Nat → EV) (o : Oper) (j : Nat) (run skip : (Nat → EV) → HP → Prop) : HP → Prop :=
  match o.guard with
  | none => run V
  | some (g, want) =>
    match lastWok ops j g with
    | false => no
    | true =>
      match (V g).lit with
      | some b => match b == want with | true => run V | false => skip V
      | none =>
        match (V g).v with
        | .bool x => hIf x ((match true == want with | true => run | false => skip) (upd V g ⟨.bool true, some true⟩)) ((match false == want with | true => run | false => skip) (upd V g ⟨.bool false, some false⟩))
        | .tuple ⟨[]⟩ => skip V
        | _ => no

def Wanted (ops : Array Oper) (V : Nat → EV) (o : Oper) (j : Nat) (b : Bool) : Prop :=
  match o.guard with
  | none => b = true
  | some (g, want) => ∃ d, dstAt ops g = some d ∧ lastW ops j d = some g ∧ ((∃ c, (V g).v = .bool c ∧ b = (c == want)) ∨ ((V g).v = undef ∧ b = false))

theorem guarded_sound {ops : Array Oper} {V : Nat → EV} {o : Oper} {j : Nat} {run skip : (Nat → EV) → HP → Prop} {m : HP} (hV : ∀ i, (V i).ok) (h : guarded ops V o j run skip m) :
    ∃ V', (∀ i, (V' i).v = (V i).v) ∧ (∀ i, (V' i).ok) ∧ ((Wanted ops V' o j true ∧ run V' m) ∨ (Wanted ops V' o j false ∧ skip V' m)) := by
  unfold guarded at h
  unfold Wanted
  generalize hg : o.guard = gd at h
  split at h
  · exact ⟨V, fun _ => rfl, hV, .inl ⟨rfl, h⟩⟩
  · rename_i g want
    generalize hl : lastWok ops j g = lw at h
    split at h
    · exact h.elim
    · unfold lastWok at hl
      generalize hd : dstAt ops g = dd at hl
      split at hl
      · rename_i d
        have hl : lastW ops j d = some g := by simpa using hl
        generalize hlit : (V g).lit = lit at h
        split at h
        · rename_i b
          have hv := hV g b hlit
          refine ⟨V, fun _ => rfl, hV, ?_⟩
          generalize hb : (b == want) = bw at h
          split at h
          · exact .inl ⟨⟨d, rfl, hl, .inl ⟨b, hv, hb.symm⟩⟩, h⟩
          · exact .inr ⟨⟨d, rfl, hl, .inl ⟨b, hv, hb.symm⟩⟩, h⟩
        · generalize hv : (V g).v = v at h
          split at h
          · rename_i x
            have fin : ∀ c, x = c → ((match c == want with | true => run | false => skip) (upd V g ⟨.bool c, some c⟩)) m →
                ∃ V', (∀ i, (V' i).v = (V i).v) ∧ (∀ i, (V' i).ok) ∧ (((∃ d_1, some d = some d_1 ∧ lastW ops j d_1 = some g ∧ ((∃ c, (V' g).v = .bool c ∧ true = (c == want)) ∨ ((V' g).v = undef ∧ true = false))) ∧ run V' m) ∨
                  ((∃ d_1, some d = some d_1 ∧ lastW ops j d_1 = some g ∧ ((∃ c, (V' g).v = .bool c ∧ false = (c == want)) ∨ ((V' g).v = undef ∧ false = false))) ∧ skip V' m)) := by
              intro c hc h
              subst hc
              refine ⟨upd V g ⟨.bool x, some x⟩, fun i => ?_, upd_ok hV (fun b hb => by simp at hb; simp [hb]), ?_⟩
              · simp only [upd]; split
                · rename_i e; subst e; exact hv.symm
                · rfl
              · have hvg : (upd V g ⟨.bool x, some x⟩ g).v = .bool x := by simp [upd]
                generalize hb : (x == want) = bw at h
                split at h
                · exact .inl ⟨⟨d, rfl, hl, .inl ⟨x, hvg, hb.symm⟩⟩, h⟩
                · exact .inr ⟨⟨d, rfl, hl, .inl ⟨x, hvg, hb.symm⟩⟩, h⟩
            cases hx : x with
            | true => exact fin true hx (h.1 hx)
            | false => exact fin false hx (h.2 hx)
          · exact ⟨V, fun _ => rfl, hV, .inr ⟨⟨d, rfl, hl, .inr ⟨hv, rfl⟩⟩, h⟩⟩
          · exact h.elim
      · cases hl

theorem yielded_bool {ops : Array Oper} {tmps : Array Value} {g d : Nat} {c : Bool} (hd : dstAt ops g = some d) (hv : tmps.getD d undef = .bool c) : yielded ops tmps g = some c := by
  have : tmps[d]? = some (.bool c) := by
    rcases Nat.lt_or_ge d tmps.size with h | h
    · rw [Array.getD_eq_getD_getElem?] at hv
      simp [h] at hv ⊢; exact hv
    · rw [Array.getD_eq_getD_getElem?, Array.getElem?_eq_none h] at hv
      simp [undef] at hv
  unfold dstAt at hd
  simp only [yielded, hd, Option.bind_some, this]

theorem yielded_undef {ops : Array Oper} {tmps : Array Value} {g d : Nat} (hd : dstAt ops g = some d) (hv : tmps.getD d undef = undef) : yielded ops tmps g = none := by
  unfold dstAt at hd
  simp only [yielded, hd, Option.bind_some]
  rw [Array.getD_eq_getD_getElem?] at hv
  cases h : tmps[d]? with
  | none => rfl
  | some v => rw [h] at hv; simp only [Option.getD_some] at hv; subst hv; rfl

theorem wanted_eq {ops : Array Oper} {V : Nat → EV} {o : Oper} {j : Nat} {b : Bool} (h : Wanted ops V o j b) {tmps : Array Value}
    (ha : ∀ g want d, o.guard = some (g, want) → dstAt ops g = some d → lastW ops j d = some g → tmps.getD d undef = (V g).v) : Region.wanted o (yielded ops tmps) = b := by
  unfold Wanted at h
  unfold Region.wanted
  cases hg : o.guard with
  | none => rw [hg] at h; exact h.symm
  | some gw =>
    obtain ⟨g, want⟩ := gw
    rw [hg] at h
    obtain ⟨d, hd, hl, ⟨c, hv, rfl⟩ | ⟨hv, rfl⟩⟩ := h
    · have := ha g want d hg hd hl
      rw [hv] at this
      simp only [yielded_bool hd this]
      rfl
    · have := ha g want d hg hd hl
      rw [hv] at this
      simp only [yielded_undef hd this]; rfl

/-! ### The order of the text -/
def denOps (P : Program) (ops : Array Oper) (σ : Nat → EV) (X : List PanicEntry → HP → Prop) : List Nat → (Nat → EV) → ((Nat → EV) → HP → Prop) → HP → Prop
  | [], V, K => K V
  | j :: js, V, K =>
    match ops[j]? with
    | none => no
    | some o => guarded ops V o j (fun V' => denOne P o.type o.op (envAt ops V' σ j) (fun ev => denOps P ops σ X js (upd V' j ev) K) X)
        (fun V' => denOps P ops σ X js (upd V' j ⟨undef, none⟩) K)

theorem denOne_not {P : Program} {ty : TypeId} {op : Op} {s : Nat → EV} {K : EV → HP → Prop} {X : List PanicEntry → HP → Prop} {m : HP} (h : denOne P ty op s K X m) : (∀ c, op ≠ .defer c) ∧ (∀ cs b, op ≠ .select cs b) :=
  ⟨fun c e => by subst e; exact h, fun cs b e => by subst e; exact h⟩

theorem eval_eq {a : Act} {s : Nat → EV} (h : ∀ t, a.tmps.getD t undef = (s t).v) : a.eval = fun x => (evE s x).v :=
  funext fun x => by cases x <;> simp [Act.eval, evE, h]

theorem getD_put {a : Act} {dst : Option Nat} {v : Value} (hd : ∀ d, dst = some d → d < a.tmps.size) (t : Nat) :
    (a.put dst v).tmps.getD t undef = if dst = some t then v else a.tmps.getD t undef := by
  cases dst with
  | none => simp [Act.put]
  | some d =>
    have hlt := hd d rfl
    simp only [Act.put, Array.getD_eq_getD_getElem?, Array.getElem?_setIfInBounds, Option.some.injEq]
    by_cases e : d = t
    · subst e; simp [hlt]
    · simp [e]
theorem put_size (a : Act) (dst : Option Nat) (v : Value) : (a.put dst v).tmps.size = a.tmps.size := by cases dst <;> simp [Act.put]
theorem put_defers (a : Act) (dst : Option Nat) (v : Value) : (a.put dst v).defers = a.defers := by cases dst <;> simp [Act.put]

/-- Every operation's temporary is one. -/
def dstOk (N : Nat) (ops : Array Oper) : Bool := ops.toList.all fun o => match o.dst with | some d => decide (d < N) | none => true
theorem dstOk_spec {N : Nat} {ops : Array Oper} (h : dstOk N ops = true) {j : Nat} {o : Oper} (ho : ops[j]? = some o) : ∀ d, o.dst = some d → d < N := by
  intro d hd
  have := List.all_eq_true.1 h o (by rw [← Array.getElem?_toList] at ho; exact List.mem_of_getElem? ho)
  rw [hd] at this
  simpa using this

structure Reg (N : Nat) (ds : List Deferred) (a : Act) (s : Nat → EV) : Prop where
  size : a.tmps.size = N
  eq : ∀ t, a.tmps.getD t undef = (s t).v
  ok : ∀ t, (s t).ok
  ds : a.defers = ds

theorem denOps_sound {P : Program} {ops : Array Oper} {σ : Nat → EV} {X : List PanicEntry → HP → Prop} {N : Nat} {ds : List Deferred} {ro : Option Nat} {n : Nat} (hN : dstOk N ops = true) (hσ : ∀ t, (σ t).ok)
    {K : (Nat → EV) → HP → Prop} {Q : Exit → Act → World → Prop}
    (hX : ∀ c a w m, a.tmps.size = N → a.defers = ds → Holds w m → X c m → Q (.panic c) a w) : ∀ (k j : Nat) (V : Nat → EV) (m : HP) (a : Act) (w : World), (∀ i, (V i).ok) → Reg N ds a (envAt ops V σ j) → Holds w m →
    (∀ V m a w, Reg N ds a (envAt ops V σ (j + k)) → (∀ i, (V i).ok) → Holds w m → K V m → Q .normal a w) →
    denOps P ops σ X (List.range' j k) V K m → wpOpsIn (FW ro) n P ops Q (List.range' j k) a w := by
  intro k
  induction k with
  | zero =>
    intro j V m a w hV ha hw hQ h
    simpa [wpOpsIn] using hQ V m a w ha hV hw h
  | succ k ih =>
    intro j V m a w hV ha hw hQ h
    rw [List.range'_succ] at h ⊢
    simp only [denOps] at h
    rw [wpOpsIn_cons]
    unfold wpOpIn
    cases ho : ops[j]? with
    | none => rw [ho] at h; exact h.elim
    | some o =>
      rw [ho] at h
      simp only at h ⊢
      obtain ⟨V', hVv, hVo, hr⟩ := guarded_sound hV h
      have henv : ∀ t, (envAt ops V' σ j t).v = (envAt ops V σ j t).v := fun t => by simp only [envAt]; split <;> simp [hVv]
      have hact : ∀ t, a.tmps.getD t undef = (envAt ops V' σ j t).v := fun t => by rw [ha.eq, henv]
      have hwant : ∀ b, Wanted ops V' o j b → Region.wanted o (yielded ops a.tmps) = b := fun b hb => wanted_eq hb fun g want d _ _ hl => by
        rw [hact d]; simp [envAt, hl]
      have habout : ∀ f, o.about P w a.eval = some f → (FW ro).fn f := fun _ _ => trivial
      have hdst : ∀ d, o.dst = some d → d < a.tmps.size := fun d hd => by rw [ha.size]; exact dstOk_spec hN ho d hd
      have hdj : dstAt ops j = o.dst := by simp [dstAt, ho]
      have next : ∀ (ev : EV) (m' : HP) (w' : World), ev.ok → Holds w' m' → denOps P ops σ X (List.range' (j + 1) k) (upd V' j ev) K m' →
          wpOpsIn (FW ro) n P ops Q (List.range' (j + 1) k) (a.put o.dst ev.v) w' := by
        intro ev m' w' he hw' hd
        refine ih (j + 1) (upd V' j ev) m' _ w' (upd_ok hVo he) ⟨by rw [put_size, ha.size], fun t => ?_, envAt_ok (upd_ok hVo he) hσ _, by rw [put_defers, ha.ds]⟩ hw' ?_ hd
        · rw [getD_put hdst, envAt_succ, hdj]
          split
          · simp [upd]
          · rw [envAt_upd (Nat.le_refl _)]; exact hact t
        · intro V m a w g1 g2 g3 g4
          exact hQ V m a w (by rwa [show j + (k + 1) = j + 1 + k by omega]) g2 g3 g4
      rcases hr with ⟨hw1, hr⟩ | ⟨hw1, hr⟩
      · rw [hwant _ hw1]
        simp only [if_true]
        obtain ⟨hnd, _⟩ := denOne_not hr
        refine ⟨habout, ?_⟩
        rw [Oper.semAt_eq _ _ _ hnd, eval_eq hact]
        refine (denOne_in (envAt_ok hVo hσ j) hr hw).upon ?_ ?_
        · rintro v w' m' hw' ⟨ev, rfl, he, hk⟩
          exact next ev m' w' he hw' hk
        · intro c w' m' hw' hx
          exact hX c a w' m' ha.size ha.ds hw' hx
      · rw [hwant _ hw1]
        simp only [Bool.false_eq_true, if_false]
        exact ⟨habout, next ⟨undef, none⟩ m w (EV.ok_none _) hw hr⟩

end Go.Hp
/- A region that draws its order: one predicate serves every order. Own work; nothing of any program. -/
namespace Go.Hp
open Go

/-! ### Which operation waits for which -/
def ancRow (tab : List Nat) (o : Oper) : Nat := o.after.toList.foldl (fun s e => if Region.binds .any e then s ||| 2 ^ e.on ||| tab.getD e.on 0 else s) 0
def ancTab (ops : Array Oper) : Nat → List Nat
  | 0 => []
  | j + 1 => ancTab ops j ++ [match ops[j]? with | some o => ancRow (ancTab ops j) o | none => 0]
/-- i is ahead of j. -/
def isAnc (tab : List Nat) (i j : Nat) : Bool := (tab.getD j 0).testBit i

theorem ancTab_length (ops : Array Oper) : ∀ n, (ancTab ops n).length = n := by
  intro n; induction n with
  | zero => rfl
  | succ n ih => simp [ancTab, ih]

theorem ancTab_get (ops : Array Oper) : ∀ n j, j < n → (ancTab ops n).getD j 0 = match ops[j]? with | some o => ancRow (ancTab ops j) o | none => 0 := by
  intro n
  induction n with
  | zero => intro j h; omega
  | succ n ih =>
    intro j h
    have hl := ancTab_length ops n
    by_cases e : j = n
    · subst e
      simp only [ancTab, List.getD_eq_getElem?_getD]
      rw [List.getElem?_append_right (by omega)]
      simp [hl]
    · simp only [ancTab, List.getD_eq_getElem?_getD]
      rw [List.getElem?_append_left (by omega), ← List.getD_eq_getElem?_getD]
      exact ih j (by omega)

theorem ancTab_out (ops : Array Oper) (n j : Nat) (h : n ≤ j) : (ancTab ops n).getD j 0 = 0 := by
  rw [List.getD_eq_getElem?_getD, List.getElem?_eq_none (by rw [ancTab_length]; exact h)]
  rfl

theorem fold_bits (tab : List Nat) (i : Nat) : ∀ (l : List Edge) (s : Nat), ((l.foldl (fun s e => if Region.binds .any e then s ||| 2 ^ e.on ||| tab.getD e.on 0 else s) s).testBit i = true ↔
    s.testBit i = true ∨ ∃ e ∈ l, Region.binds .any e = true ∧ (e.on = i ∨ (tab.getD e.on 0).testBit i = true)) := by
  intro l
  induction l with
  | nil => intro s; simp
  | cons e l ih =>
    intro s
    simp only [List.foldl_cons]
    rw [ih]
    by_cases hb : Region.binds .any e = true
    · simp only [hb, if_true, Nat.testBit_or, Bool.or_eq_true, List.mem_cons, Nat.testBit_two_pow, decide_eq_true_eq]
      constructor
      · rintro (((h | h) | h) | ⟨x, hx, h⟩)
        · exact .inl h
        · exact .inr ⟨e, .inl rfl, hb, .inl h⟩
        · exact .inr ⟨e, .inl rfl, hb, .inr h⟩
        · exact .inr ⟨x, .inr hx, h⟩
      · rintro (h | ⟨x, rfl | hx, h1, h2⟩)
        · exact .inl (.inl (.inl h))
        · rcases h2 with h2 | h2
          · exact .inl (.inl (.inr h2))
          · exact .inl (.inr h2)
        · exact .inr ⟨x, hx, h1, h2⟩
    · simp only [hb, if_false, Bool.false_eq_true, List.mem_cons]
      constructor
      · rintro (h | ⟨x, hx, h⟩)
        · exact .inl h
        · exact .inr ⟨x, .inr hx, h⟩
      · rintro (h | ⟨x, rfl | hx, h1, h2⟩)
        · exact .inl h
        · exact absurd h1 hb
        · exact .inr ⟨x, hx, h1, h2⟩

/-- What is ahead of an operation whose own edges are all listed is listed. -/
theorem anc_listed {ops : Array Oper} {n : Nat} {L : Nat → Prop} (hcl : ∀ j oj, ops[j]? = some oj → L j → ∀ e ∈ oj.after, Region.binds .any e = true → L e.on) :
    ∀ (j : Nat) (oj : Oper), ops[j]? = some oj → j < n → (∀ e ∈ oj.after, Region.binds .any e = true → L e.on) → ∀ i, isAnc (ancTab ops n) i j = true → L i := by
  intro j
  induction j using Nat.strongRecOn with
  | _ j ih =>
    intro oj hoj hjn hed i hi
    unfold isAnc at hi
    rw [ancTab_get ops n j hjn, hoj] at hi
    simp only [ancRow] at hi
    rw [fold_bits] at hi
    rcases hi with hi | ⟨e, he, hb, hi⟩
    · simp at hi
    · have hL := hed e (by simpa using he) hb
      rcases hi with rfl | hi
      · exact hL
      · by_cases hlt : e.on < j
        · cases ho : ops[e.on]? with
          | none =>
            rw [ancTab_get ops j e.on hlt, ho] at hi
            simp at hi
          | some oe =>
            refine ih e.on hlt oe ho (by omega) (fun e' he' hb' => hcl _ _ ho hL e' he' hb') i ?_
            unfold isAnc
            rw [ancTab_get ops n e.on (by omega), ← ancTab_get ops j e.on hlt]
            exact hi
        · rw [ancTab_out ops j e.on (by omega)] at hi
          simp at hi

/-! ### The stages -/
def tmpsOf (l : List Operand) : List Nat := l.filterMap fun | .tmp t => some t | _ => none
/-- The temporaries that an operation looks at. -/
def readsOf (ops : Array Oper) (o : Oper) : List Nat :=
  tmpsOf o.op.operands.toList ++ (match o.guard with | some (g, _) => (dstAt ops g).toList | none => [])
def quietAt (ops : Array Oper) (j : Nat) : Bool := match ops[j]? with | some o => isQuiet o.op | none => true
def heapyAt (P : Program) (ops : Array Oper) (j : Nat) : Bool := match ops[j]? with | some o => isHeapy P o.op | none => false
def loudsOf (ops : Array Oper) : List Nat := (List.range ops.size).filter fun i => !quietAt ops i
def quietsOf (ops : Array Oper) : List Nat := (List.range ops.size).filter fun i => quietAt ops i

def readsOk (ops : Array Oper) (Kn : List Nat) (j : Nat) : Bool :=
  match ops[j]? with
  | some o => (readsOf ops o).all fun t => match lastW ops j t with | some k => Kn.contains k | none => true
  | none => false

def decided (V : Nat → EV) (o : Oper) : Option Bool :=
  match o.guard with
  | none => some true
  | some (g, want) => match (V g).lit with
    | some b => some (b == want)
    | none => match (V g).v with
      | .tuple ⟨[]⟩ => some false
      | _ => none

/-- Values that were had are had again. -/
def denRe (P : Program) (ops : Array Oper) (σ : Nat → EV) (X : List PanicEntry → HP → Prop) : List Nat → (Nat → EV) → (HP → Prop) → HP → Prop
  | [], _, k => k
  | j :: js, V, k =>
    match ops[j]? with
    | none => no
    | some o =>
      match decided V o with
      | none => no
      | some true => denOne P o.type o.op (envAt ops V σ j) (fun ev m => ev.v = (V j).v ∧ denRe P ops σ X js V k m) X
      | some false => denRe P ops σ X js V k

/-- Operations in this order; 'Kn': those whose values are known. -/
def denRv (P : Program) (ops : Array Oper) (σ : Nat → EV) (X : List PanicEntry → HP → Prop) : List Nat → List Nat → (Nat → EV) → ((Nat → EV) → HP → Prop) → HP → Prop
  | [], _, V, K => K V
  | j :: js, Kn, V, K =>
    match ops[j]? with
    | none => no
    | some o =>
      match readsOk ops Kn j && !Kn.contains j with
      | false => no
      | true => guarded ops V o j (fun V' => denOne P o.type o.op (envAt ops V' σ j) (fun ev => denRv P ops σ X js (j :: Kn) (upd V' j ev) K) X)
          (fun V' => denRv P ops σ X js (j :: Kn) (upd V' j ⟨undef, none⟩) K)

def rechecks (P : Program) (ops : Array Oper) (tab : List Nat) (E R : List Nat) : List Nat := R.filter fun j => quietAt ops j && heapyAt P ops j && !(E.any fun l => isAnc tab j l)
def reveals (ops : Array Oper) (tab : List Nat) (E R : List Nat) : List Nat :=
  (quietsOf ops).filter fun j => !R.contains j && (loudsOf ops).all fun l => !isAnc tab l j || E.contains l
def nexts (ops : Array Oper) (tab : List Nat) (E : List Nat) : List Nat :=
  (loudsOf ops).filter fun l => !E.contains l && (loudsOf ops).all fun l' => !isAnc tab l' l || E.contains l'

def allOf (f : Nat → HP → Prop) : List Nat → HP → Prop
  | [] => fun _ => True
  | [l] => f l
  | l :: ls => fun m => f l m ∧ allOf f ls m
theorem allOf_mem {f : Nat → HP → Prop} {m : HP} : ∀ {ls : List Nat}, allOf f ls m → ∀ l ∈ ls, f l m := by
  intro ls
  induction ls with
  | nil => intro _ l hl; cases hl
  | cons a ls ih =>
    intro h l hl
    cases ls with
    | nil => simp only [List.mem_singleton] at hl; subst hl; exact h
    | cons b ls =>
      rcases List.mem_cons.1 hl with rfl | hl
      · exact h.1
      · exact ih h.2 l hl

/-- The stages: E: the loud operations that are over; R: the quiet ones whose values are known. -/
def denDraw (P : Program) (ops : Array Oper) (tab : List Nat) (σ : Nat → EV) (X : List PanicEntry → HP → Prop) (K : (Nat → EV) → HP → Prop) : Nat → List Nat → List Nat → (Nat → EV) → HP → Prop
  | 0, _, _, _ => no
  | n + 1, E, R, V =>
    denRe P ops σ X (rechecks P ops tab E R) V
      (denRv P ops σ X (reveals ops tab E R) (R ++ E) V fun V' =>
        match nexts ops tab E with
        | [] => K V'
        | ls => allOf (fun l => denRv P ops σ X [l] ((R ++ reveals ops tab E R) ++ E) V' fun V'' => denDraw P ops tab σ X K n (l :: E) (R ++ reveals ops tab E R) V'') ls)

/-- What is asked of a region that draws, by looking alone. -/
def drawOk (ops : Array Oper) : Bool :=
  let n := ops.size
  let tab := ancTab ops n
  ops.toList.zipIdx.all fun (o, j) =>
    (o.after.toList.all fun e => !Region.binds .any e || decide (e.on < j)) &&
    (List.range j).all fun i =>
      match ops[i]? with
      | none => true
      | some oi =>
        isAnc tab i j ||
        !((match oi.dst with | some d => (readsOf ops o).contains d || o.dst == some d | none => false) ||
          (match o.dst with | some d => (readsOf ops oi).contains d | none => false))

/-! ### Sound -/
theorem drawOk_edges {ops : Array Oper} (h : drawOk ops = true) {j : Nat} {o : Oper} (ho : ops[j]? = some o) : ∀ e ∈ o.after, Region.binds .any e = true → e.on < j := by
  intro e he hb
  unfold drawOk at h
  have hm : (o, j) ∈ ops.toList.zipIdx := by
    rw [List.mem_zipIdx_iff_getElem?]; simpa using ho
  have := List.all_eq_true.1 h _ hm
  simp only [Bool.and_eq_true] at this
  have := List.all_eq_true.1 this.1 e (by simpa using he)
  simpa [hb] using this

theorem drawOk_pair {ops : Array Oper} (h : drawOk ops = true) {i j : Nat} {oi oj : Oper} (hi : ops[i]? = some oi) (hj : ops[j]? = some oj) (hij : i < j)
    (hc : (∃ d, oi.dst = some d ∧ (d ∈ readsOf ops oj ∨ oj.dst = some d)) ∨ (∃ d, oj.dst = some d ∧ d ∈ readsOf ops oi)) : isAnc (ancTab ops ops.size) i j = true := by
  unfold drawOk at h
  have hm : (oj, j) ∈ ops.toList.zipIdx := by
    rw [List.mem_zipIdx_iff_getElem?]; simpa using hj
  have := List.all_eq_true.1 h _ hm
  simp only [Bool.and_eq_true] at this
  have := List.all_eq_true.1 this.2 i (List.mem_range.2 hij)
  rw [hi] at this
  simp only [Bool.or_eq_true] at this
  rcases this with this | this
  · exact this
  · exfalso
    simp only [Bool.not_eq_true', Bool.or_eq_false_iff] at this
    obtain ⟨h1, h2⟩ := this
    rcases hc with ⟨d, hd, hx⟩ | ⟨d, hd, hx⟩
    · rw [hd] at h1
      simp only [Bool.or_eq_false_iff] at h1
      rcases hx with hx | hx
      · have := h1.1; simp [hx] at this
      · have := h1.2; simp [hx] at this
    · rw [hd] at h2
      simp [hx] at h2

/-- The value that an operation yields, whenever it is carried out now. -/
def ValidAt (P : Program) (ops : Array Oper) (σ V : Nat → EV) (C : World → Prop) (j : Nat) : Prop :=
  ∃ o b, ops[j]? = some o ∧ Wanted ops V o j b ∧ (b = true → (∀ c, o.op ≠ .defer c) ∧ (∀ cs b, o.op ≠ .select cs b) ∧ ∀ w, C w → (execOp (fun x => (evE (envAt ops V σ j) x).v) o).run P w = .ok (.value (V j).v) w) ∧
    (b = false → (V j).v = undef)

theorem decided_wanted {ops : Array Oper} {V : Nat → EV} (hV : ∀ i, (V i).ok) {o : Oper} {j : Nat} {b b' : Bool} (h : decided V o = some b) (hw : Wanted ops V o j b') : b' = b := by
  unfold decided at h
  unfold Wanted at hw
  cases hg : o.guard with
  | none => rw [hg] at h hw; simp at h; rw [hw, h]
  | some gw =>
    obtain ⟨g, want⟩ := gw
    rw [hg] at h hw
    simp only at h
    obtain ⟨d, _, _, ⟨c', hv, rfl⟩ | ⟨hv, rfl⟩⟩ := hw
    · cases hl : (V g).lit with
      | some c => rw [hl] at h; simp only [Option.some.injEq] at h; subst h; have := hV g c hl; rw [hv] at this; simp at this; rw [this]
      | none => rw [hl, hv] at h; simp at h
    · cases hl : (V g).lit with
      | some c => have := hV g c hl; rw [hv] at this; cases this
      | none => rw [hl, hv] at h; simpa [undef] using h

/-- The operands and the guard alone count. -/
theorem env_reads {ops : Array Oper} {V V' σ : Nat → EV} {o : Oper} {j : Nat} (h : ∀ t ∈ readsOf ops o, (envAt ops V' σ j t).v = (envAt ops V σ j t).v) (hs : ∀ cs b, o.op ≠ .select cs b) :
    execOp (fun x => (evE (envAt ops V' σ j) x).v) o = execOp (fun x => (evE (envAt ops V σ j) x).v) o := by
  refine execOp_congr o hs fun x hx => ?_
  cases x with
  | tmp t =>
    refine h t ?_
    unfold readsOf tmpsOf
    refine List.mem_append.2 (.inl (List.mem_filterMap.2 ⟨.tmp t, by simpa using hx, rfl⟩))
  | _ => rfl

theorem wanted_mono {ops : Array Oper} {V V' : Nat → EV} {o : Oper} {j : Nat} {b : Bool} (h : Wanted ops V o j b) (hv : ∀ g want d, o.guard = some (g, want) → dstAt ops g = some d → lastW ops j d = some g → (V' g).v = (V g).v) :
    Wanted ops V' o j b := by
  unfold Wanted at *
  cases hg : o.guard with
  | none => rw [hg] at h; exact h
  | some gw =>
    obtain ⟨g, want⟩ := gw
    rw [hg] at h
    obtain ⟨d, h1, h2, h3⟩ := h
    exact ⟨d, h1, h2, by rw [hv g want d hg h1 h2]; exact h3⟩

theorem guard_reads {ops : Array Oper} {o : Oper} {g d : Nat} {want : Bool} (hg : o.guard = some (g, want)) (hd : dstAt ops g = some d) : d ∈ readsOf ops o := by
  unfold readsOf; rw [hg]; simp [hd]

/-- A value that is known stays, when another operation's becomes known. -/
theorem ValidAt.change {P : Program} {ops : Array Oper} {σ V V' : Nat → EV} {C C' : World → Prop} {j : Nat} {Kn : List Nat} (h : ValidAt P ops σ V C j) (hj : readsOk ops Kn j = true) (hjk : (V' j).v = (V j).v)
    (hV : ∀ k, Kn.contains k = true → (V' k).v = (V k).v) (hC : ∀ w, C' w → C w) : ValidAt P ops σ V' C' j := by
  obtain ⟨o, b, ho, hw, h1, h2⟩ := h
  unfold readsOk at hj
  rw [ho] at hj
  have hrd : ∀ t ∈ readsOf ops o, ∀ k, lastW ops j t = some k → (V' k).v = (V k).v := by
    intro t ht k hk
    have := List.all_eq_true.1 hj t ht
    rw [hk] at this
    exact hV k this
  have henv : ∀ t ∈ readsOf ops o, (envAt ops V' σ j t).v = (envAt ops V σ j t).v := by
    intro t ht
    simp only [envAt]
    split
    · rename_i k hk; exact hrd t ht k hk
    · rfl
  refine ⟨o, b, ho, wanted_mono hw fun g want d hg hd hl => hrd d (guard_reads hg hd) g hl, fun hb => ?_, fun hb => by rw [hjk]; exact h2 hb⟩
  obtain ⟨g1, g2, g3⟩ := h1 hb
  refine ⟨g1, g2, fun w hw' => ?_⟩
  rw [env_reads henv g2, hjk]
  exact g3 w (hC w hw')

/-- A value is known, in the way that its kind allows. -/
def Known (P : Program) (ops : Array Oper) (σ V : Nat → EV) (m : HP) (j : Nat) : Prop :=
  ValidAt P ops σ V (fun w => Holds w m) j ∧ (heapyAt P ops j = false → ValidAt P ops σ V (fun _ => True) j)

theorem denRe_sound {P : Program} {ops : Array Oper} {σ : Nat → EV} {X : List PanicEntry → HP → Prop} (hσ : ∀ t, (σ t).ok) {V : Nat → EV} (hV : ∀ i, (V i).ok) {k : HP → Prop} {m : HP} :
    ∀ {js : List Nat}, (∀ j ∈ js, quietAt ops j = true) → (∀ j ∈ js, ∃ m0, ValidAt P ops σ V (fun w => Holds w m0) j) → denRe P ops σ X js V k m → (∀ j ∈ js, ValidAt P ops σ V (fun w => Holds w m) j) ∧ k m := by
  intro js
  induction js with
  | nil => intro _ _ h; exact ⟨fun j hj => (by cases hj), h⟩
  | cons j js ih =>
    intro hq hold h
    simp only [denRe] at h
    obtain ⟨m0, o, b, ho, hw, h1, h2⟩ := hold j (by simp)
    rw [ho] at h
    simp only at h
    generalize hd : decided V o = dd at h
    have hq' := fun i hi => hq i (List.mem_cons_of_mem _ hi)
    have hold' := fun i hi => hold i (List.mem_cons_of_mem _ hi)
    split at h
    · exact h.elim
    · have hbt := decided_wanted hV hd hw
      subst hbt
      have hqo : isQuiet o.op = true := by have := hq j (by simp); unfold quietAt at this; rw [ho] at this; exact this
      obtain ⟨ev, g1, g2, g3, g4⟩ := denOne_quiet (o := o) hqo (envAt_ok hV hσ j) h
      obtain ⟨r1, r2⟩ := ih hq' hold' g4
      refine ⟨fun i hi => ?_, r2⟩
      rcases List.mem_cons.1 hi with rfl | hi
      · exact ⟨o, true, ho, hw, fun _ => ⟨(h1 rfl).1, (h1 rfl).2.1, fun w hw' => by rw [g2 w hw', g3]⟩, by simp⟩
      · exact r1 i hi
    · have hbt := decided_wanted hV hd hw
      subst hbt
      obtain ⟨r1, r2⟩ := ih hq' hold' h
      refine ⟨fun i hi => ?_, r2⟩
      rcases List.mem_cons.1 hi with rfl | hi
      · exact ⟨o, false, ho, hw, by simp, h2⟩
      · exact r1 i hi

theorem readsOk_more {ops : Array Oper} {Kn Kn' : List Nat} {j : Nat} (h : readsOk ops Kn j = true) (hs : ∀ k, Kn.contains k = true → Kn'.contains k = true) : readsOk ops Kn' j = true := by
  unfold readsOk at *
  split at h
  · refine List.all_eq_true.2 fun t ht => ?_
    have := List.all_eq_true.1 h t ht
    split at this
    · exact hs _ this
    · rfl
  · cases h

structure KnownAll (P : Program) (ops : Array Oper) (σ V : Nat → EV) (m : HP) (Kn : List Nat) (S : Nat → Prop) : Prop where
  ok : ∀ i, (V i).ok
  reads : ∀ j, Kn.contains j = true → readsOk ops Kn j = true
  known : ∀ j, S j → Kn.contains j = true ∧ quietAt ops j = true ∧ Known P ops σ V m j

theorem KnownAll.values {P : Program} {ops : Array Oper} {σ V V' : Nat → EV} {m : HP} {Kn : List Nat} {S : Nat → Prop} (h : KnownAll P ops σ V m Kn S) (hv : ∀ i, (V' i).v = (V i).v) (hok : ∀ i, (V' i).ok) :
    KnownAll P ops σ V' m Kn S :=
  ⟨hok, h.reads, fun j hj => by
    obtain ⟨a, b, c, d⟩ := h.known j hj
    exact ⟨a, b, c.change (h.reads j a) (hv j) (fun k _ => hv k) (fun _ hw => hw), fun hh => (d hh).change (h.reads j a) (hv j) (fun k _ => hv k) (fun _ hw => hw)⟩⟩

theorem KnownAll.add {P : Program} {ops : Array Oper} {σ V : Nat → EV} {m : HP} {Kn : List Nat} {S : Nat → Prop} (h : KnownAll P ops σ V m Kn S) {j : Nat} {ev : EV} (hj : Kn.contains j = false) (hr : readsOk ops Kn j = true) (he : ev.ok) :
    KnownAll P ops σ (upd V j ev) m (j :: Kn) S := by
  have hne : ∀ k, Kn.contains k = true → (upd V j ev k).v = (V k).v := fun k hk => by
    have : k ≠ j := fun e => by subst e; rw [hj] at hk; cases hk
    simp [upd, this]
  have hmore : ∀ k, Kn.contains k = true → (j :: Kn).contains k = true := fun k hk => by
    rw [List.contains_cons, hk]; simp
  refine ⟨upd_ok h.ok he, fun i hi => ?_, fun i hi => ?_⟩
  · rw [List.contains_cons, Bool.or_eq_true] at hi
    rcases hi with hi | hi
    · have : i = j := by simpa using hi
      subst this; exact readsOk_more hr hmore
    · exact readsOk_more (h.reads i hi) hmore
  · obtain ⟨a, b, c, d⟩ := h.known i hi
    exact ⟨hmore i a, b, c.change (h.reads i a) (hne i a) hne (fun _ hw => hw), fun hh => (d hh).change (h.reads i a) (hne i a) hne (fun _ hw => hw)⟩

theorem denRv_sound {P : Program} {ops : Array Oper} {σ : Nat → EV} {X : List PanicEntry → HP → Prop} (hσ : ∀ t, (σ t).ok) {K : (Nat → EV) → HP → Prop} {m : HP} :
    ∀ {js Kn : List Nat} {V : Nat → EV} {S : Nat → Prop}, (∀ j ∈ js, quietAt ops j = true) → KnownAll P ops σ V m Kn S → denRv P ops σ X js Kn V K m →
      ∃ V', KnownAll P ops σ V' m (js.reverse ++ Kn) (fun i => S i ∨ i ∈ js) ∧ (∀ k, Kn.contains k = true → (V' k).v = (V k).v) ∧ K V' m := by
  intro js
  induction js with
  | nil => intro Kn V S _ hK h; exact ⟨V, by simpa using hK, fun _ _ => rfl, h⟩
  | cons j js ih =>
    intro Kn V S hq hK h
    simp only [denRv] at h
    cases ho : ops[j]? with
    | none => rw [ho] at h; exact h.elim
    | some o =>
      rw [ho] at h
      simp only at h
      generalize hr : (readsOk ops Kn j && !Kn.contains j) = rr at h
      split at h
      · exact h.elim
      · simp only [Bool.and_eq_true, Bool.not_eq_true'] at hr
        obtain ⟨hr1, hr2⟩ := hr
        obtain ⟨V1, hv1, ho1, hw⟩ := guarded_sound hK.ok h
        have hK1 := hK.values hv1 ho1
        have hqj := hq j (by simp)
        have hqo : isQuiet o.op = true := by unfold quietAt at hqj; rw [ho] at hqj; exact hqj
        have fin : ∀ (ev : EV), ev.ok → (ValidAt P ops σ (upd V1 j ev) (fun w => Holds w m) j ∧ (heapyAt P ops j = false → ValidAt P ops σ (upd V1 j ev) (fun _ => True) j)) →
            denRv P ops σ X js (j :: Kn) (upd V1 j ev) K m →
            ∃ V', KnownAll P ops σ V' m ((j :: js).reverse ++ Kn) (fun i => S i ∨ i ∈ j :: js) ∧ (∀ k, Kn.contains k = true → (V' k).v = (V k).v) ∧ K V' m := by
          intro ev he hkn hd
          have hK2 := hK1.add hr2 hr1 he
          have hK3 : KnownAll P ops σ (upd V1 j ev) m (j :: Kn) (fun i => S i ∨ i = j) := ⟨hK2.ok, hK2.reads, fun i hi => by
            rcases hi with hi | rfl
            · exact hK2.known i hi
            · exact ⟨by rw [List.contains_cons]; simp, hqj, hkn⟩⟩
          obtain ⟨V', r1, r2, r3⟩ := ih (fun i hi => hq i (List.mem_cons_of_mem _ hi)) hK3 hd
          refine ⟨V', ?_, fun k hk => ?_, r3⟩
          · have e : (j :: js).reverse ++ Kn = js.reverse ++ (j :: Kn) := by simp
            rw [e]
            exact ⟨r1.ok, r1.reads, fun i hi => r1.known i (by
              rcases hi with hi | hi
              · exact .inl (.inl hi)
              · rcases List.mem_cons.1 hi with rfl | hi
                · exact .inl (.inr rfl)
                · exact .inr hi)⟩
          · rw [r2 k (by rw [List.contains_cons, hk]; simp)]
            have : k ≠ j := fun e => by subst e; rw [hr2] at hk; cases hk
            simp only [upd, if_neg this]
            exact hv1 k
        have henvj : ∀ (ev : EV), envAt ops (upd V1 j ev) σ j = envAt ops V1 σ j := fun ev => funext fun t => envAt_upd (Nat.le_refl _) t
        have hwj : ∀ (ev : EV) b, Wanted ops V1 o j b → Wanted ops (upd V1 j ev) o j b := fun ev b hb => wanted_mono hb fun g want d _ _ hl => by
          have := (lastW_lt hl).1
          simp [upd, show g ≠ j by omega]
        rcases hw with ⟨hw, hr⟩ | ⟨hw, hr⟩
        · obtain ⟨hnd, hns⟩ := denOne_not hr
          by_cases hh : isHeapy P o.op = false
          · obtain ⟨ev, g1, g2, g3⟩ := denOne_pure (o := o) hqo hh (envAt_ok ho1 hσ j) hr
            refine fin ev g1 ⟨⟨o, true, ho, hwj ev _ hw, fun _ => ⟨hnd, hns, fun w _ => ?_⟩, (fun h => by cases h)⟩, fun _ => ⟨o, true, ho, hwj ev _ hw, fun _ => ⟨hnd, hns, fun w _ => ?_⟩, (fun h => by cases h)⟩⟩ g3
            · rw [henvj, g2 w]; simp [upd]
            · rw [henvj, g2 w]; simp [upd]
          · obtain ⟨ev, g1, g2, g3⟩ := denOne_quiet (o := o) hqo (envAt_ok ho1 hσ j) hr
            refine fin ev g1 ⟨⟨o, true, ho, hwj ev _ hw, fun _ => ⟨hnd, hns, fun w hw' => ?_⟩, (fun h => by cases h)⟩, fun hf => ?_⟩ g3
            · rw [henvj, g2 w hw']; simp [upd]
            · unfold heapyAt at hf; rw [ho] at hf; exact absurd hf hh
        · exact fin ⟨undef, none⟩ (EV.ok_none _) ⟨⟨o, false, ho, hwj _ _ hw, (fun h => by cases h), fun _ => by simp [upd]⟩, fun _ => ⟨o, false, ho, hwj _ _ hw, (fun h => by cases h), fun _ => by simp [upd]⟩⟩ hr

end Go.Hp
/- A region that draws its order: the stages serve every order. Own work; nothing of any program. -/
namespace Go.Hp
open Go

def Lst (listed : Array Bool) (i : Nat) : Prop := listed.getD i false = true

theorem Lst_lt {listed : Array Bool} {i : Nat} (h : Lst listed i) : i < listed.size := by
  unfold Lst at h
  rcases Nat.lt_or_ge i listed.size with h' | h'
  · exact h'
  · rw [Array.getD_eq_getD_getElem?, Array.getElem?_eq_none h'] at h; simp at h

theorem not_Lst {listed : Array Bool} {i : Nat} (h : listed.getD i true = false) : ¬ Lst listed i := by
  intro hl
  have := Lst_lt hl
  unfold Lst at hl
  rw [Array.getD_eq_getD_getElem?] at h hl
  simp [this] at h hl
  rw [h] at hl; cases hl

theorem Lst_of {listed : Array Bool} {i : Nat} (hi : i < listed.size) (h : ¬ listed.getD i true = false) : Lst listed i := by
  unfold Lst
  rw [Array.getD_eq_getD_getElem?] at h ⊢
  simp [hi] at h ⊢; exact h

theorem Lst_set {listed : Array Bool} {i j : Nat} (hi : i < listed.size) : Lst (listed.setIfInBounds i true) j ↔ (j = i ∨ Lst listed j) := by
  unfold Lst
  simp only [Array.getD_eq_getD_getElem?, Array.getElem?_setIfInBounds]
  by_cases e : i = j
  · subst e; simp [hi]
  · simp [e, Ne.symm e]

/-- The last listed operation before n that writes t. -/
noncomputable def curW (listed : Array Bool) (ops : Array Oper) : Nat → Nat → Option Nat
  | 0, _ => none
  | k + 1, t => open Classical in if Lst listed k ∧ dstAt ops k = some t then some k else curW listed ops k t

theorem curW_eq {listed : Array Bool} {ops : Array Oper} {t : Nat} : ∀ (n j : Nat), j ≤ n → (∀ i, i < j → dstAt ops i = some t → Lst listed i) → (∀ i, j ≤ i → i < n → dstAt ops i = some t → ¬ Lst listed i) →
    curW listed ops n t = lastW ops j t := by
  intro n
  induction n with
  | zero =>
    intro j hj _ _
    have : j = 0 := by omega
    subst this; rfl
  | succ n ih =>
    intro j hj h1 h2
    by_cases e : j = n + 1
    · subst e
      simp only [curW, lastW]
      by_cases hd : dstAt ops n = some t
      · rw [if_pos ⟨h1 n (by omega) hd, hd⟩, if_pos hd]
      · rw [if_neg (fun h => hd h.2), if_neg hd]
        exact ih n (Nat.le_refl _) (fun i hi => h1 i (by omega)) (fun i hi hi' => by omega)
    · simp only [curW]
      rw [if_neg (fun h => h2 n (by omega) (by omega) h.2 h.1)]
      exact ih j (by omega) h1 (fun i hi hi' => h2 i hi (by omega))

theorem curW_lst {listed : Array Bool} {ops : Array Oper} {t : Nat} : ∀ {n i : Nat}, curW listed ops n t = some i → Lst listed i ∧ i < n := by
  intro n
  induction n with
  | zero => intro i h; cases h
  | succ n ih =>
    intro i h
    simp only [curW] at h
    split at h
    · rename_i hc; cases h; exact ⟨hc.1, by omega⟩
    · have := ih h; exact ⟨this.1, by omega⟩

/-- One more is listed. -/
theorem curW_set {listed : Array Bool} {ops : Array Oper} {i : Nat} (hi : i < listed.size) (hun : ¬ Lst listed i) {t : Nat} : ∀ (n : Nat),
    (dstAt ops i = some t → ∀ k, i < k → k < n → dstAt ops k = some t → ¬ Lst listed k) →
    curW (listed.setIfInBounds i true) ops n t = if i < n ∧ dstAt ops i = some t then some i else curW listed ops n t := by
  intro n
  induction n with
  | zero => intro _; simp [curW]
  | succ n ih =>
    intro h
    have ih' := ih (fun hd k h1 h2 => h hd k h1 (by omega))
    have hs := Lst_set (listed := listed) (i := i) (j := n) hi
    simp only [curW]
    by_cases e : n = i
    · by_cases hd : dstAt ops i = some t
      · rw [if_pos ⟨hs.2 (.inl e), by rw [e]; exact hd⟩, if_pos ⟨by omega, hd⟩, e]
      · have hdn : ¬ dstAt ops n = some t := by rw [e]; exact hd
        rw [if_neg (fun h => hdn h.2), if_neg (fun h => hd h.2), if_neg (fun h => hdn h.2), ih', if_neg (fun h => hd h.2)]
    · have hs' : Lst (listed.setIfInBounds i true) n ↔ Lst listed n := hs.trans ⟨fun h => h.resolve_left e, .inr⟩
      by_cases hc : Lst listed n ∧ dstAt ops n = some t
      · rw [if_pos ⟨hs'.2 hc.1, hc.2⟩, if_pos hc]
        by_cases hd : i < n + 1 ∧ dstAt ops i = some t
        · exact absurd hc.1 (h hd.2 n (by omega) (by omega) hc.2)
        · rw [if_neg hd]
      · rw [if_neg (fun h => hc ⟨hs'.1 h.1, h.2⟩), if_neg hc, ih']
        by_cases hd : i < n ∧ dstAt ops i = some t
        · rw [if_pos hd, if_pos ⟨by omega, hd.2⟩]
        · rw [if_neg hd, if_neg (fun h => hd ⟨by omega, h.2⟩)]

theorem countP_lt {p q : Nat → Bool} : ∀ {l : List Nat}, (∀ x ∈ l, q x = true → p x = true) → (∃ x ∈ l, p x = true ∧ q x = false) → l.countP q < l.countP p := by
  intro l
  induction l with
  | nil => rintro _ ⟨x, hx, _⟩; cases hx
  | cons a l ih =>
    intro h1 h2
    have hle : l.countP q ≤ l.countP p := List.countP_mono_left (fun x hx hq => h1 x (List.mem_cons_of_mem _ hx) hq)
    obtain ⟨x, hx, hp, hq⟩ := h2
    rcases List.mem_cons.1 hx with rfl | hx
    · simp only [List.countP_cons, hp, hq, if_true, Bool.false_eq_true, if_false]; omega
    · have hlt := ih (fun y hy => h1 y (List.mem_cons_of_mem _ hy)) ⟨x, hx, hp, hq⟩
      have ha := h1 a (by simp)
      simp only [List.countP_cons]
      cases hqa : q a <;> cases hpa : p a <;> simp_all <;> omega

def unl (n : Nat) (listed : Array Bool) : Nat := (List.range n).countP fun i => !listed.getD i true

theorem unl_set {n i : Nat} {listed : Array Bool} (hs : listed.size = n) (hi : i < n) (hun : listed.getD i true = false) : unl n (listed.setIfInBounds i true) < unl n listed := by
  refine countP_lt (fun x _ hx => ?_) ⟨i, List.mem_range.2 hi, by rw [hun]; rfl, ?_⟩
  · by_cases e : i = x
    · subst e; rw [hun]; rfl
    · rwa [getD_set_ne true e] at hx
  · simp only [Array.getD_eq_getD_getElem?, Array.getElem?_setIfInBounds]
    simp [hs, hi]

theorem unl_zero {n : Nat} {listed : Array Bool} (h : unl n listed = 0) : ∀ i, i < n → ¬ listed.getD i true = false := by
  intro i hi hun
  have := List.countP_eq_zero.1 h i (List.mem_range.2 hi)
  rw [hun] at this; simp at this

theorem quietAt_oper {ops : Array Oper} {i : Nat} {o : Oper} (ho : ops[i]? = some o) : quietAt ops i = isQuiet o.op := by simp [quietAt, ho]

theorem mem_louds {ops : Array Oper} {l : Nat} : l ∈ loudsOf ops ↔ l < ops.size ∧ quietAt ops l = false := by simp [loudsOf]
theorem mem_quiets {ops : Array Oper} {l : Nat} : l ∈ quietsOf ops ↔ l < ops.size ∧ quietAt ops l = true := by simp [quietsOf]

theorem getD_replicate_false' (m j : Nat) : (Array.replicate m false).getD j false = false := by
  rcases Nat.lt_or_ge j m with h | h
  · simp [h]
  · simp [h]

structure GInv (P : Program) (ops : Array Oper) (σ : Nat → EV) (N : Nat) (ds : List Deferred) (listed : Array Bool) (a : Act) (V : Nat → EV) (m : HP) (E R : List Nat) : Prop where
  size : listed.size = ops.size
  closed : ∀ j oj, ops[j]? = some oj → Lst listed j → ∀ e ∈ oj.after, Region.binds .any e = true → Lst listed e.on
  louds : ∀ l, quietAt ops l = false → Lst listed l → E.contains l = true
  inE : ∀ l, E.contains l = true → Lst listed l
  asize : a.tmps.size = N
  ads : a.defers = ds
  act : ∀ t, a.tmps.getD t undef = (match curW listed ops ops.size t with | some i => V i | none => σ t).v
  all : KnownAll P ops σ V m (R ++ E) (fun j => R.contains j = true ∧ ¬ Lst listed j)
  ever : ∀ j, R.contains j = true → ∃ m0, ValidAt P ops σ V (fun w => Holds w m0) j
  full : ∀ j, j < ops.size → quietAt ops j = true → (∀ l, l < ops.size → quietAt ops l = false → isAnc (ancTab ops ops.size) l j = true → E.contains l = true) → R.contains j = true

section
variable {P : Program} {ops : Array Oper} {σ : Nat → EV} {N : Nat} {ds : List Deferred} {listed : Array Bool} {a : Act} {V : Nat → EV} {m : HP} {E R : List Nat}

theorem contains_app {x y : List Nat} {k : Nat} : (x ++ y).contains k = true ↔ x.contains k = true ∨ y.contains k = true := by simp

theorem GInv.listed_known (h : GInv P ops σ N ds listed a V m E R) {j : Nat} (hj : Lst listed j) : (R ++ E).contains j = true := by
  have hlt : j < ops.size := by rw [← h.size]; exact Lst_lt hj
  by_cases hq : quietAt ops j = true
  · refine contains_app.2 (.inl (h.full j hlt hq fun l hl hlq hal => ?_))
    have ho : ops[j]? = some ops[j] := by simp [hlt]
    exact h.louds l hlq (anc_listed (L := Lst listed) h.closed j _ ho hlt (h.closed j _ ho hj) l hal)
  · exact contains_app.2 (.inr (h.louds j (by simpa using hq) hj))

/-- What an operation that may come up now looks at. -/
theorem GInv.looks (h : GInv P ops σ N ds listed a V m E R) (hd : drawOk ops = true) {i : Nat} {oi : Oper} (ho : ops[i]? = some oi) (hun : listed.getD i true = false)
    (hed : ∀ e ∈ oi.after, Region.binds .any e = true → Lst listed e.on) {t : Nat} (ht : t ∈ readsOf ops oi) : a.tmps.getD t undef = (envAt ops V σ i t).v := by
  have hlt : i < ops.size := (Array.getElem?_eq_some_iff.1 ho).1
  have hc : curW listed ops ops.size t = lastW ops i t := by
    refine curW_eq ops.size i (Nat.le_of_lt hlt) (fun k hk hdk => ?_) (fun k hk hk' hdk hl => ?_)
    · obtain ⟨ok, hok⟩ : ∃ ok, ops[k]? = some ok := by
        cases e : ops[k]? with
        | none => simp [dstAt, e] at hdk
        | some ok => exact ⟨ok, rfl⟩
      have hdk' : ok.dst = some t := by simpa [dstAt, hok] using hdk
      exact anc_listed (L := Lst listed) h.closed i oi ho hlt hed k (drawOk_pair hd hok ho hk (.inl ⟨t, hdk', .inl ht⟩))
    · obtain ⟨ok, hok⟩ : ∃ ok, ops[k]? = some ok := by
        cases e : ops[k]? with
        | none => simp [dstAt, e] at hdk
        | some ok => exact ⟨ok, rfl⟩
      have hdk' : ok.dst = some t := by simpa [dstAt, hok] using hdk
      by_cases e : k = i
      · subst e; exact not_Lst hun hl
      · have := drawOk_pair hd ho hok (by omega) (.inr ⟨t, hdk', ht⟩)
        exact not_Lst hun (anc_listed (L := Lst listed) h.closed k ok hok hk' (h.closed k ok hok hl) i this)
  rw [h.act t, hc]
  rfl

/-- The state behind an operation that has left v in its temporary. -/
theorem GInv.put_act (h : GInv P ops σ N ds listed a V m E R) (hd : drawOk ops = true) (hN : dstOk N ops = true) {i : Nat} {oi : Oper} (ho : ops[i]? = some oi) (hun : listed.getD i true = false) {V' : Nat → EV}
    (hV : ∀ k, Lst listed k → (V' k).v = (V k).v) (t : Nat) :
    (a.put oi.dst (V' i).v).tmps.getD t undef = (match curW (listed.setIfInBounds i true) ops ops.size t with | some k => V' k | none => σ t).v := by
  have hlt : i < ops.size := (Array.getElem?_eq_some_iff.1 ho).1
  have hdst : ∀ d, oi.dst = some d → d < a.tmps.size := fun d hd' => by rw [h.asize]; exact dstOk_spec hN ho d hd'
  have hdi : dstAt ops i = oi.dst := by simp [dstAt, ho]
  rw [getD_put hdst, curW_set (by rw [h.size]; exact hlt) (not_Lst hun) ops.size (fun hdt k hik hk hdk hl => by
    obtain ⟨ok, hok⟩ : ∃ ok, ops[k]? = some ok := by
      cases e : ops[k]? with
      | none => simp [dstAt, e] at hdk
      | some ok => exact ⟨ok, rfl⟩
    have hdk' : ok.dst = some t := by simpa [dstAt, hok] using hdk
    have hdt' : oi.dst = some t := by rw [← hdi]; exact hdt
    have := drawOk_pair hd ho hok hik (.inl ⟨t, hdt', .inr hdk'⟩)
    exact not_Lst hun (anc_listed (L := Lst listed) h.closed k ok hok hk (h.closed k ok hok hl) i this))]
  rw [hdi]
  by_cases e : oi.dst = some t
  · rw [if_pos e, if_pos ⟨hlt, e⟩]
  · rw [if_neg e, if_neg (fun h => e h.2), h.act t]
    cases hc : curW listed ops ops.size t with
    | none => rfl
    | some k => exact (hV k (curW_lst hc).1).symm

theorem GInv.closed_set (h : GInv P ops σ N ds listed a V m E R) {i : Nat} {oi : Oper} (ho : ops[i]? = some oi) (hed : ∀ e ∈ oi.after, Region.binds .any e = true → Lst listed e.on) :
    ∀ j oj, ops[j]? = some oj → Lst (listed.setIfInBounds i true) j → ∀ e ∈ oj.after, Region.binds .any e = true → Lst (listed.setIfInBounds i true) e.on := by
  have hlt : i < listed.size := by rw [h.size]; exact (Array.getElem?_eq_some_iff.1 ho).1
  intro j oj hoj hl e he hb
  rw [Lst_set hlt] at hl ⊢
  rcases hl with rfl | hl
  · obtain rfl : oi = oj := by rw [ho] at hoj; exact Option.some.inj hoj
    exact .inr (hed e he hb)
  · exact .inr (h.closed j oj hoj hl e he hb)

end

theorem KnownAll.perm {P : Program} {ops : Array Oper} {σ V : Nat → EV} {m : HP} {Kn Kn' : List Nat} {S S' : Nat → Prop} (h : KnownAll P ops σ V m Kn S) (hk : ∀ k, Kn.contains k = true ↔ Kn'.contains k = true) (hS : ∀ k, S' k → S k) :
    KnownAll P ops σ V m Kn' S' :=
  ⟨h.ok, fun j hj => readsOk_more (h.reads j ((hk j).2 hj)) (fun k hk' => (hk k).1 hk'), fun j hj => by
    obtain ⟨a, b, c⟩ := h.known j (hS j hj)
    exact ⟨(hk j).1 a, b, c⟩⟩

theorem game {P : Program} {ops : Array Oper} {σ : Nat → EV} (hσ : ∀ t, (σ t).ok) {X : List PanicEntry → HP → Prop} {K : (Nat → EV) → HP → Prop} {N : Nat} {ds : List Deferred} {ro : Option Nat} {nn : Nat}
    {Q : Exit → Act → World → Prop} (hd : drawOk ops = true) (hN : dstOk N ops = true)
    (hX : ∀ c a w m, a.tmps.size = N → a.defers = ds → Holds w m → X c m → Q (.panic c) a w)
    (hQ : ∀ V m a w, Reg N ds a (envAt ops V σ ops.size) → (∀ i, (V i).ok) → Holds w m → K V m → Q .normal a w) :
    ∀ (fuel sf : Nat) (listed : Array Bool) (a : Act) (w : World) (V : Nat → EV) (m : HP) (E R : List Nat), GInv P ops σ N ds listed a V m E R → unl ops.size listed ≤ fuel → Holds w m →
      (match nexts ops (ancTab ops ops.size) E with
        | [] => K V
        | ls => allOf (fun l => denRv P ops σ X [l] (R ++ E) V fun V'' => denDraw P ops (ancTab ops ops.size) σ X K sf (l :: E) R V'') ls) m →
      wpAnyIn (FW ro) nn P .any ops Q fuel listed a w := by
  have fin : ∀ {sf : Nat} {listed : Array Bool} {a : Act} {w : World} {V : Nat → EV} {m : HP} {E R : List Nat}, GInv P ops σ N ds listed a V m E R → Holds w m →
      (match nexts ops (ancTab ops ops.size) E with
        | [] => K V
        | ls => allOf (fun l => denRv P ops σ X [l] (R ++ E) V fun V'' => denDraw P ops (ancTab ops ops.size) σ X K sf (l :: E) R V'') ls) m →
      (∀ i, i < ops.size → Lst listed i) → Q .normal a w := by
    intro sf listed a w V m E R inv hw hst hL
    have hnx : nexts ops (ancTab ops ops.size) E = [] := by
      unfold nexts
      refine List.filter_eq_nil_iff.2 fun l hl => ?_
      obtain ⟨h1, h2⟩ := mem_louds.1 hl
      have := inv.louds l h2 (hL l h1)
      rw [this]; simp
    rw [hnx] at hst
    refine hQ V m a w ⟨inv.asize, fun t => ?_, envAt_ok inv.all.ok hσ _, inv.ads⟩ inv.all.ok hw hst
    rw [inv.act t, curW_eq ops.size ops.size (Nat.le_refl _) (fun i hi _ => hL i hi) (fun i hi hi' => by omega)]
    rfl
  intro fuel
  induction fuel with
  | zero =>
    intro sf listed a w V m E R inv hun hw hst
    have hall : ∀ i, i < ops.size → ¬ listed.getD i true = false := unl_zero (by omega)
    have hready : Region.ready .any ops listed = [] := by
      cases hr : Region.ready .any ops listed with
      | nil => rfl
      | cons i rs =>
        have hi : i ∈ Region.ready .any ops listed := by rw [hr]; simp
        obtain ⟨h1, oi, h2, _⟩ := mem_ready.1 hi
        exact absurd h1 (hall i (Array.getElem?_eq_some_iff.1 h2).1)
    exact ⟨hready, fin inv hw hst fun i hi => Lst_of (by rw [inv.size]; exact hi) (hall i hi)⟩
  | succ fuel ih =>
    intro sf listed a w V m E R inv hun hw hst
    refine ⟨fun hready => fin inv hw hst ?_, fun i hi => ?_⟩
    · intro i
      induction i using Nat.strongRecOn with
      | _ i ihi =>
        intro hi
        refine Lst_of (by rw [inv.size]; exact hi) fun hun => ?_
        have ho : ops[i]? = some ops[i] := by simp [hi]
        have : i ∈ Region.ready .any ops listed := mem_ready.2 ⟨hun, _, ho, fun e he hb => ihi e.on (drawOk_edges hd ho e he hb) (by have := drawOk_edges hd ho e he hb; omega)⟩
        rw [hready] at this; cases this
    · obtain ⟨hiun, oi, ho, hed⟩ := mem_ready.1 hi
      have hlt : i < ops.size := (Array.getElem?_eq_some_iff.1 ho).1
      have hlt' : i < listed.size := by rw [inv.size]; exact hlt
      have hanc : ∀ k, isAnc (ancTab ops ops.size) k i = true → Lst listed k := anc_listed (L := Lst listed) inv.closed i oi ho hlt hed
      have hun' : unl ops.size (listed.setIfInBounds i true) ≤ fuel := by have := unl_set inv.size hlt hiun; omega
      have hlook := fun t ht => inv.looks (t := t) hd ho hiun hed ht
      have habout : ∀ f, oi.about P w a.eval = some f → (FW ro).fn f := fun _ _ => trivial
      unfold wpOpIn
      rw [ho]
      simp only
      have hwant : ∀ (V1 : Nat → EV) b, (∀ k, (V1 k).v = (V k).v) → Wanted ops V1 oi i b → Region.wanted oi (yielded ops a.tmps) = b := fun V1 b hv hb => wanted_eq hb fun g want d hg hdg hl => by
        rw [hlook d (guard_reads hg hdg), hv]; simp [envAt, hl]
      by_cases hq : quietAt ops i = true
      · -- a quiet operation: its value is known
        have hR : R.contains i = true := inv.full i hlt hq fun l hl hlq hal => inv.louds l hlq (hanc l hal)
        obtain ⟨_, _, ⟨o', b, ho', hwb, h1, h2⟩, hpure⟩ := inv.all.known i ⟨hR, not_Lst hiun⟩
        obtain rfl : oi = o' := by rw [ho] at ho'; exact Option.some.inj ho'
        have hgo : wpAnyIn (FW ro) nn P .any ops Q fuel (listed.setIfInBounds i true) (a.put oi.dst (V i).v) w := by
          refine ih sf _ _ w V m E R ⟨by simp [inv.size], inv.closed_set ho hed, ?_, ?_, by rw [put_size, inv.asize], by rw [put_defers, inv.ads], inv.put_act hd hN ho hiun (fun _ _ => rfl), ?_, inv.ever, inv.full⟩ hun' hw hst
          · intro l hl hll
            rcases (Lst_set hlt').1 hll with rfl | hll
            · rw [hq] at hl; cases hl
            · exact inv.louds l hl hll
          · exact fun l hl => (Lst_set hlt').2 (.inr (inv.inE l hl))
          · exact inv.all.perm (fun _ => Iff.rfl) fun k hk => ⟨hk.1, fun hl => hk.2 ((Lst_set hlt').2 (.inr hl))⟩
        rw [hwant V b (fun _ => rfl) hwb]
        cases b with
        | true =>
          obtain ⟨g1, g2, g3⟩ := h1 rfl
          simp only [if_true]
          refine ⟨habout, ?_⟩
          have he : execOp a.eval oi = execOp (fun x => (evE (envAt ops V σ i) x).v) oi := execOp_congr oi g2 fun x hx => by
            cases x with
            | tmp t => exact hlook t (by unfold readsOf tmpsOf; exact List.mem_append.2 (.inl (List.mem_filterMap.2 ⟨.tmp t, by simpa using hx, rfl⟩)))
            | _ => rfl
          rw [Oper.semAt_eq _ _ _ g1, he, g3 w hw]
          exact hgo
        | false =>
          simp only [Bool.false_eq_true, if_false]
          rw [h2 rfl] at hgo
          exact ⟨habout, hgo⟩
      · -- a loud one
        have hq' : quietAt ops i = false := by simpa using hq
        have hiE : E.contains i = false := by
          cases hc : E.contains i with
          | false => rfl
          | true => exact absurd (inv.inE i hc) (not_Lst hiun)
        have hmem : i ∈ nexts ops (ancTab ops ops.size) E := by
          unfold nexts
          refine List.mem_filter.2 ⟨mem_louds.2 ⟨hlt, hq'⟩, ?_⟩
          rw [hiE]
          simp only [Bool.not_false, Bool.true_and, List.all_eq_true, Bool.or_eq_true, Bool.not_eq_true']
          intro l hl
          cases hal : isAnc (ancTab ops ops.size) l i with
          | false => exact .inl rfl
          | true => exact .inr (inv.louds l (mem_louds.1 hl).2 (hanc l hal))
        have hstage : denRv P ops σ X [i] (R ++ E) V (fun V'' => denDraw P ops (ancTab ops ops.size) σ X K sf (i :: E) R V'') m := by
          generalize hnx : nexts ops (ancTab ops ops.size) E = ls at hst hmem
          cases ls with
          | nil => cases hmem
          | cons l ls => exact allOf_mem hst i hmem
        simp only [denRv, ho] at hstage
        generalize hrr : (readsOk ops (R ++ E) i && !(R ++ E).contains i) = rr at hstage
        split at hstage
        · exact hstage.elim
        · simp only [Bool.and_eq_true, Bool.not_eq_true'] at hrr
          obtain ⟨hr1, hr2⟩ := hrr
          obtain ⟨V1, hv1, ho1, hgw⟩ := guarded_sound inv.all.ok hstage
          have hK1 := inv.all.values hv1 ho1
          -- the next stage
          have hgo : ∀ (ev : EV) (m' : HP) (w' : World), ev.ok → Holds w' m' → denDraw P ops (ancTab ops ops.size) σ X K sf (i :: E) R (upd V1 i ev) m' →
              wpAnyIn (FW ro) nn P .any ops Q fuel (listed.setIfInBounds i true) (a.put oi.dst ev.v) w' := by
            intro ev m' w' hev hw' hdd
            cases sf with
            | zero => exact hdd.elim
            | succ sf =>
              simp only [denDraw] at hdd
              have hK2 := hK1.add hr2 hr1 hev
              have hne : ∀ k, (R ++ E).contains k = true → (upd V1 i ev k).v = (V k).v := fun k hk => by
                have : k ≠ i := fun e => by subst e; rw [hr2] at hk; cases hk
                simp only [upd, if_neg this]; exact hv1 k
              have hever : ∀ j, R.contains j = true → ∃ m0, ValidAt P ops σ (upd V1 i ev) (fun w => Holds w m0) j := fun j hj => by
                obtain ⟨m0, hv⟩ := inv.ever j hj
                have hjk := contains_app.2 (.inl hj : R.contains j = true ∨ E.contains j = true)
                exact ⟨m0, hv.change (inv.all.reads j hjk) (hne j hjk) hne (fun _ h => h)⟩
              have hrq : ∀ j ∈ rechecks P ops (ancTab ops ops.size) (i :: E) R, quietAt ops j = true := fun j hj => by
                have := (List.mem_filter.1 hj).2
                simp only [Bool.and_eq_true] at this
                exact this.1.1
              obtain ⟨hre, hrest⟩ := denRe_sound hσ (upd_ok ho1 hev) hrq (fun j hj => hever j (by have := (List.mem_filter.1 hj).1; simpa using this)) hdd
              have hS : KnownAll P ops σ (upd V1 i ev) m' (R ++ (i :: E)) (fun j => R.contains j = true ∧ ¬ Lst (listed.setIfInBounds i true) j) := by
                have hperm : ∀ k, (i :: (R ++ E)).contains k = true ↔ (R ++ (i :: E)).contains k = true := fun k => by
                  simp only [List.contains_cons, List.contains_append, Bool.or_eq_true]
                  constructor
                  · rintro (h | h | h)
                    · exact .inr (.inl h)
                    · exact .inl h
                    · exact .inr (.inr h)
                  · rintro (h | h | h)
                    · exact .inr (.inl h)
                    · exact .inl h
                    · exact .inr (.inr h)
                refine ⟨hK2.ok, fun j hj => readsOk_more (hK2.reads j ((hperm j).2 hj)) (fun k hk => (hperm k).1 hk), fun j hj => ?_⟩
                have hjl : ¬ Lst listed j := fun hl => hj.2 ((Lst_set hlt').2 (.inr hl))
                obtain ⟨a1, a2, a3, a4⟩ := hK2.known j ⟨hj.1, hjl⟩
                refine ⟨(hperm j).1 a1, a2, ?_, a4⟩
                by_cases hh : heapyAt P ops j = true
                · refine hre j (List.mem_filter.2 ⟨by simpa using hj.1, ?_⟩)
                  rw [a2, hh]
                  simp only [Bool.and_self, Bool.true_and, Bool.not_eq_true', List.any_eq_false]
                  intro l hl hal
                  have hl' : Lst (listed.setIfInBounds i true) l := by
                    rcases List.mem_cons.1 hl with rfl | hl
                    · exact (Lst_set hlt').2 (.inl rfl)
                    · exact (Lst_set hlt').2 (.inr (inv.inE l (by simpa using hl)))
                  have hll : l < ops.size := by have := Lst_lt hl'; simpa [inv.size] using this
                  have hol : ops[l]? = some ops[l] := by simp [hll]
                  exact hj.2 (anc_listed (L := Lst (listed.setIfInBounds i true)) (inv.closed_set ho hed) l _ hol hll (inv.closed_set ho hed l _ hol hl') j hal)
                · obtain ⟨o2, b2, q1, q2, q3, q4⟩ := a4 (by simpa using hh)
                  exact ⟨o2, b2, q1, q2, fun hb => ⟨(q3 hb).1, (q3 hb).2.1, fun w _ => (q3 hb).2.2 w trivial⟩, q4⟩
              have hvq : ∀ j ∈ reveals ops (ancTab ops ops.size) (i :: E) R, quietAt ops j = true := fun j hj => (mem_quiets.1 (List.mem_filter.1 hj).1).2
              obtain ⟨V3, hK3, hv3, hst3⟩ := denRv_sound hσ hvq hS hrest
              have hlk : ∀ k, Lst (listed.setIfInBounds i true) k → (R ++ (i :: E)).contains k = true := fun k hk => by
                rcases (Lst_set hlt').1 hk with rfl | hk
                · simp
                · have := contains_app.1 (inv.listed_known hk)
                  rcases this with h | h
                  · exact contains_app.2 (.inl h)
                  · exact contains_app.2 (.inr (by rw [List.contains_cons, h]; simp))
              have hVi : (V3 i).v = ev.v := by rw [hv3 i (by simp)]; simp [upd]
              have hact := inv.put_act (V' := V3) hd hN ho hiun (fun k hk => by
                have hk' := inv.listed_known hk
                have hk2 := hlk k ((Lst_set hlt').2 (.inr hk))
                rw [hv3 k hk2, hne k hk'])
              rw [hVi] at hact
              refine ih sf _ _ w' V3 m' (i :: E) (R ++ reveals ops (ancTab ops ops.size) (i :: E) R) ⟨by simp [inv.size], inv.closed_set ho hed, ?_, ?_, by rw [put_size, inv.asize], by rw [put_defers, inv.ads], hact, ?_, ?_, ?_⟩ hun' hw' hst3
              · intro l hl hll
                rcases (Lst_set hlt').1 hll with rfl | hll
                · simp
                · rw [List.contains_cons, inv.louds l hl hll]; simp
              · intro l hl
                rw [List.contains_cons, Bool.or_eq_true] at hl
                rcases hl with hl | hl
                · exact (Lst_set hlt').2 (.inl (by simpa using hl))
                · exact (Lst_set hlt').2 (.inr (inv.inE l hl))
              · refine hK3.perm (fun k => ?_) fun k hk => ?_
                · simp only [List.contains_append, List.contains_cons, Bool.or_eq_true, List.contains_reverse]
                  constructor
                  · rintro (h | h | h | h)
                    · exact .inl (.inr h)
                    · exact .inl (.inl h)
                    · exact .inr (.inl h)
                    · exact .inr (.inr h)
                  · rintro ((h | h) | h | h)
                    · exact .inr (.inl h)
                    · exact .inl h
                    · exact .inr (.inr (.inl h))
                    · exact .inr (.inr (.inr h))
                · rcases contains_app.1 hk.1 with h | h
                  · exact .inl ⟨h, hk.2⟩
                  · exact .inr (by simpa using h)
              · intro j hj
                rcases contains_app.1 hj with h | h
                · obtain ⟨m0, hv⟩ := hever j h
                  have hjk : (R ++ (i :: E)).contains j = true := contains_app.2 (.inl h)
                  exact ⟨m0, hv.change (hS.reads j hjk) (hv3 j hjk) hv3 (fun _ h => h)⟩
                · exact ⟨m', (hK3.known j (.inr (by simpa using h))).2.2.1⟩
              · intro j hj hjq hja
                by_cases hjR : R.contains j = true
                · exact contains_app.2 (.inl hjR)
                · refine contains_app.2 (.inr ?_)
                  have : j ∈ reveals ops (ancTab ops ops.size) (i :: E) R := by
                    unfold reveals
                    refine List.mem_filter.2 ⟨mem_quiets.2 ⟨hj, hjq⟩, ?_⟩
                    have hjR' : R.contains j = false := by simpa using hjR
                    rw [hjR']
                    simp only [Bool.not_false, Bool.true_and, List.all_eq_true, Bool.or_eq_true, Bool.not_eq_true']
                    intro l hl
                    obtain ⟨l1, l2⟩ := mem_louds.1 hl
                    cases hal : isAnc (ancTab ops ops.size) l j with
                    | false => exact .inl rfl
                    | true => exact .inr (hja l l1 l2 hal)
                  simpa using this
          rcases hgw with ⟨hwb, hr⟩ | ⟨hwb, hr⟩
          · rw [hwant V1 _ hv1 hwb]
            simp only [if_true]
            obtain ⟨hnd, hns⟩ := denOne_not hr
            refine ⟨habout, ?_⟩
            have he : execOp a.eval oi = execOp (fun x => (evE (envAt ops V1 σ i) x).v) oi := execOp_congr oi hns fun x hx => by
              cases x with
              | tmp t =>
                have h1 := hlook t (by unfold readsOf tmpsOf; exact List.mem_append.2 (.inl (List.mem_filterMap.2 ⟨.tmp t, by simpa using hx, rfl⟩)))
                refine h1.trans ?_
                simp only [evE, envAt]; split <;> simp [hv1]
              | _ => rfl
            rw [Oper.semAt_eq _ _ _ hnd, he]
            refine (denOne_in (envAt_ok ho1 hσ i) hr hw).upon ?_ ?_
            · rintro v w' m' hw' ⟨ev, rfl, hev, hk⟩
              exact hgo ev m' w' hev hw' hk
            · intro c w' m' hw' hx
              exact hX c a w' m' inv.asize inv.ads hw' hx
          · rw [hwant V1 _ hv1 hwb]
            simp only [Bool.false_eq_true, if_false]
            exact ⟨habout, hgo ⟨undef, none⟩ m w (EV.ok_none _) hw hr⟩

/-- **A region that draws.** -/
theorem draw_sound {P : Program} {ops : Array Oper} {σ : Nat → EV} (hσ : ∀ t, (σ t).ok) {X : List PanicEntry → HP → Prop} {K : (Nat → EV) → HP → Prop} {N : Nat} {ds : List Deferred} {ro : Option Nat} {nn : Nat}
    {Q : Exit → Act → World → Prop} (hd : drawOk ops = true) (hN : dstOk N ops = true)
    (hX : ∀ c a w m, a.tmps.size = N → a.defers = ds → Holds w m → X c m → Q (.panic c) a w)
    (hQ : ∀ V m a w, Reg N ds a (envAt ops V σ ops.size) → (∀ i, (V i).ok) → Holds w m → K V m → Q .normal a w) {id n : Nat} {a : Act} {w : World} {m : HP}
    (hm : P.follows .mixedOrders = true) (ha : Reg N ds a σ) (hw : Holds w m) (h : denDraw P ops (ancTab ops ops.size) σ X K n [] [] (fun _ => ⟨undef, none⟩) m) :
    (Code.region id ops true).wpIn (FW ro) nn P Q a w := by
  refine wpIn_region_any hm ?_
  cases n with
  | zero => exact h.elim
  | succ n =>
    simp only [denDraw, rechecks, List.filter_nil, denRe, List.append_nil, List.nil_append] at h
    have hun0 : ∀ i, ¬ Lst (Array.replicate ops.size false) i := fun i hl => by
      unfold Lst at hl
      rw [getD_replicate_false'] at hl
      cases hl
    have hK0 : KnownAll P ops σ (fun _ => ⟨undef, none⟩) m [] (fun _ => False) := ⟨fun _ => EV.ok_none _, fun j hj => by simp at hj, fun j hj => hj.elim⟩
    have hvq : ∀ j ∈ reveals ops (ancTab ops ops.size) [] [], quietAt ops j = true := fun j hj => (mem_quiets.1 (List.mem_filter.1 hj).1).2
    obtain ⟨V, hK, _, hst⟩ := denRv_sound hσ hvq hK0 h
    refine game hσ hd hN hX hQ ops.size n _ a { w with drawn := w.drawn + 1 } V m [] (reveals ops (ancTab ops ops.size) [] []) ⟨by simp, fun j _ _ hl => absurd hl (hun0 j), fun l _ hl => absurd hl (hun0 l), fun l hl => by simp at hl, ha.size, ha.ds, fun t => ?_, ?_, ?_, ?_⟩ ?_ (hw.of_heap rfl) (by simp only [List.append_nil]; exact hst)
    · rw [ha.eq t, curW_eq ops.size 0 (Nat.zero_le _) (fun i hi => by omega) (fun i _ _ _ => hun0 i)]; rfl
    · refine hK.perm (fun k => by simp) fun k hk => .inr (by simpa using hk.1)
    · exact fun j hj => ⟨m, (hK.known j (.inr (by simpa using hj))).2.2.1⟩
    · intro j hj hjq hja
      have : j ∈ reveals ops (ancTab ops ops.size) [] [] := by
        unfold reveals
        refine List.mem_filter.2 ⟨mem_quiets.2 ⟨hj, hjq⟩, ?_⟩
        simp only [List.contains_nil, Bool.not_false, Bool.true_and, List.all_eq_true, Bool.or_eq_true, Bool.not_eq_true']
        intro l hl
        obtain ⟨l1, l2⟩ := mem_louds.1 hl
        cases hal : isAnc (ancTab ops ops.size) l j with
        | false => exact .inl rfl
        | true => have := hja l l1 l2 hal; simp at this
      simpa using this
    · unfold unl
      exact Nat.le_trans List.countP_le_length (by simp)

end Go.Hp
/- Code and functions over heaplets. Own work; nothing of any program. -/
namespace Go.Hp
open Go

/-! ### Live variables, as a tuple -/
@[reducible] def Tup : List (Nat × Ty) → Type
  | [] => Unit
  | (_, t) :: l => t.T × Tup l

def projOk : List (Nat × Ty) → (Nat → EV) → Bool
  | [], _ => true
  | (i, t) :: l, σ => t.is (σ i).v && projOk l σ
def proj : (L : List (Nat × Ty)) → (Nat → EV) → Tup L
  | [], _ => ()
  | (i, t) :: l, σ => (t.un (σ i).v, proj l σ)
/-- The live ones are x's, those of W are s's, the others as they were. -/
def loopEnv : (L : List (Nat × Ty)) → (W : List Nat) → Tup L → (Nat → EV) → (Nat → EV) → Nat → EV
  | [], W, _, s, σ, t => match W.contains t with | true => s t | false => σ t
  | (i, ty) :: l, W, x, s, σ, t => match t == i with | true => ⟨ty.val x.1, none⟩ | false => loopEnv l W x.2 s σ t

def hLoop {α : Type} (x0 : α) (body : α → (α → HP → Prop) → HP → Prop) : HP → Prop := fun m =>
  ∃ I : Nat → α → HP → Prop, (∃ k, I k x0 m) ∧ ∀ k x m, I k x m → body x (fun x' m' => ∃ k', k' < k ∧ I k' x' m') m
def hLet {α : Type} (A : (α → HP → Prop) → HP → Prop) (k : α → HP → Prop) : HP → Prop := fun m =>
  ∃ J : α → HP → Prop, (∀ x m, J x m → k x m) ∧ A J m
def hAll (f : (Nat → EV) → HP → Prop) : HP → Prop := fun m => ∀ s, (∀ t, (s t).ok) → f s m

structure Ann where
  loop : List (Nat × List (Nat × Ty)) := []
  cut : List (Nat × List (Nat × Ty)) := []
  range : List (Nat × List Nat) := []

def keyOf : Code → Option Nat
  | .region id _ _ => some id
  | .seq a b => match keyOf a with | some k => some k | none => keyOf b
  | .cond _ a b => match keyOf a with | some k => some k | none => keyOf b
  | .block _ b | .loop b | .scope b => keyOf b
  | _ => none

def lookupN {α : Type} : List (Nat × α) → Nat → Option α
  | [], _ => none
  | (k, v) :: l, n => match n == k with | true => some v | false => lookupN l n

def annOf (l : List (Nat × List (Nat × Ty))) (c : Code) : Option (List (Nat × Ty)) :=
  match keyOf c with | some k => lookupN l k | none => none

def writes : Code → List Nat
  | .region _ ops _ => ops.toList.filterMap (·.dst)
  | .seq a b => writes a ++ writes b
  | .cond _ a b => writes a ++ writes b
  | .block _ b | .loop b | .scope b => writes b
  | .rangeFunc _ _ a b => writes a ++ writes b
  | _ => []

def noRange : Code → Bool
  | .seq a b => noRange a && noRange b
  | .cond _ a b => noRange a && noRange b
  | .block _ b | .loop b | .scope b => noRange b
  | .rangeFunc .. => false
  | _ => true

def codeOk (N : Nat) : Code → Bool
  | .region _ ops draw => dstOk N ops && (!draw || drawOk ops)
  | .seq a b => codeOk N a && codeOk N b
  | .cond _ a b => codeOk N a && codeOk N b
  | .block _ b | .loop b | .scope b => codeOk N b
  | _ => true

def mkLoop (fn : FuncId) (tm : Array Value) (ps : Array Tmp) (assign body : Code) (r : Nat) : Loop :=
  { state := .ready, pending := none, fn, tmps := tm, params := ps, assign, body, defers := r }

/-- A loop's record, as the loop begins: its code, and the values of some temporaries. -/
def IsLoop (N : Nat) (vals : List (Nat × Value)) (c : Code) (rc : Loop) : Prop :=
  rc.state = .ready ∧ rc.pending = none ∧ rc.tmps.size = N ∧ (∃ g, c = .rangeFunc g rc.params rc.assign rc.body) ∧ ∀ p ∈ vals, rc.tmps.getD p.1 undef = p.2

/-- A range over a function: the loop's record l, the block r for deferred calls; the function is called. -/
def hRange (P : Program) (N : Nat) (g : Value) (vals : List (Nat × Value)) (c : Code) (Kn Kr : Nat → HP → Prop) (Ke : Nat → Nat → HP → Prop) : HP → Prop := fun m =>
  ∃ f fs cs, g = .func (.func f) fs cs ∧ ∀ (l r : Nat) (rc0 : Loop), IsLoop N vals c rc0 →
    Does P f ⟨fs.toList ++ [.func (.yield l) #[] #[]] ++ cs.toList⟩ (pt l (.loop rc0) + (pt r (.deferred (some [])) + m)) fun e m3 =>
      (∃ v, e = .returned v) ∧ ∃ rc m4, m3 = pt l (.loop rc) + m4 ∧ (rc.state == .busy) = false ∧
        match rc.pending with
        | none => Kn r (pt l (.loop { rc with state := .exhausted }) + m4)
        | some .ret => Kr r (pt l (.loop { rc with state := .exhausted }) + m4)
        | some (.exit id) => Ke id r (pt l (.loop { rc with state := .exhausted }) + m4)
        | _ => False

def hPick (b : Bool) (x y : HP → Prop) : HP → Prop := match b with | true => x | false => y

def valsOf (L : List Nat) (σ : Nat → EV) : List (Nat × Value) := L.map fun t => (t, (σ t).v)

def den (P : Program) (ann : Ann) (N : Nat) (top : Bool) : Code → (Nat → EV) → List Nat → (Exit → (Nat → EV) → List Nat → HP → Prop) → (List PanicEntry → HP → Prop) → HP → Prop
  | .skip, σ, mk, Q, _ => Q .normal σ mk
  | .ret, σ, mk, Q, _ => Q .ret σ mk
  | .exit id, σ, mk, Q, _ => Q (.exit id) σ mk
  | .seq a b, σ, mk, Q, X =>
    match annOf ann.cut b, noRange a with
    | some L, true => hLet (fun k => den P ann N top a σ mk (fun e σ' mk' => match e with | .normal => (match projOk L σ' with | true => k (proj L σ') | false => no) | e => Q e σ' mk') X)
        (fun x => hAll fun s => den P ann N top b (loopEnv L (writes a) x s σ) mk Q X)
    | _, _ => den P ann N top a σ mk (fun e σ' mk' => match e with | .normal => den P ann N top b σ' mk' Q X | e => Q e σ' mk') X
  | .cond c t e, σ, mk, Q, X =>
    match (evE σ c).lit with
    | some true => den P ann N top t σ mk Q X
    | some false => den P ann N top e σ mk Q X
    | none => match (evE σ c).v with | .bool b => hIf b (den P ann N top t σ mk Q X) (den P ann N top e σ mk Q X) | _ => no
  | .block id body, σ, mk, Q, X =>
    den P ann N top body σ mk (fun e σ' mk' => match e with | .exit i => (match i == id with | true => Q .normal σ' mk' | false => Q (.exit i) σ' mk') | e => Q e σ' mk') X
  | .loop body, σ, mk, Q, X =>
    match annOf ann.loop body, noRange body with
    | some L, true =>
      match projOk L σ with
      | true => hLoop (proj L σ) fun x again => hAll fun s => den P ann N top body (loopEnv L (writes body) x s σ) mk
          (fun e σ' mk' => match e with | .normal => (match projOk L σ' with | true => again (proj L σ') | false => no) | e => Q e σ' mk') X
      | false => no
    | _, _ => no
  | .region _ ops draw, σ, mk, Q, X =>
    match draw with
    | false => denOps P ops σ X (List.range' 0 ops.size) (fun _ => ⟨undef, none⟩) fun V => Q .normal (envAt ops V σ ops.size) mk
    | true => denDraw P ops (ancTab ops ops.size) σ X (fun V => Q .normal (envAt ops V σ ops.size) mk) (ops.size + 1) [] [] (fun _ => ⟨undef, none⟩)
  | .rangeFunc g ps assign body, σ, mk, Q, _ =>
    match top with
    | true =>
      match keyOf body with
      | some k => match lookupN ann.range k with
        | some L => hRange P N (evE σ g).v (valsOf L σ) (.rangeFunc g ps assign body) (fun r => Q .normal σ (r :: mk)) (fun r => Q .ret σ (r :: mk)) (fun id r => Q (.exit id) σ (r :: mk))
        | none => no
      | none => no
    | false => no
  | _, _, _, _, _ => no

/-! ### Sound -/
def dsOf (mk : List Nat) : List Deferred := mk.map fun r => { target := .collected r, args := #[] }

def PostR (N : Nat) (W : List Nat) (nr : Bool) (σ : Nat → EV) (mk : List Nat) (Q : Exit → (Nat → EV) → List Nat → HP → Prop) (X : List PanicEntry → HP → Prop) : Exit → Act → World → Prop
  | .panic c, a, w => ∃ m mk', Holds w m ∧ X c m ∧ a.defers = dsOf mk' ∧ (nr = true → mk' = mk)
  | .outgrown, _, _ => False
  | .goto _, _, _ => False
  | e, a, w => ∃ σ' mk' m, Reg N (dsOf mk') a σ' ∧ Holds w m ∧ Q e σ' mk' m ∧ (∀ t, W.contains t = false → (σ' t).v = (σ t).v) ∧ (nr = true → mk' = mk)

theorem loopEnv_spec {W : List Nat} {s σ : Nat → EV} : ∀ {L : List (Nat × Ty)} {σ' : Nat → EV}, projOk L σ' = true → (∀ t, W.contains t = true → (s t).v = (σ' t).v) → (∀ t, W.contains t = false → (σ t).v = (σ' t).v) →
    ∀ t, (loopEnv L W (proj L σ') s σ t).v = (σ' t).v := by
  intro L
  induction L with
  | nil =>
    intro σ' _ h1 h2 t
    simp only [loopEnv]
    split
    · rename_i h; exact h1 t h
    · rename_i h; exact h2 t h
  | cons p l ih =>
    obtain ⟨i, ty⟩ := p
    intro σ' hp h1 h2 t
    simp only [projOk, Bool.and_eq_true] at hp
    simp only [loopEnv, proj]
    split
    · rename_i h
      have : t = i := by simpa using h
      subst this
      exact Ty.val_un hp.1
    · exact ih hp.2 h1 h2 t

theorem loopEnv_ok {W : List Nat} {s σ : Nat → EV} (hs : ∀ t, (s t).ok) (hσ : ∀ t, (σ t).ok) : ∀ {L : List (Nat × Ty)} {x : Tup L} (t : Nat), (loopEnv L W x s σ t).ok := by
  intro L
  induction L with
  | nil => intro x t; simp only [loopEnv]; split <;> first | exact hs _ | exact hσ _
  | cons p l ih =>
    obtain ⟨i, ty⟩ := p
    intro x t
    simp only [loopEnv]
    split
    · exact EV.ok_none _
    · exact ih t

theorem lastW_writes {ops : Array Oper} {n t k : Nat} (h : lastW ops n t = some k) : (ops.toList.filterMap (·.dst)).contains t = true := by
  have := (lastW_lt h).2
  unfold dstAt at this
  cases ho : ops[k]? with
  | none => rw [ho] at this; cases this
  | some o =>
    rw [ho] at this
    simp only [List.contains_iff_mem]
    exact List.mem_filterMap.2 ⟨o, by rw [← Array.getElem?_toList] at ho; exact List.mem_of_getElem? ho, this⟩

theorem contains_append_false {x y : List Nat} {t : Nat} : (x ++ y).contains t = false ↔ x.contains t = false ∧ y.contains t = false := by
  rw [List.contains_append, Bool.or_eq_false_iff]

theorem least {p : Nat → Prop} (h : ∃ k, p k) : ∃ k, p k ∧ ∀ j, p j → k ≤ j := by
  obtain ⟨k, hk⟩ := h
  induction k using Nat.strongRecOn with
  | _ k ih =>
    by_cases hx : ∃ j, j < k ∧ p j
    · obtain ⟨j, hj, hpj⟩ := hx
      exact ih j hj hpj
    · exact ⟨k, hk, fun j hj => Nat.le_of_not_lt fun hlt => hx ⟨j, hlt, hj⟩⟩

theorem den_sound {P : Program} (hm : P.follows .mixedOrders = true) {ann : Ann} {N : Nat} {top : Bool} {ro : Option Nat} (htop : top = true → ro = none) {n : Nat} {X : List PanicEntry → HP → Prop} :
    ∀ (c : Code) (σ : Nat → EV) (mk : List Nat) (Q : Exit → (Nat → EV) → List Nat → HP → Prop) (m : HP) (a : Act) (w : World), codeOk N c = true → den P ann N top c σ mk Q X m → Reg N (dsOf mk) a σ → Holds w m →
      c.wpIn (FW ro) n P (PostR N (writes c) (noRange c) σ mk Q X) a w := by
  intro c
  induction c with
  | skip => intro σ mk Q m a w _ h ha hw; exact wpIn_skip ⟨σ, mk, m, ha, hw, h, fun _ _ => rfl, fun _ => rfl⟩
  | ret => intro σ mk Q m a w _ h ha hw; exact wpIn_ret ⟨σ, mk, m, ha, hw, h, fun _ _ => rfl, fun _ => rfl⟩
  | exit id => intro σ mk Q m a w _ h ha hw; exact wpIn_exit ⟨σ, mk, m, ha, hw, h, fun _ _ => rfl, fun _ => rfl⟩
  | scope b _ => intro σ mk Q m a w _ h; exact h.elim
  | label l => intro σ mk Q m a w _ h; exact h.elim
  | goto l => intro σ mk Q m a w _ h; exact h.elim
  | refuse s => intro σ mk Q m a w _ h; exact h.elim
  | cond c t e iht ihe =>
    intro σ mk Q m a w hok h ha hw
    simp only [codeOk, Bool.and_eq_true] at hok
    simp only [den] at h
    have hev : a.eval c = (evE σ c).v := by rw [eval_eq ha.eq]
    have hc := evE_ok ha.ok c
    have monoT : ∀ e' a' w', PostR N (writes t) (noRange t) σ mk Q X e' a' w' → PostR N (writes (.cond c t e)) (noRange (.cond c t e)) σ mk Q X e' a' w' := by
      intro e' a' w' hp
      cases e' <;> first
        | exact hp.elim
        | (obtain ⟨σ', mk', m', h1, h2, h3, h4, h5⟩ := hp
           exact ⟨σ', mk', m', h1, h2, h3, fun u hu => h4 u (contains_append_false.1 hu).1, fun hn => h5 (by simp only [noRange, Bool.and_eq_true] at hn; exact hn.1)⟩)
        | (obtain ⟨m', mk', h1, h2, h3, h4⟩ := hp
           exact ⟨m', mk', h1, h2, h3, fun hn => h4 (by simp only [noRange, Bool.and_eq_true] at hn; exact hn.1)⟩)
    have monoE : ∀ e' a' w', PostR N (writes e) (noRange e) σ mk Q X e' a' w' → PostR N (writes (.cond c t e)) (noRange (.cond c t e)) σ mk Q X e' a' w' := by
      intro e' a' w' hp
      cases e' <;> first
        | exact hp.elim
        | (obtain ⟨σ', mk', m', h1, h2, h3, h4, h5⟩ := hp
           exact ⟨σ', mk', m', h1, h2, h3, fun u hu => h4 u (contains_append_false.1 hu).2, fun hn => h5 (by simp only [noRange, Bool.and_eq_true] at hn; exact hn.2)⟩)
        | (obtain ⟨m', mk', h1, h2, h3, h4⟩ := hp
           exact ⟨m', mk', h1, h2, h3, fun hn => h4 (by simp only [noRange, Bool.and_eq_true] at hn; exact hn.2)⟩)
    generalize hl : (evE σ c).lit = l at h
    split at h
    · exact wpIn_cond_true (by rw [hev, hc _ hl]) (wpIn_mono (iht σ mk Q m a w hok.1 h ha hw) monoT)
    · exact wpIn_cond_false (by rw [hev, hc _ hl]) (wpIn_mono (ihe σ mk Q m a w hok.2 h ha hw) monoE)
    · generalize hv : (evE σ c).v = v at h
      split at h
      · rename_i b
        refine wpIn_cond_split (t := b) (by rw [hev, hv]) (fun hb => ?_) (fun hb => ?_)
        · exact wpIn_mono (iht σ mk Q m a w hok.1 (h.1 hb) ha hw) monoT
        · exact wpIn_mono (ihe σ mk Q m a w hok.2 (h.2 hb) ha hw) monoE
      · exact h.elim
  | block id b ih =>
    intro σ mk Q m a w hok h ha hw
    simp only [den] at h
    refine wpIn_block (wpIn_mono (ih σ mk _ m a w hok h ha hw) ?_)
    intro e a' w' hp
    cases e with
    | exit i =>
      obtain ⟨σ', mk', m', h1, h2, h3, h4, h5⟩ := hp
      simp only [Exit.inBlock]
      simp only at h3
      generalize hi : (i == id) = ii at h3
      split at h3
      · have : i = id := by simpa using hi
        rw [if_pos this]
        exact ⟨σ', mk', m', h1, h2, h3, h4, h5⟩
      · have : i ≠ id := by simpa using hi
        rw [if_neg this]
        exact ⟨σ', mk', m', h1, h2, h3, h4, h5⟩
    | normal => exact hp
    | ret => exact hp
    | goto l => exact hp.elim
    | panic c => exact hp
    | outgrown => exact hp.elim
  | seq x y ihx ihy =>
    intro σ mk Q m a w hok h ha hw
    simp only [codeOk, Bool.and_eq_true] at hok
    simp only [den] at h
    have others : ∀ {e : Exit} {σ' : Nat → EV} {mk' : List Nat} {m' : HP} {a' : Act} {w' : World}, e ≠ .normal → (∀ c, e ≠ .panic c) → e ≠ .outgrown → (∀ l, e ≠ .goto l) → Reg N (dsOf mk') a' σ' → Holds w' m' → Q e σ' mk' m' →
        (∀ t, (writes x).contains t = false → (σ' t).v = (σ t).v) → (noRange x = true → mk' = mk) → PostR N (writes (.seq x y)) (noRange (.seq x y)) σ mk Q X e a' w' := by
      intro e σ' mk' m' a' w' h0 h1 h2 h3 g1 g2 g3 g4 g5
      have : ∃ σ' mk' m, Reg N (dsOf mk') a' σ' ∧ Holds w' m ∧ Q e σ' mk' m ∧ (∀ t, (writes (.seq x y)).contains t = false → (σ' t).v = (σ t).v) ∧ (noRange (.seq x y) = true → mk' = mk) :=
        ⟨σ', mk', m', g1, g2, g3, fun u hu => g4 u (contains_append_false.1 hu).1, fun hn => g5 (by simp only [noRange, Bool.and_eq_true] at hn; exact hn.1)⟩
      cases e with
      | normal => exact absurd rfl h0
      | panic c => exact absurd rfl (h1 c)
      | outgrown => exact absurd rfl h2
      | goto l => exact absurd rfl (h3 l)
      | ret => exact this
      | exit i => exact this
    have second : ∀ {σ1 : Nat → EV} {mk1 : List Nat} {m1 : HP} {a1 : Act} {w1 : World}, den P ann N top y σ1 mk1 Q X m1 → Reg N (dsOf mk1) a1 σ1 → Holds w1 m1 →
        (∀ t, (writes x).contains t = false → (σ1 t).v = (σ t).v) → (noRange x = true → mk1 = mk) → y.wpIn (FW ro) n P (PostR N (writes (.seq x y)) (noRange (.seq x y)) σ mk Q X) a1 w1 := by
      intro σ1 mk1 m1 a1 w1 g1 g2 g3 g4 g5
      refine wpIn_mono (ihy σ1 mk1 Q m1 a1 w1 hok.2 g1 g2 g3) ?_
      intro e a' w' hp
      cases e <;> first
        | exact hp.elim
        | (obtain ⟨σ', mk', m', k1, k2, k3, k4, k5⟩ := hp
           exact ⟨σ', mk', m', k1, k2, k3, fun u hu => (k4 u (contains_append_false.1 hu).2).trans (g4 u (contains_append_false.1 hu).1),
             fun hn => by simp only [noRange, Bool.and_eq_true] at hn; exact (k5 hn.2).trans (g5 hn.1)⟩)
        | (obtain ⟨m', mk', k1, k2, k3, k4⟩ := hp
           exact ⟨m', mk', k1, k2, k3, fun hn => by simp only [noRange, Bool.and_eq_true] at hn; exact (k4 hn.2).trans (g5 hn.1)⟩)
    generalize hc : annOf ann.cut y = cc at h
    generalize hnr : noRange x = nr at h
    split at h
    · rename_i L
      obtain ⟨J, hJ, hA⟩ := h
      refine wpIn_seq (wpIn_mono (ihx σ mk _ m a w hok.1 hA ha hw) ?_)
      intro e a' w' hp
      cases e with
      | normal =>
        obtain ⟨σ', mk', m', g1, g2, g3, g4, g5⟩ := hp
        simp only at g3
        generalize hpo : projOk L σ' = po at g3
        split at g3
        · have hmk := g5 hnr
          subst hmk
          have hk := hJ _ _ g3
          have henv : ∀ t, (loopEnv L (writes x) (proj L σ') (fun t => ⟨(σ' t).v, none⟩) σ t).v = (σ' t).v :=
            loopEnv_spec hpo (fun t _ => rfl) (fun t ht => (g4 t ht).symm)
          refine second (hk (fun t => ⟨(σ' t).v, none⟩) (fun t => EV.ok_none _)) ⟨g1.size, fun t => by rw [henv]; exact g1.eq t, fun t => loopEnv_ok (fun t => EV.ok_none _) ha.ok t, g1.ds⟩ g2 (fun t ht => by rw [henv]; exact g4 t ht) (fun _ => rfl)
        · exact g3.elim
      | ret => obtain ⟨σ', mk', m', g1, g2, g3, g4, g5⟩ := hp; exact others (by simp) (by simp) (by simp) (by simp) g1 g2 g3 g4 g5
      | exit i => obtain ⟨σ', mk', m', g1, g2, g3, g4, g5⟩ := hp; exact others (by simp) (by simp) (by simp) (by simp) g1 g2 g3 g4 g5
      | goto l => exact hp.elim
      | panic c => obtain ⟨m', mk', k1, k2, k3, k4⟩ := hp; exact ⟨m', mk', k1, k2, k3, fun hn => k4 (by simp only [noRange, Bool.and_eq_true] at hn; exact hn.1)⟩
      | outgrown => exact hp.elim
    · refine wpIn_seq (wpIn_mono (ihx σ mk _ m a w hok.1 h ha hw) ?_)
      intro e a' w' hp
      cases e with
      | normal =>
        obtain ⟨σ', mk', m', g1, g2, g3, g4, g5⟩ := hp
        exact second g3 g1 g2 g4 g5
      | ret => obtain ⟨σ', mk', m', g1, g2, g3, g4, g5⟩ := hp; exact others (by simp) (by simp) (by simp) (by simp) g1 g2 g3 g4 g5
      | exit i => obtain ⟨σ', mk', m', g1, g2, g3, g4, g5⟩ := hp; exact others (by simp) (by simp) (by simp) (by simp) g1 g2 g3 g4 g5
      | goto l => exact hp.elim
      | panic c => obtain ⟨m', mk', k1, k2, k3, k4⟩ := hp; exact ⟨m', mk', k1, k2, k3, fun hn => k4 (by simp only [noRange, Bool.and_eq_true] at hn; exact hn.1)⟩
      | outgrown => exact hp.elim
  | loop b ih =>
    intro σ mk Q m a w hok h ha hw
    simp only [den] at h
    generalize hc : annOf ann.loop b = cc at h
    generalize hnr : noRange b = nr at h
    split at h
    · rename_i L
      generalize hpo : projOk L σ = po at h
      split at h
      · obtain ⟨I, ⟨k0, hI0⟩, hround⟩ := h
        let Inv : Nat → Act → World → Prop := fun k a' w' => ∃ σ' m', Reg N (dsOf mk) a' σ' ∧ Holds w' m' ∧ projOk L σ' = true ∧ I k (proj L σ') m' ∧ ∀ t, (writes b).contains t = false → (σ' t).v = (σ t).v
        let mu : Act → World → Nat := fun a' w' => open Classical in if hx : ∃ k, Inv k a' w' then Classical.choose (least hx) else 0
        have hmu : ∀ k a' w', Inv k a' w' → Inv (mu a' w') a' w' ∧ mu a' w' ≤ k := by
          intro k a' w' hk
          have hx : ∃ k, Inv k a' w' := ⟨k, hk⟩
          have e : mu a' w' = Classical.choose (least hx) := dif_pos hx
          rw [e]
          exact ⟨(Classical.choose_spec (least hx)).1, (Classical.choose_spec (least hx)).2 k hk⟩
        refine wpIn_loop (fun a' w' => ∃ k, Inv k a' w') mu ⟨k0, σ, m, ha, hw, hpo, hI0, fun _ _ => rfl⟩ ?_
        rintro a1 w1 ⟨k1, hk1⟩
        obtain ⟨⟨σ1, m1, g1, g2, g3, g4, g5⟩, _⟩ := hmu k1 a1 w1 hk1
        have henv : ∀ t, (loopEnv L (writes b) (proj L σ1) (fun t => ⟨(σ1 t).v, none⟩) σ t).v = (σ1 t).v :=
          loopEnv_spec g3 (fun t _ => rfl) (fun t ht => (g5 t ht).symm)
        refine wpIn_mono (ih _ mk _ m1 a1 w1 hok (hround _ _ _ g4 (fun t => ⟨(σ1 t).v, none⟩) (fun t => EV.ok_none _))
          ⟨g1.size, fun t => by rw [henv]; exact g1.eq t, fun t => loopEnv_ok (fun t => EV.ok_none _) ha.ok t, g1.ds⟩ g2) ?_
        intro e a' w' hp
        have back : ∀ {σ' : Nat → EV}, (∀ t, (writes b).contains t = false → (σ' t).v = (loopEnv L (writes b) (proj L σ1) (fun t => ⟨(σ1 t).v, none⟩) σ t).v) →
            ∀ t, (writes b).contains t = false → (σ' t).v = (σ t).v := fun h4 t ht => by rw [h4 t ht, henv]; exact g5 t ht
        cases e with
        | normal =>
          obtain ⟨σ', mk', m', k1, k2, k3, k4, k5⟩ := hp
          simp only at k3
          generalize hpo' : projOk L σ' = po' at k3
          split at k3
          · have hmk := k5 hnr
            subst hmk
            obtain ⟨k', hlt, hI'⟩ := k3
            have hinv : Inv k' a' w' := ⟨σ', m', k1, k2, hpo', hI', back k4⟩
            exact ⟨⟨k', hinv⟩, Nat.lt_of_le_of_lt (hmu k' a' w' hinv).2 hlt⟩
          · exact k3.elim
        | ret => obtain ⟨σ', mk', m', k1, k2, k3, k4, k5⟩ := hp; exact ⟨σ', mk', m', k1, k2, k3, back k4, fun _ => k5 hnr⟩
        | exit i => obtain ⟨σ', mk', m', k1, k2, k3, k4, k5⟩ := hp; exact ⟨σ', mk', m', k1, k2, k3, back k4, fun _ => k5 hnr⟩
        | goto l => exact hp.elim
        | panic c => exact hp
        | outgrown => exact hp.elim
      · exact h.elim
    · exact h.elim
  | region id ops draw =>
    intro σ mk Q m a w hok h ha hw
    simp only [codeOk, Bool.and_eq_true] at hok
    simp only [den] at h
    have hQ : ∀ (V : Nat → EV) (m : HP) (a : Act) (w : World), Reg N (dsOf mk) a (envAt ops V σ ops.size) → (∀ i, (V i).ok) → Holds w m → Q .normal (envAt ops V σ ops.size) mk m →
        PostR N (writes (.region id ops draw)) (noRange (.region id ops draw)) σ mk Q X .normal a w := by
      intro V m a w g1 _ g2 g3
      refine ⟨_, mk, m, g1, g2, g3, fun t ht => ?_, fun _ => rfl⟩
      simp only [envAt]
      cases hl : lastW ops ops.size t with
      | none => rfl
      | some k => have := lastW_writes hl; simp only [writes] at ht; rw [this] at ht; cases ht
    have hX : ∀ (c : List PanicEntry) (a : Act) (w : World) (m : HP), a.tmps.size = N → a.defers = dsOf mk → Holds w m → X c m →
        PostR N (writes (.region id ops draw)) (noRange (.region id ops draw)) σ mk Q X (.panic c) a w := fun c a w m _ g0 g1 g2 => ⟨m, mk, g1, g2, g0, fun _ => rfl⟩
    cases draw with
    | false =>
      simp only at h
      refine wpIn_region ?_
      rw [List.range_eq_range']
      refine denOps_sound hok.1 ha.ok hX ops.size 0 _ m a w (fun _ => EV.ok_none _) ⟨ha.size, ha.eq, ha.ok, ha.ds⟩ hw ?_ h
      intro V m a w g1 g2 g3 g4
      rw [Nat.zero_add] at g1
      exact hQ V m a w g1 g2 g3 g4
    | true =>
      simp only at h
      have hd : drawOk ops = true := by simpa using hok.2
      exact draw_sound ha.ok hd hok.1 hX hQ hm ha hw h
  | rangeFunc g ps assign body _ _ =>
    intro σ mk Q m a w hok h ha hw
    simp only [den] at h
    cases top with
    | false => exact h.elim
    | true =>
      simp only at h
      obtain rfl := htop rfl
      cases hk : keyOf body with
      | none => rw [hk] at h; exact h.elim
      | some k =>
      rw [hk] at h
      simp only at h
      cases hl : lookupN ann.range k with
      | none => rw [hl] at h; exact h.elim
      | some L =>
      rw [hl] at h
      simp only at h
      obtain ⟨f, fs, cs, hg, h⟩ := h
      · have hev : a.eval g = .func (.func f) fs cs := by rw [eval_eq ha.eq]; exact hg
        refine wpIn_rangeFunc fun fn _ => ?_
        let r := w.heap.size
        let w1 : World := { w with heap := w.heap.push (.deferred (some [])) }
        let rc := mkLoop fn a.tmps ps assign body r
        let w2 : World := { w1 with heap := w1.heap.push (.loop rc) }
        have hw1 : Holds w1 (pt r (.deferred (some [])) + m) := hw.push _
        have hw2 : Holds w2 (pt w1.heap.size (.loop rc) + (pt r (.deferred (some [])) + m)) := hw1.push _
        have hcall := h w1.heap.size r (mkLoop fn a.tmps ps assign body r) ⟨rfl, rfl, ha.size, ⟨g, rfl⟩, by
          intro p hp; unfold valsOf at hp; obtain ⟨t, _, rfl⟩ := List.mem_map.1 hp; exact ha.eq t⟩
        refine ⟨w1.heap.size, [{ target := .collected r, args := #[] }], w2, { target := .fn (.func f) cs, args := fs ++ #[.func (.yield w1.heap.size) #[] #[]] }, w2, f, _, w2, ?_, ?_, fun _ _ => trivial, ?_, by simp [FW], callsIn_FW ((hcall.2 w2 hw2).mono ?_)⟩
        · simp [Instr.enterLoop, FW, w2, w1, rc, mkLoop, r]
        · simp only [resolve, rangeCall, hev, Deferred.ofValue, Sem.run_pure]
          simp [Act.eval]
        · have e2 : (fs ++ #[Value.func (.yield w1.heap.size) #[] #[]] ++ cs) = ⟨fs.toList ++ [.func (.yield w1.heap.size) #[] #[]] ++ cs.toList⟩ := by apply Array.ext'; simp
          simp only [invoke]
          rw [e2]
          exact hcall.1 _ w2
        · rintro e w3 ⟨m3, hw3, ⟨v, rfl⟩, rc', m4, rfl, hst, hpend⟩
          have hgl := hw3.get.1
          have hend : (Instr.endLoop w1.heap.size).run P w3 = .ok rc'.pending { w3 with heap := w3.heap.setIfInBounds w1.heap.size (.loop { rc' with state := .exhausted }) } := by
            have hst' : ¬ rc'.state = .busy := by simpa using hst
            simp [Instr.endLoop, Instr.getLoop, getObj, setObj, Sem.run, hgl, hst', hst]
          have hw4 : Holds { w3 with heap := w3.heap.setIfInBounds w1.heap.size (.loop { rc' with state := .exhausted }) } (pt w1.heap.size (.loop { rc' with state := .exhausted }) + m4) := hw3.setObj
          refine ⟨_, _, hend, ?_⟩
          have hreg : Reg N (dsOf (r :: mk)) { a with defers := [{ target := .collected r, args := #[] }] ++ a.defers } σ := ⟨ha.size, ha.eq, ha.ok, by rw [ha.ds]; rfl⟩
          have fin : ∀ (e : Exit) (m5 : HP), Holds { w3 with heap := w3.heap.setIfInBounds w1.heap.size (.loop { rc' with state := .exhausted }) } m5 → Q e σ (r :: mk) m5 →
              ∃ σ' mk' m', Reg N (dsOf mk') { a with defers := [{ target := .collected r, args := #[] }] ++ a.defers } σ' ∧
              Holds { w3 with heap := w3.heap.setIfInBounds w1.heap.size (.loop { rc' with state := .exhausted }) } m' ∧ Q e σ' mk' m' ∧
              (∀ t, (writes (.rangeFunc g ps assign body)).contains t = false → (σ' t).v = (σ t).v) ∧ (noRange (.rangeFunc g ps assign body) = true → mk' = mk) :=
            fun e m5 h5 hq => ⟨σ, r :: mk, m5, hreg, h5, hq, fun _ _ => rfl, fun hn => by cases hn⟩
          obtain ⟨st, pd, fn', tm', ps', as', bd', df'⟩ := rc'
          simp only at hpend hw4 fin ⊢
          cases pd with
          | none => exact fin _ _ hw4 hpend
          | some c =>
            cases c <;> simp only at hpend ⊢ <;> try (exact hpend.elim)
            case exit id => exact wpIn_exit (fin _ _ hw4 hpend)
            case ret => exact wpIn_ret (fin _ _ hw4 hpend)

end Go.Hp
/- A function of the program, out of the predicate of its body. Own work; nothing of any program. -/
namespace Go.Hp
open Go

/-- The results, as they are read at the end. -/
def resL (P : Program) (σ : Nat → EV) : List ResultVar → (List Value → HP → Prop) → HP → Prop
  | [], K => K []
  | .tmp t :: l, K => resL P σ l fun vs => K ((σ t).v :: vs)
  | .cell a t :: l, K => qLoad P t (σ a).v fun v => resL P σ l fun vs => K (v :: vs)

def oneOf : List Value → Value
  | [v] => v
  | vs => .tuple ⟨vs⟩

def resR (P : Program) (rs : List ResultVar) (σ : Nat → EV) (R : Ending → HP → Prop) : HP → Prop := resL P σ rs fun vs => R (.returned (oneOf vs))

/-- At the end of the activation. -/
def retR (P : Program) (rs : List ResultVar) (R : Ending → HP → Prop) : Exit → (Nat → EV) → List Nat → HP → Prop
  | .normal, σ, [] | .ret, σ, [] => resR P rs σ R
  | .normal, σ, [r] | .ret, σ, [r] => fun m => ∃ m', m = pt r (.deferred (some [])) + m' ∧ resR P rs σ R m'
  | _, _, _ => no

def env0 (args : List Value) : Nat → EV := fun t => ⟨args.getD t undef, none⟩

def denF (P : Program) (ann : Ann) (N : Nat) (rs : List ResultVar) (c : Code) (args : List Value) (R : Ending → HP → Prop) : HP → Prop :=
  den P ann N true c (env0 args) [] (retR P rs R) fun ch => R (.panicked ch)

def resF (tmps : Array Value) : ResultVar → Sem Value
  | .tmp t => pure (tmps.getD t undef)
  | .cell a t => do loadVar t (← asAddr (tmps.getD a undef))

theorem resL_sound {P : Program} {σ : Nat → EV} {m : HP} {w : World} (hw : Holds w m) {tmps : Array Value} (ht : ∀ t, tmps.getD t undef = (σ t).v) : ∀ {rs : List ResultVar} {K : List Value → HP → Prop}, resL P σ rs K m →
    ∃ vs, (rs.mapM (resF tmps) : Sem (List Value)).run P w = .ok vs w ∧ K vs m := by
  intro rs
  induction rs with
  | nil => intro K h; exact ⟨[], by simp, h⟩
  | cons x rs ih =>
    intro K h
    cases x with
    | tmp t =>
      obtain ⟨vs, h1, h2⟩ := ih h
      exact ⟨_, by simp [List.mapM_cons, h1, resF, ht t], h2⟩
    | cell a t =>
      obtain ⟨v, hv, hk⟩ := qLoad_sound h
      obtain ⟨vs, h1, h2⟩ := ih hk
      refine ⟨_, ?_, h2⟩
      have hl := hv w hw
      have hp : ∃ ad, (σ a).v = .pointer (some ad) := by
        simp only [resL, qLoad] at h
        generalize hx : (σ a).v = x at h
        split at h
        · exact ⟨_, rfl⟩
        · exact h.elim
      obtain ⟨ad, had⟩ := hp
      rw [had] at hl
      simp only [Instr.loadAt, Instr.sureAddr, Sem.run_bind, Sem.run_pure, Result.andThen_ok] at hl
      have e : (resF tmps (.cell a t)).run P w = .ok v w := by simp [resF, ht a, had, asAddr, hl]
      simp [List.mapM_cons, h1, e]

theorem results_run {P : Program} {fn : Func} {σ : Nat → EV} {R : Ending → HP → Prop} {m : HP} {w : World} (hw : Holds w m) {tmps : Array Value} (ht : ∀ t, tmps.getD t undef = (σ t).v) (h : resR P fn.results.toList σ R m) :
    ∃ v, (results fn tmps).run P w = .ok v w ∧ R (.returned v) m := by
  obtain ⟨vs, h1, h2⟩ := resL_sound (P := P) hw ht h
  refine ⟨oneOf vs, ?_, h2⟩
  have e : results fn tmps = (do let vs ← fn.results.mapM (resF tmps); pure (if h : vs.size = 1 then vs[0] else .tuple vs)) := by
    unfold results
    congr 1
  rw [e, Array.mapM_eq_mapM_toList]
  simp only [Sem.run_bind, Sem.run_map]
  rw [h1]
  simp only [Result.andThen_ok, Sem.run_pure]
  match vs with
  | [] => rfl
  | [v] => rfl
  | a :: b :: l => simp [oneOf]

theorem getD_args (args : List Value) (N : Nat) (t : Nat) : ((⟨args⟩ : Array Value) ++ Array.replicate (N - args.length) undef).getD t undef = args.getD t undef := by
  rw [Array.getD_eq_getD_getElem?, List.getD_eq_getElem?_getD]
  rcases Nat.lt_or_ge t args.length with h | h
  · rw [Array.getElem?_append_left (by simpa using h)]; simp
  · rw [Array.getElem?_append_right (by simpa using h), List.getElem?_eq_none h]
    simp only [Array.getElem?_replicate]
    split <;> rfl

/-- **A function's contract from the predicate of its body.** -/
theorem fn_of_den {P : Program} (hm : P.follows .mixedOrders = true) {ann : Ann} {f : FuncId} {fn : Func} {c : Code} (hf : P.funcs[f]? = some fn) (hc : Callable P f) (hb : fn.body = some c) (hok : codeOk fn.ntmps c = true) {args : List Value}
    (hlen : args.length ≤ fn.ntmps) {R : Ending → HP → Prop} (hnr : noRange c = true ∨ ∀ ch m, ¬ R (.panicked ch) m) {m : HP} (h : denF P ann fn.ntmps fn.results.toList c args R m) : Does P f ⟨args⟩ m R := by
  refine ⟨hc, fun w hw => (callsIn_wide (n := 0)).1 ?_⟩
  have hreg : Reg fn.ntmps (dsOf []) { tmps := (⟨args⟩ : Array Value) ++ Array.replicate (fn.ntmps - (⟨args⟩ : Array Value).size) undef, defers := [] } (env0 args) := by
    refine ⟨by simp; omega, fun t => ?_, fun t => EV.ok_none _, rfl⟩
    exact getD_args args fn.ntmps t
  refine callsIn_of_wp_marks (F := FW none) hf hb trivial (wpIn_mono (den_sound hm (top := true) (ro := none) (fun _ => rfl) c (env0 args) [] _ m _ w hok h hreg hw) ?_) rfl
  intro e a w' hp
  have fin : (∃ σ' mk' m, Reg fn.ntmps (dsOf mk') a σ' ∧ Holds w' m ∧ retR P fn.results.toList R e σ' mk' m) → (e = .normal ∨ e = .ret) →
      LeavesInM (FW none) 0 P fn a.tmps (fun e w' => ∃ m', Holds w' m' ∧ R e m') a.defers .returning w' := by
    rintro ⟨σ', mk', m', g1, g2, g3⟩ he
    match mk' with
    | [] =>
      have g3' : resR P fn.results.toList σ' R m' := by rcases he with rfl | rfl <;> exact g3
      obtain ⟨v, r1, r2⟩ := results_run (P := P) (fn := fn) g2 g1.eq g3'
      rw [g1.ds]
      exact ⟨v, r1, m', g2, r2⟩
    | [r] =>
      have g3' : ∃ m'', m' = pt r (.deferred (some [])) + m'' ∧ resR P fn.results.toList σ' R m'' := by rcases he with rfl | rfl <;> exact g3
      obtain ⟨m'', rfl, g4⟩ := g3'
      have hg := g2.get.1
      have htake : (Instr.takeDeferred r).run P w' = .ok [] { w' with heap := w'.heap.setIfInBounds r (.deferred none) } := by
        simp [Instr.takeDeferred, getObj, setObj, Sem.run, hg]
      have hw2 : Holds { w' with heap := w'.heap.setIfInBounds r (.deferred none) } (pt r (.deferred none) + m'') := g2.setObj
      obtain ⟨v, r1, r2⟩ := results_run (P := P) (fn := fn) hw2.right g1.eq g4
      rw [g1.ds]
      exact ⟨by simp, .inl ⟨r, _, rfl, htake, v, r1, m'', hw2.right, r2⟩⟩
    | _ :: _ :: _ => rcases he with rfl | rfl <;> exact g3.elim
  cases e with
  | normal => obtain ⟨σ', mk', m', g1, g2, g3, _⟩ := hp; exact fin ⟨σ', mk', m', g1, g2, g3⟩ (.inl rfl)
  | ret => obtain ⟨σ', mk', m', g1, g2, g3, _⟩ := hp; exact fin ⟨σ', mk', m', g1, g2, g3⟩ (.inr rfl)
  | exit i => obtain ⟨σ', mk', m', g1, g2, g3, _⟩ := hp; exact g3.elim
  | goto l => exact hp.elim
  | panic ch =>
    obtain ⟨m', mk', g1, g2, g3, g4⟩ := hp
    rcases hnr with hnr | hnr
    · have := g4 hnr
      subst this
      show LeavesInM (FW none) 0 P fn a.tmps (fun e w' => ∃ m', Holds w' m' ∧ R e m') a.defers (.panicking ch) w'
      rw [g3]
      exact ⟨m', g1, g2⟩
    · exact absurd g2 (hnr ch m')
  | outgrown => exact hp.elim

end Go.Hp
/- A round of a range over a function: the contract of yield, out of the predicate of the loop's body. Own work; nothing of any program. -/
namespace Go.Hp
open Go

/-- The ranges of a code, in the order of the text. -/
def ranges : Code → List Code
  | .seq a b => ranges a ++ ranges b
  | .cond _ a b => ranges a ++ ranges b
  | .block _ b | .loop b | .scope b => ranges b
  | .rangeFunc g ps a b => [.rangeFunc g ps a b]
  | _ => []
def rangeAt (k : Nat) (c : Code) : Code := (ranges c).getD k .skip

def pset : List (Nat × Value) → (Nat → EV) → (Nat → EV)
  | [], σ => σ
  | (t, v) :: l, σ => pset l (upd σ t ⟨v, none⟩)
def valEnv : List (Nat × Value) → (Nat → EV) → (Nat → EV)
  | [], s => s
  | (t, v) :: l, s => fun i => match i == t with | true => ⟨v, none⟩ | false => valEnv l s i

/-- The loop's record turns. -/
def hRec (l : Nat) (rc rc' : Loop) (K : HP → Prop) : HP → Prop := fun m => ∃ m1, m = pt l (.loop rc) + m1 ∧ K (pt l (.loop rc') + m1)
def rcBusy (rc : Loop) : Loop := { rc with state := .busy }
def rcNext (rc : Loop) : Loop := { rc with state := .ready, pending := none }
def rcDone (rc : Loop) (c : Code) : Loop := { rc with state := .done, pending := some c }

def roundQ (l : Nat) (rc : Loop) (R : Ending → HP → Prop) : Exit → (Nat → EV) → List Nat → HP → Prop
  | .normal, _, _ => hRec l (rcBusy rc) (rcNext rc) (R (.returned (.bool true)))
  | .ret, _, _ => hRec l (rcBusy rc) (rcDone rc .ret) (R (.returned (.bool false)))
  | .exit id, _, _ => hRec l (rcBusy rc) (rcDone rc (.exit id)) (R (.returned (.bool false)))
  | _, _, _ => no

def denRound (P : Program) (ann : Ann) (N : Nat) (vals : List (Nat × Value)) (c : Code) (l : Nat) (rc : Loop) (args : List Value) (R : Ending → HP → Prop) : HP → Prop :=
  match c with
  | .rangeFunc _ ps assign body => hAll fun s =>
    den P ann N false assign (pset (ps.toList.zip args) (valEnv vals s)) []
      (fun e σ mk => match e with | .normal => hRec l rc (rcBusy rc) (den P ann N false body σ mk (roundQ l rc R) fun _ => no) | _ => no) fun _ => no
  | _ => no

def roundOk (N : Nat) (n : Nat) : Code → Bool
  | .rangeFunc _ ps assign body => codeOk N assign && codeOk N body && noRange assign && noRange body && ps.size == n && ps.toList.all fun t => decide (t < N)
  | _ => false

theorem pset_spec {N : Nat} : ∀ (l : List (Nat × Value)) {tm : Array Value} {σ : Nat → EV}, tm.size = N → (l.all fun p => decide (p.1 < N)) = true → (∀ t, tm.getD t undef = (σ t).v) → (∀ t, (σ t).ok) →
    (l.foldl (fun tm (p : Nat × Value) => tm.setIfInBounds p.1 p.2) tm).size = N ∧ (∀ t, (l.foldl (fun tm (p : Nat × Value) => tm.setIfInBounds p.1 p.2) tm).getD t undef = (pset l σ t).v) ∧ ∀ t, (pset l σ t).ok := by
  intro l
  induction l with
  | nil => intro tm σ h1 _ h2 h3; exact ⟨h1, h2, h3⟩
  | cons p l ih =>
    obtain ⟨t, v⟩ := p
    intro tm σ h1 hl h2 h3
    simp only [List.all_cons, Bool.and_eq_true, decide_eq_true_eq] at hl
    simp only [List.foldl_cons, pset]
    refine ih (by simp [h1]) hl.2 (fun i => ?_) (fun i => ?_)
    · simp only [upd, Array.getD_eq_getD_getElem?, Array.getElem?_setIfInBounds]
      by_cases hi : t = i
      · subst hi; simp [h1, hl.1]
      · have := h2 i
        rw [Array.getD_eq_getD_getElem?] at this
        simp [hi, Ne.symm hi, this]
    · simp only [upd]; split
      · exact EV.ok_none _
      · exact h3 i

theorem valEnv_spec {tm : Array Value} : ∀ {vals : List (Nat × Value)}, (∀ p ∈ vals, tm.getD p.1 undef = p.2) → ∀ t, tm.getD t undef = (valEnv vals (fun i => ⟨tm.getD i undef, none⟩) t).v ∧ (valEnv vals (fun i => ⟨tm.getD i undef, none⟩) t).ok := by
  intro vals
  induction vals with
  | nil => intro _ t; exact ⟨rfl, EV.ok_none _⟩
  | cons p l ih =>
    obtain ⟨i, v⟩ := p
    intro h t
    simp only [valEnv]
    split
    · rename_i he
      have : t = i := by simpa using he
      subst this
      exact ⟨h (t, v) (by simp), EV.ok_none _⟩
    · exact ih (fun p hp => h p (by simp [hp])) t

/-- **The contract of yield.** -/
theorem yield_of_den {P : Program} (hm : P.follows .mixedOrders = true) {ann : Ann} {N : Nat} {vals : List (Nat × Value)} {c : Code} {l : Nat} {rc rc0 : Loop} {args : List Value} {R : Ending → HP → Prop}
    (hl : IsLoop N vals c rc0) (hrc : rc = { rc0 with state := .ready, pending := none }) (hok : roundOk N args.length c = true) {m m0 : HP} (hmm : m = pt l (.loop rc) + m0) (h : denRound P ann N vals c l rc args R m) : HYield P l ⟨args⟩ m R := by
  intro w hw
  obtain ⟨_, _, hsz, ⟨g, rfl⟩, hvals⟩ := hl
  simp only [roundOk, Bool.and_eq_true, beq_iff_eq, List.all_eq_true, decide_eq_true_eq] at hok
  obtain ⟨⟨⟨⟨⟨ho1, ho2⟩, ho3⟩, ho4⟩, ho5⟩, ho6⟩ := hok
  have hp : rc.params = rc0.params ∧ rc.assign = rc0.assign ∧ rc.body = rc0.body ∧ rc.tmps = rc0.tmps ∧ rc.state = .ready := by subst hrc; exact ⟨rfl, rfl, rfl, rfl, rfl⟩
  obtain ⟨hp1, hp2, hp3, hp4, hp5⟩ := hp
  have hget : w.heap[l]? = some (.loop rc) := by rw [hmm] at hw; exact hw.get.1
  have hy := run_yield (P := P) (args := ⟨args⟩) hget (by rw [hp1]; exact ho5.symm)
  refine ⟨_, _, _, _, hy, fun n => ?_⟩
  have hF : (FW none).fn rc.fn := trivial
  refine roundIn_of_wpIn hF ?_
  rw [hp1, hp2, hp3, hp4]
  have efold : ((rc0.params.zip (⟨args⟩ : Array Value)).foldl (fun tmps (p : Nat × Value) => tmps.setIfInBounds p.1 p.2) rc0.tmps) =
      ((rc0.params.toList.zip args).foldl (fun tm (p : Nat × Value) => tm.setIfInBounds p.1 p.2) rc0.tmps) := by
    rw [← Array.foldl_toList, Array.toList_zip]
  obtain ⟨t1, t2, t3⟩ := pset_spec (N := N) (rc0.params.toList.zip args) (tm := rc0.tmps) (σ := valEnv vals fun i => ⟨rc0.tmps.getD i undef, none⟩) hsz (by
    rw [List.all_eq_true]; intro p hp; rw [decide_eq_true_eq]; exact ho6 p.1 (List.of_mem_zip hp).1) (fun t => (valEnv_spec hvals t).1) (fun t => (valEnv_spec hvals t).2)
  have h := h (fun i => ⟨rc0.tmps.getD i undef, none⟩) (fun t => EV.ok_none _)
  have hact : Reg N (dsOf []) { tmps := (rc0.params.zip (⟨args⟩ : Array Value)).foldl (fun tmps (p : Nat × Value) => tmps.setIfInBounds p.1 p.2) rc0.tmps, defers := [] } (pset (rc0.params.toList.zip args) (valEnv vals fun i => ⟨rc0.tmps.getD i undef, none⟩)) := by
    rw [efold]; exact ⟨t1, t2, t3, rfl⟩
  refine wpIn_mono (den_sound hm (top := false) (ro := some l) (n := n) (fun e => by cases e) rc0.assign _ [] _ m _ w ho1 h hact hw) ?_
  intro e a w1 hpost
  have no_elim : ∀ {σ' : Nat → EV} {m' : HP}, (no : HP → Prop) m' → False := fun h => h
  cases e with
  | normal =>
    obtain ⟨σ', mk', m', g1, g2, g3, _, g5⟩ := hpost
    have := g5 ho3; subst this
    obtain ⟨m1, rfl, g6⟩ := g3
    have hb := run_beginRound (P := P) g2.get.1 hp5
    refine ⟨_, hb, ?_⟩
    have hw2 : Holds (w1.putObj l (.loop (rcBusy rc))) (pt l (.loop (rcBusy rc)) + m1) := g2.setObj
    refine wpIn_mono (den_sound hm (top := false) (ro := some l) (n := n) (fun e => by cases e) rc0.body _ [] _ _ _ _ ho2 g6 g1 hw2) ?_
    intro e a w3 hpost
    cases e with
    | normal =>
      obtain ⟨σ', mk', m', k1, k2, ⟨m3, rfl, k4⟩, _, _⟩ := hpost
      exact ⟨_, _, run_endRound none k2.get.1, _, k2.setObj, k4⟩
    | ret =>
      obtain ⟨σ', mk', m', k1, k2, ⟨m3, rfl, k4⟩, _, _⟩ := hpost
      exact ⟨_, _, run_endRound (some .ret) k2.get.1, _, k2.setObj, k4⟩
    | exit id =>
      obtain ⟨σ', mk', m', k1, k2, ⟨m3, rfl, k4⟩, _, _⟩ := hpost
      exact ⟨_, _, run_endRound (some (.exit id)) k2.get.1, _, k2.setObj, k4⟩
    | goto t => exact hpost.elim
    | panic ch => obtain ⟨m', mk', k1, k2, _⟩ := hpost; exact k2.elim
    | outgrown => exact hpost.elim
  | ret => obtain ⟨σ', mk', m', g1, g2, g3, _⟩ := hpost; exact g3.elim
  | exit id => obtain ⟨σ', mk', m', g1, g2, g3, _⟩ := hpost; exact g3.elim
  | goto t => exact hpost.elim
  | panic ch => obtain ⟨m', mk', k1, k2, _⟩ := hpost; exact k2.elim
  | outgrown => exact hpost.elim

end Go.Hp
