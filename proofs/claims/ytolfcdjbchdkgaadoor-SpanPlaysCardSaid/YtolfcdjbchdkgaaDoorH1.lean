/- Heaplets: a commutative monoid of partial heaps, and what it means that a world holds one. Own work; nothing of any program. -/
import Derived.OrdersIn
import Derived.CallsIn
namespace Go.Hp
open Go

/-- What a heaplet says of a block: nothing, one object, or two things at once. -/
inductive C where
  | none
  | one (o : Obj)
  | bad

def C.add : C → C → C
  | .none, y => y
  | .one o, .none => .one o
  | .one _, .one _ => .bad
  | .one _, .bad => .bad
  | .bad, _ => .bad

theorem C.add_comm (x y : C) : x.add y = y.add x := by cases x <;> cases y <;> rfl
theorem C.add_assoc (x y z : C) : (x.add y).add z = x.add (y.add z) := by cases x <;> cases y <;> cases z <;> rfl
theorem C.add_none (x : C) : x.add .none = x := by cases x <;> rfl

/-- What a heaplet says of the operating system and the output: nothing, this, or two things at once. -/
inductive Tk where
  | none
  | one (os : Os) (out : Array (Nat × ByteArray))
  | bad
def Tk.add : Tk → Tk → Tk
  | .none, y => y
  | .one a b, .none => .one a b
  | .one _ _, .one _ _ => .bad
  | .one _ _, .bad => .bad
  | .bad, _ => .bad
theorem Tk.add_comm (x y : Tk) : x.add y = y.add x := by cases x <;> cases y <;> rfl
theorem Tk.add_assoc (x y z : Tk) : (x.add y).add z = x.add (y.add z) := by cases x <;> cases y <;> cases z <;> rfl
theorem Tk.add_none (x : Tk) : x.add .none = x := by cases x <;> rfl
def Tk.held (w : World) : Tk → Prop
  | .none => True
  | .one os out => w.os = os ∧ w.output = out
  | .bad => False

structure HP where
  blk : Nat → C
  tk : Tk
instance : CoeFun HP fun _ => Nat → C := ⟨HP.blk⟩
theorem HP.ext {x y : HP} (h1 : ∀ b, x b = y b) (h2 : x.tk = y.tk) : x = y := by
  cases x; cases y; simp only [HP.mk.injEq]; exact ⟨funext h1, h2⟩
instance : Add HP := ⟨fun x y => ⟨fun b => (x b).add (y b), x.tk.add y.tk⟩⟩
instance : OfNat HP 0 := ⟨⟨fun _ => .none, .none⟩⟩
instance : Inhabited HP := ⟨0⟩

theorem HP.add_app (x y : HP) (b : Nat) : (x + y) b = (x b).add (y b) := rfl
theorem HP.add_tk (x y : HP) : (x + y).tk = x.tk.add y.tk := rfl
theorem HP.add_comm (x y : HP) : x + y = y + x := HP.ext (fun b => C.add_comm _ _) (Tk.add_comm _ _)
theorem HP.add_assoc (x y z : HP) : x + y + z = x + (y + z) := HP.ext (fun b => C.add_assoc _ _ _) (Tk.add_assoc _ _ _)
theorem HP.add_left_comm (x y z : HP) : x + (y + z) = y + (x + z) := by
  rw [← HP.add_assoc, HP.add_comm x y, HP.add_assoc]
@[simp] theorem HP.add_zero (x : HP) : x + 0 = x := HP.ext (fun b => C.add_none _) (Tk.add_none _)
@[simp] theorem HP.zero_add (x : HP) : 0 + x = x := HP.ext (fun _ => rfl) rfl
instance : Std.Associative (α := HP) (· + ·) := ⟨HP.add_assoc⟩
instance : Std.Commutative (α := HP) (· + ·) := ⟨HP.add_comm⟩

/-- One block. -/
def pt (b : Nat) (o : Obj) : HP := ⟨fun i => if i = b then .one o else .none, .none⟩

theorem pt_same (b : Nat) (o : Obj) : pt b o b = .one o := by simp [pt]
theorem pt_other {b i : Nat} (o : Obj) (h : i ≠ b) : pt b o i = .none := by simp [pt, h]

/-- The world holds the heaplet. -/
def HoldsB (w : World) (m : HP) : Prop := ∀ b, match m b with | .none => True | .one o => w.heap[b]? = some o | .bad => False
def Holds (w : World) (m : HP) : Prop := HoldsB w m ∧ m.tk.held w
theorem pt_tk (b : Nat) (o : Obj) (r : HP) : (pt b o + r).tk = r.tk := rfl
theorem Tk.held_right {w : World} {x y : Tk} (h : (x.add y).held w) : y.held w := by cases x <;> cases y <;> simp_all [Tk.add, Tk.held]
theorem Tk.held_eq {w w' : World} {x : Tk} (h : x.held w) (h1 : w'.os = w.os) (h2 : w'.output = w.output) : x.held w' := by cases x <;> simp_all [Tk.held]

theorem Holds.get {w : World} {b : Nat} {o : Obj} {r : HP} (h : Holds w (pt b o + r)) : w.heap[b]? = some o ∧ r b = .none := by
  have := h.1 b
  rw [HP.add_app, pt_same] at this
  cases hr : r b <;> rw [hr] at this <;> simp_all [C.add]

theorem Holds.right {w : World} {x r : HP} (h : Holds w (x + r)) : Holds w r := by
  refine ⟨fun b => ?_, Tk.held_right h.2⟩
  have := h.1 b
  rw [HP.add_app] at this
  cases hx : x b <;> cases hr : r b <;> rw [hx, hr] at this <;> simp_all [C.add]

theorem Holds.left {w : World} {x r : HP} (h : Holds w (x + r)) : Holds w x := by
  rw [HP.add_comm] at h; exact h.right

/-- Another world with the same heap. -/
theorem Holds.of_heap {w w' : World} {m : HP} (h : Holds w m) (he : w'.heap = w.heap) (h1 : w'.os = w.os := by rfl) (h2 : w'.output = w.output := by rfl) : Holds w' m :=
  ⟨fun b => by have := h.1 b; rw [he]; exact this, Tk.held_eq h.2 h1 h2⟩

theorem Holds.zero (w : World) : Holds w 0 := ⟨fun _ => trivial, trivial⟩

/-- A new block. -/
theorem Holds.push {w : World} {m : HP} (h : Holds w m) (o : Obj) : Holds { w with heap := w.heap.push o } (pt w.heap.size o + m) := by
  refine ⟨fun b => ?_, Tk.held_eq (w := w) h.2 rfl rfl⟩
  have hb := h.1 b
  rw [HP.add_app]
  by_cases e : b = w.heap.size
  · subst e
    rw [pt_same]
    cases hm : m w.heap.size <;> rw [hm] at hb
    · simp [C.add]
    · simp at hb
    · exact hb.elim
  · rw [pt_other o e]
    simp only [C.add]
    cases hm : m b <;> rw [hm] at hb
    · simp
    · rename_i x
      have hlt : b < w.heap.size := (Array.getElem?_eq_some_iff.1 hb).1
      simp only [Array.getElem?_push, if_neg e]
      exact hb
    · exact hb

/-- One block turned into another object. -/
theorem Holds.turn {w w' : World} {b : Nat} {o o' : Obj} {r : HP} (h : Holds w (pt b o + r))
    (hb : w'.heap[b]? = some o') (hn : ∀ i, i ≠ b → w'.heap[i]? = w.heap[i]?) (h1 : w'.os = w.os := by rfl) (h2 : w'.output = w.output := by rfl) : Holds w' (pt b o' + r) := by
  refine ⟨fun i => ?_, Tk.held_eq (w := w) h.2 h1 h2⟩
  have hi := h.1 i
  rw [HP.add_app] at hi ⊢
  by_cases e : i = b
  · subst e
    rw [pt_same, h.get.2]
    simpa [C.add] using hb
  · rw [pt_other _ e] at hi ⊢
    rw [hn i e]
    exact hi

theorem Holds.setCell {w : World} {a : Addr} {c : Array Value} {T : TypeId} {fr : Nat × Nat} {r : HP} {v : Value}
    (h : Holds w (pt a.block (.cells c T fr) + r)) (hs : a.spot = none) :
    Holds (w.setCell a v) (pt a.block (.cells (c.setIfInBounds a.off v) T fr) + r) := by
  have hg := h.get.1
  refine h.turn ?_ ?_
  · simp only [World.setCell, hs, Option.isSome_none, Bool.false_eq_true, if_false]
    rw [Array.getElem?_modify]
    simp [hg]
  · intro i hi
    simp only [World.setCell]
    rw [Array.getElem?_modify, if_neg (Ne.symm hi)]

theorem Holds.setObj {w : World} {b : Nat} {o o' : Obj} {r : HP} (h : Holds w (pt b o + r)) :
    Holds { w with heap := w.heap.setIfInBounds b o' } (pt b o' + r) := by
  have hg := h.get.1
  have hlt : b < w.heap.size := (Array.getElem?_eq_some_iff.1 hg).1
  refine h.turn ?_ ?_
  · simp [hlt]
  · intro i hi
    simp [Array.getElem?_setIfInBounds, Ne.symm hi]

/-- All that a world has. -/
def whole (w : World) : HP := ⟨fun b => match w.heap[b]? with | some o => .one o | none => .none, .one w.os w.output⟩

theorem holds_whole (w : World) : Holds w (whole w) := by
  refine ⟨fun b => ?_, ⟨rfl, rfl⟩⟩
  unfold whole
  simp only
  cases w.heap[b]? <;> simp
theorem Holds.same {w w' : World} {r : HP} (h : Holds w' (whole w + r)) : w'.os = w.os ∧ w'.output = w.output := by
  have := h.left.2
  exact this

theorem Holds.of_whole {w w' : World} {r : HP} (h : Holds w' (whole w + r)) {b : Nat} {o : Obj} (hb : w.heap[b]? = some o) : w'.heap[b]? = some o := by
  have := h.left.1 b
  unfold whole at this
  simp only [hb] at this
  exact this

theorem Holds.cell {w : World} {a : Addr} {c : Array Value} {T : TypeId} {fr : Nat × Nat} {r : HP}
    (h : Holds w (pt a.block (.cells c T fr) + r)) (hs : a.spot = none) : w.cell? a = c[a.off]? := by
  simp [World.cell?, h.get.1, hs]

theorem Holds.frozen {w : World} {a : Addr} {c : Array Value} {T : TypeId} {fr : Nat × Nat} {r : HP}
    (h : Holds w (pt a.block (.cells c T fr) + r)) : w.frozen? a = (decide (fr.1 ≤ a.off) && decide (a.off < fr.2)) := by
  simp [World.frozen?, h.get.1]

theorem Holds.shape {w : World} {b : Nat} {c : Array Value} {T : TypeId} {fr : Nat × Nat} {r : HP}
    (h : Holds w (pt b (.cells c T fr) + r)) : w.shape? b = some (T, c.size) := by
  simp [World.shape?, h.get.1]

/-- Finding a block in a sum, by instances. -/
class Has (b : Nat) (m : HP) (o : outParam Obj) (r : outParam HP) : Prop where
  eq : m = pt b o + r
instance Has.here (b : Nat) (o : Obj) : Has b (pt b o) o 0 := ⟨by simp⟩
instance Has.inl (b : Nat) (x y : HP) (o : Obj) (r : HP) [h : Has b x o r] : Has b (x + y) o (r + y) := ⟨by rw [h.eq, HP.add_assoc]⟩
instance Has.inr (b : Nat) (x y : HP) (o : Obj) (r : HP) [h : Has b y o r] : Has b (x + y) o (x + r) := ⟨by rw [h.eq, HP.add_left_comm]⟩
instance (priority := high) Has.head (b : Nat) (y : HP) (o : Obj) : Has b (pt b o + y) o y := ⟨rfl⟩

end Go.Hp
