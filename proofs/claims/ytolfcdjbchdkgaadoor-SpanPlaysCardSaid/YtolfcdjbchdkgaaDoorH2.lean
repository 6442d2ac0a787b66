/- The words of the walk over heaplets: what an operation asks and gives, as plain predicates. Own work; nothing of any program. -/
import Derived.Test.YtolfcdjbchdkgaaDoorH1
import Derived.Laws.Sem
import Derived.Laws.Cells
import Derived.Laws.Entries
import Derived.Laws.Append
namespace Go.Hp
open Go

/-- A slice value's parts. -/
structure Sl where
  a : Option Addr
  n : Nat
  cap : Nat

/-- Kinds of one-cell values. -/
inductive Ty where
  | int (k : IntKind)
  | bool
  | str
  | ptr
  | slice
  | map
  | float (k : FloatKind)
  | any
deriving DecidableEq

@[reducible] def Ty.T : Ty → Type
  | .int _ => Int
  | .bool => Bool
  | .str => ByteArray
  | .ptr => Option Addr
  | .slice => Sl
  | .map => Option Nat
  | .float _ => Nat
  | .any => Value

def Ty.val : (t : Ty) → t.T → Value
  | .int k, (n : Int) => .int k n
  | .bool, (b : Bool) => .bool b
  | .str, (s : ByteArray) => .string s
  | .ptr, (a : Option Addr) => .pointer a
  | .slice, (s : Sl) => .slice s.a s.n s.cap
  | .map, (r : Option Nat) => .map r
  | .float k, (n : Nat) => .float k n
  | .any, (v : Value) => v

def Ty.is : Ty → Value → Bool
  | .int k, .int k' _ => decide (k = k')
  | .bool, .bool _ => true
  | .str, .string _ => true
  | .ptr, .pointer _ => true
  | .slice, .slice _ _ _ => true
  | .map, .map _ => true
  | .float k, .float k' _ => decide (k = k')
  | .any, _ => true
  | _, _ => false

def Ty.un : (t : Ty) → Value → t.T
  | .int _, .int _ n => n
  | .bool, .bool b => b
  | .str, .string s => s
  | .ptr, .pointer a => a
  | .slice, .slice a n c => ⟨a, n, c⟩
  | .map, .map r => r
  | .float _, .float _ n => n
  | .any, v => v
  | .int _, _ => (0 : Int)
  | .bool, _ => false
  | .str, _ => ByteArray.empty
  | .ptr, _ => none
  | .slice, _ => ⟨none, 0, 0⟩
  | .map, _ => none
  | .float _, _ => (0 : Nat)

theorem Ty.val_un {t : Ty} {v : Value} (h : t.is v = true) : t.val (t.un v) = v := by
  cases t <;> cases v <;> simp_all [Ty.is, Ty.val, Ty.un]

/-! ### Types -/
def tyScalar : TypeDesc → Ty
  | .bool => .bool
  | .int k => .int k
  | .float k => .float k
  | .string => .str
  | .pointer _ => .ptr
  | .slice _ => .slice
  | .map _ _ => .map
  | _ => .any

/-- The cells of a type, each by its kind. -/
def flat (P : Program) : Nat → TypeId → List Ty
  | 0, _ => []
  | n + 1, t => match P.underlying t with
    | some (.struct fs) => fs.toList.flatMap fun f => flat P n f.type
    | some (.array len e) => (List.replicate len ()).flatMap fun _ => flat P n e
    | some d => [tyScalar d]
    | none => []

def aggB (P : Program) (t : TypeId) : Bool := match P.underlying t with | some (.struct _) | some (.array _ _) => true | _ => false
def sizeB (P : Program) (t : TypeId) : Option Nat := (P.info? t).map (·.size)
def bytesB (P : Program) (t : TypeId) : Option Nat := (P.info? t).map (·.bytes)
def zeroB (P : Program) (t : TypeId) : Option Value := (P.info? t).bind (·.zero)

section
variable {P : Program} {t : TypeId} (w : World)
theorem run_isAgg (h : (P.underlying t).isSome = true) : (isAgg t).run P w = .ok (aggB P t) w := by
  obtain ⟨d, hd⟩ := Option.isSome_iff_exists.1 h
  cases d <;> simp [isAgg, aggB, run_underlying hd, hd]
theorem run_sizeB {n : Nat} (h : sizeB P t = some n) : (sizeOf t).run P w = .ok n w := by
  simp only [sizeB, Option.map_eq_some_iff] at h
  obtain ⟨i, hi, rfl⟩ := h
  simp [sizeOf, typeInfo, hi]
theorem run_zeroB {v : Value} (h : zeroB P t = some v) : (zeroValue t).run P w = .ok v w := by
  simp only [zeroB, Option.bind_eq_some_iff] at h
  obtain ⟨i, hi, h⟩ := h
  simp [zeroValue, typeInfo, hi, h]
end

/-! ### Reading and writing -/
/-- The cell at an address. -/
def At (m : HP) (a : Addr) (v : Value) : Prop := ∃ c T fr r, m = pt a.block (.cells c T fr) + r ∧ a.spot = none ∧ c[a.off]? = some v

theorem At.cell {m : HP} {a : Addr} {v : Value} (h : At m a v) {w : World} (hw : Holds w m) : w.cell? a = some v := by
  obtain ⟨c, T, fr, r, rfl, hs, hc⟩ := h
  rw [hw.cell hs, hc]

def hLoad (t : Ty) (a : Addr) (K : t.T → HP → Prop) : HP → Prop := fun m => ∃ x, At m a (t.val x) ∧ K x m

def hLoads : List Ty → Addr → Nat → (List Value → HP → Prop) → HP → Prop
  | [], _, _, K => K []
  | t :: ts, a, i, K => hLoad t (a.add i) fun x => hLoads ts a (i + 1) fun l => K (t.val x :: l)

theorem hLoads_sound {ts : List Ty} : ∀ {a : Addr} {i : Nat} {K : List Value → HP → Prop} {m : HP}, hLoads ts a i K m →
    ∃ l : List Value, l.length = ts.length ∧ (∀ j v, l[j]? = some v → At m (a.add (i + j)) v) ∧ K l m := by
  induction ts with
  | nil => intro a i K m h; exact ⟨[], rfl, by simp, h⟩
  | cons t ts ih =>
    intro a i K m h
    obtain ⟨x, hx, h⟩ := h
    obtain ⟨l, hl, hall, hk⟩ := ih h
    refine ⟨t.val x :: l, by simp [hl], ?_, hk⟩
    intro j v hj
    cases j with
    | zero => simp only [List.getElem?_cons_zero, Option.some.injEq] at hj; subst hj; exact hx
    | succ j =>
      simp only [List.getElem?_cons_succ] at hj
      have := hall j v hj
      rwa [show i + 1 + j = i + (j + 1) by omega] at this

/-- A value of one cell. -/
def hStore (v : Value) (a : Addr) (K : HP → Prop) : HP → Prop := fun m =>
  ∃ c T fr r, m = pt a.block (.cells c T fr) + r ∧ a.spot = none ∧ a.off < c.size ∧ ¬ (fr.1 ≤ a.off ∧ a.off < fr.2) ∧
    K (pt a.block (.cells (c.setIfInBounds a.off v) T fr) + r)

def hStores : List Value → Addr → Nat → (HP → Prop) → HP → Prop
  | [], _, _, K => K
  | v :: vs, a, i, K => hStore v (a.add i) fun m => hStores vs a (i + 1) K m

theorem hStore_sound {v : Value} (hv : v.oneCell' = true) {a : Addr} {K : HP → Prop} {m : HP} (h : hStore v a K m) {P : Program} {w : World} (hw : Holds w m) :
    ∃ w' m', (store a v).run P w = .ok () w' ∧ Holds w' m' ∧ K m' := by
  obtain ⟨c, T, fr, r, rfl, hs, ho, hf, hk⟩ := h
  refine ⟨w.setCell a v, _, ?_, hw.setCell hs, hk⟩
  rw [run_store P w a v _ hv, hw.cell hs, hw.frozen]
  have h1 : c[a.off]? = some c[a.off] := by simp [ho]
  have h2 : (decide (fr.1 ≤ a.off) && decide (a.off < fr.2)) = false := Bool.eq_false_iff.2 fun h => hf (by simpa using h)
  simp [h1, h2]

theorem hStores_sound {vs : List Value} : (∀ v ∈ vs, v.oneCell' = true) → ∀ {a : Addr} {i : Nat} {K : HP → Prop} {m : HP}, hStores vs a i K m → ∀ {P : Program} {w : World}, Holds w m →
    ∃ w' m', (storeCells a vs i).run P w = .ok () w' ∧ Holds w' m' ∧ K m' := by
  induction vs with
  | nil => intro _ a i K m h P w hw; exact ⟨w, m, by simp [storeCells], hw, h⟩
  | cons v vs ih =>
    intro hv a i K m h P w hw
    obtain ⟨w1, m1, h1, hw1, hk1⟩ := hStore_sound (hv v (by simp)) h (P := P) hw
    obtain ⟨w2, m2, h2, hw2, hk2⟩ := ih (fun u hu => hv u (by simp [hu])) hk1 (P := P) hw1
    exact ⟨w2, m2, by simp [storeCells, h1, h2], hw2, hk2⟩

/-- A new block of cells. -/
def hNew (c : Array Value) (T : TypeId) (K : Nat → HP → Prop) : HP → Prop := fun m => ∀ b, K b (pt b (.cells c T (0, 0)) + m)

theorem hNew_sound {c : Array Value} {T : TypeId} {K : Nat → HP → Prop} {m : HP} (h : hNew c T K m) {P : Program} {w : World} (hw : Holds w m) :
    ∃ b w' m', (newRow T c).run P w = .ok ⟨b, 0, none⟩ w' ∧ Holds w' m' ∧ K b m' :=
  ⟨w.heap.size, _, _, by simp [newRow], hw.push _, h _⟩

/-! ### Numbers, tests, addresses -/
def hInt (k : IntKind) (x : Int) (K : Int → HP → Prop) : HP → Prop := K (k.wrap x)
def hQuo (k : IntKind) (a b : Int) (K : Int → HP → Prop) : HP → Prop := fun m => b ≠ 0 ∧ K (k.wrap (a.tdiv b)) m
def hRem (a b : Int) (K : Int → HP → Prop) : HP → Prop := fun m => b ≠ 0 ∧ K (a.tmod b) m
def hShl (k : IntKind) (a b : Int) (K : Int → HP → Prop) : HP → Prop := fun m => 0 ≤ b ∧ K (k.wrap (a * 2 ^ min b.toNat k.bits)) m
def hShr (k : IntKind) (a b : Int) (K : Int → HP → Prop) : HP → Prop := fun m => 0 ≤ b ∧ K (a.fdiv (2 ^ min b.toNat k.bits)) m
def bitv (op : BinOp) (k : IntKind) (x y : Int) : Int :=
  let a := BitVec.ofInt k.bits x
  let b := BitVec.ofInt k.bits y
  k.wrap (match op with | .and => a &&& b | .or => a ||| b | .xor => a ^^^ b | _ => a &&& ~~~b : BitVec k.bits).toNat
def hIf (c : Bool) (A B : HP → Prop) : HP → Prop := fun m => (c = true → A m) ∧ (c = false → B m)
def hNil (p : Option Addr) (K : Addr → HP → Prop) : HP → Prop := fun m => ∃ a, p = some a ∧ K a m
def hIdx (a : Option Addr) (n : Nat) (i : Int) (size : Nat) (K : Addr → HP → Prop) : HP → Prop := fun m =>
  ∃ ad, a = some ad ∧ 0 ≤ i ∧ i < n ∧ K (ad.add (i.toNat * size)) m
def hCut (a : Option Addr) (cap : Nat) (lo hi : Int) (size : Nat) (K : Sl → HP → Prop) : HP → Prop := fun m =>
  0 ≤ lo ∧ lo ≤ hi ∧ hi ≤ cap ∧ K ⟨if (cap : Int) = lo then a else a.map (·.add (lo.toNat * size)), (hi - lo).toNat, (cap - lo).toNat⟩ m
def hElem (t : Ty) (cs : Array Value) (i : Int) (n : Nat) (K : t.T → HP → Prop) : HP → Prop := fun m =>
  0 ≤ i ∧ i < n ∧ ∃ x, cs[i.toNat]? = some (t.val x) ∧ K x m
def hByte (s : ByteArray) (i : Int) (K : Int → HP → Prop) : HP → Prop := fun m =>
  0 ≤ i ∧ ∃ b, s[i.toNat]? = some b ∧ K b.toNat m
/-- A result, or a cell, of a kind. -/
def hTy (t : Ty) (v : Value) (K : t.T → HP → Prop) : HP → Prop := fun m => ∃ x, v = t.val x ∧ K x m

/-! ### Rows of cells: append, copy -/
/-- The cells xs stand from 'a' on (none: there are none). -/
def Row (m : HP) (a : Option Addr) (xs : List Value) : Prop :=
  xs = [] ∨ ∃ ad, a = some ad ∧ ∃ c T fr r, m = pt ad.block (.cells c T fr) + r ∧ ad.spot = none ∧ ∀ j v, xs[j]? = some v → c[ad.off + j]? = some v

theorem Row.at {m : HP} {ad : Addr} {xs : List Value} (h : Row m (some ad) xs) : ∀ j v, xs[j]? = some v → At m (ad.add j) v := by
  intro j v hj
  rcases h with rfl | ⟨ad', h1, c, T, fr, r, rfl, hs, hall⟩
  · simp at hj
  · obtain rfl : ad = ad' := by simpa using h1
    obtain ⟨b, o, sp⟩ := ad
    simp only at hs; subst hs
    refine ⟨c, T, fr, r, by simp [Addr.add_lit], by simp [Addr.add_lit], ?_⟩
    simpa [Addr.add_lit] using hall j v hj

/-- Cells are written over, from 'a' on. -/
def blit (c : Array Value) (off : Nat) : List Value → Array Value
  | [] => c
  | v :: vs => blit (c.setIfInBounds off v) (off + 1) vs
theorem blit_size (vs : List Value) : ∀ (c : Array Value) (off : Nat), (blit c off vs).size = c.size := by
  induction vs with
  | nil => intro c off; rfl
  | cons v vs ih => intro c off; simp [blit, ih]

def hBlit (a : Option Addr) (xs : List Value) (K : HP → Prop) : HP → Prop := fun m =>
  (xs = [] ∧ K m) ∨ ∃ ad, a = some ad ∧ ∃ c T fr r, m = pt ad.block (.cells c T fr) + r ∧ ad.spot = none ∧ ad.off + xs.length ≤ c.size ∧
    (∀ j, j < xs.length → ¬ (fr.1 ≤ ad.off + j ∧ ad.off + j < fr.2)) ∧ K (pt ad.block (.cells (blit c ad.off xs) T fr) + r)

theorem hBlit_sound_aux {b : Nat} {T : TypeId} {fr : Nat × Nat} {r : HP} {P : Program} {o : Nat} : ∀ (xs : List Value), (∀ v ∈ xs, v.oneCell' = true) → ∀ (c : Array Value) (i : Nat) (w : World),
    Holds w (pt b (.cells c T fr) + r) → o + i + xs.length ≤ c.size → (∀ j, j < xs.length → ¬ (fr.1 ≤ o + i + j ∧ o + i + j < fr.2)) →
    ∃ w', (storeCells ⟨b, o, none⟩ xs i).run P w = .ok () w' ∧ Holds w' (pt b (.cells (blit c (o + i) xs) T fr) + r) := by
  intro xs
  induction xs with
  | nil => intro _ c i w hw _ _; exact ⟨w, by simp [storeCells], by simpa [blit] using hw⟩
  | cons v xs ih =>
    intro hv c i w hw hle hfr
    have hst : hStore v ⟨b, o + i, none⟩ (fun m => m = pt b (.cells (c.setIfInBounds (o + i) v) T fr) + r) (pt b (.cells c T fr) + r) :=
      ⟨c, T, fr, r, rfl, rfl, by simp at hle ⊢; omega, by simpa using hfr 0 (by simp), rfl⟩
    obtain ⟨w1, m1, h1, hw1, rfl⟩ := hStore_sound (hv v (by simp)) hst (P := P) hw
    obtain ⟨w2, h2, hw2⟩ := ih (fun u hu => hv u (by simp [hu])) _ (i + 1) w1 hw1 (by simp at hle ⊢; omega) (fun j hj => by
      have := hfr (j + 1) (by simp; omega)
      rwa [show o + i + (j + 1) = o + (i + 1) + j by omega] at this)
    exact ⟨w2, by simp [storeCells, Addr.add_lit, h1, h2], by simpa [blit, Nat.add_assoc] using hw2⟩

theorem hBlit_sound {ad : Addr} {xs : List Value} (hv : ∀ v ∈ xs, v.oneCell' = true) {K : HP → Prop} {m : HP} (h : hBlit (some ad) xs K m) {P : Program} {w : World} (hw : Holds w m) :
    ∃ w' m', (storeCells ad xs).run P w = .ok () w' ∧ Holds w' m' ∧ K m' := by
  rcases h with ⟨rfl, hk⟩ | ⟨ad', h1, c, T, fr, r, rfl, hs, hle, hfr, hk⟩
  · exact ⟨w, m, by simp [storeCells], hw, hk⟩
  · obtain rfl : ad = ad' := by simpa using h1
    obtain ⟨b, o, sp⟩ := ad
    simp only at hs; subst hs
    obtain ⟨w', h2, hw'⟩ := hBlit_sound_aux (P := P) xs hv c 0 w hw (by simpa using hle) (by simpa using hfr)
    exact ⟨w', _, h2, by simpa using hw', hk⟩

/-- append(s, xs...) -/
def hAppend (size bytes : Nat) (zero : Array Value) (e : TypeId) (s x : Sl) (K : Sl → HP → Prop) : HP → Prop := fun m =>
  ∃ xs : List Value, xs.length = x.n * size ∧ Row m x.a xs ∧ (∀ v ∈ xs, v.oneCell' = true) ∧
    (s.n + x.n ≤ s.cap → hBlit (s.a.map (·.add (s.n * size))) xs (fun m' => K ⟨s.a, s.n + x.n, s.cap⟩ m') m) ∧
    (s.cap < s.n + x.n → ∃ ys : List Value, ys.length = s.n * size ∧ Row m s.a ys ∧ bytes ≠ 0 ∧ Builtin.nextslicecap (s.n + x.n) s.cap * bytes ≤ 2 ^ 48 ∧
      ∀ cap b, s.n + x.n ≤ cap → K ⟨some ⟨b, 0, none⟩, s.n + x.n, cap⟩ (pt b (.cells ((ys ++ xs).toArray ++ Builtin.zeroCells zero (cap - (s.n + x.n))) e (0, 0)) + m))

end Go.Hp
