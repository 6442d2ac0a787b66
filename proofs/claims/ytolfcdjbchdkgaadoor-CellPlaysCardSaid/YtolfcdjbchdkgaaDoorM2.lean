/- Rules for walking through the printed predicates. Own work; nothing of any program. -/
import Derived.Test.YtolfcdjbchdkgaaDoorM1
import Derived.Test.YtolfcdjbchdkgaaDoorProg
namespace Go.Hp
open Go

/-! ### Parts of a heaplet -/
/-- m is X and the rest r, found by instances. -/
class Sub (X m : HP) (r : outParam HP) : Prop where
  eq : m = X + r
instance Sub.zero (m : HP) : Sub 0 m m := ⟨by simp⟩
instance (priority := high) Sub.refl (m : HP) : Sub m m 0 := ⟨by simp⟩
instance Sub.atom (b : Nat) (o : Obj) (m r : HP) [h : Has b m o r] : Sub (pt b o) m r := ⟨h.eq⟩
instance (priority := low) Sub.both (A B m r r' : HP) [h1 : Sub A m r] [h2 : Sub B r r'] : Sub (A + B) m r' := ⟨by rw [h1.eq, h2.eq, HP.add_assoc]⟩
instance (priority := high) Sub.head (X y : HP) : Sub X (X + y) y := ⟨rfl⟩
instance Sub.last (X y : HP) : Sub X (y + X) y := ⟨HP.add_comm _ _⟩
instance (priority := low) Sub.inl (X a b r : HP) [h : Sub X a r] : Sub X (a + b) (r + b) := ⟨by rw [h.eq, HP.add_assoc]⟩
instance (priority := low) Sub.inr (X a b r : HP) [h : Sub X b r] : Sub X (a + b) (a + r) := ⟨by rw [h.eq, HP.add_left_comm]⟩

theorem Sub.ex (X m : HP) {r : HP} [h : Sub X m r] : ∃ g, m = X + g := ⟨r, h.eq⟩

/-- m holds M and more. -/
def Over (M m : HP) : Prop := ∃ g, m = M + g
theorem Over.refl (m : HP) : Over m m := ⟨0, by simp⟩
theorem Over.of (M m : HP) {r : HP} [h : Sub M m r] : Over M m := ⟨r, h.eq⟩
theorem Over.trans {a b c : HP} (h1 : Over a b) (h2 : Over b c) : Over a c := by
  obtain ⟨g, rfl⟩ := h1; obtain ⟨k, rfl⟩ := h2; exact ⟨g + k, HP.add_assoc _ _ _⟩
theorem Over.trans' {a b c : HP} (h1 : Over b c) (e : a = b) : Over a c := by rw [e]; exact h1
theorem Over.left (a b : HP) : Over a (a + b) := ⟨b, rfl⟩
theorem Over.right (a b : HP) : Over b (a + b) := ⟨a, HP.add_comm _ _⟩
theorem Over.add {a b : HP} (h : Over a b) (c : HP) : Over (a + c) (b + c) := by
  obtain ⟨g, rfl⟩ := h; exact ⟨g, by rw [HP.add_assoc, HP.add_assoc, HP.add_comm g c]⟩

/-- The function returned this, and this is left, at least. -/
def ret (v : Value) (M : HP) : Ending → HP → Prop := fun e m' => e = .returned v ∧ Over M m'
theorem ret.mk {v : Value} {M m' : HP} (h : Over M m') : ret v M (.returned v) m' := ⟨rfl, h⟩
theorem ret.of {v : Value} (M m' : HP) {r : HP} [h : Sub M m' r] : ret v M (.returned v) m' := ⟨rfl, r, h.eq⟩

theorem Holds.over {w : World} {M m : HP} (h : Holds w m) (ho : Over M m) : Holds w M := by obtain ⟨g, rfl⟩ := ho; exact h.left

theorem Does.up {P : Program} {f : FuncId} {args : Array Value} {m : HP} {R R' : Ending → HP → Prop} (h : Does P f args m R) (hr : ∀ e m', R e m' → ∃ m'', Over m'' m' ∧ R' e m'') : Does P f args m R' :=
  ⟨h.1, fun w hw => (h.2 w hw).mono fun e w' ⟨m', h1, h2⟩ => by
    obtain ⟨m'', h3, h4⟩ := hr e m' h2
    exact ⟨m'', h1.over h3, h4⟩⟩
/-- From a greater heaplet. -/
theorem Does.from {P : Program} {f : FuncId} {args : Array Value} {m m0 : HP} {R : Ending → HP → Prop} (h : Does P f args m0 R) (ho : Over m0 m) : Does P f args m R :=
  ⟨h.1, fun w hw => h.2 w (hw.over ho)⟩

section rules
variable {P : Program} {m : HP}
theorem hCall_of {f : FuncId} {args : Array Value} {K : Value → HP → Prop} {X : List PanicEntry → HP → Prop} {R : Ending → HP → Prop} (hd : Does P f args m R) (hk : ∀ e m', R e m' → ∃ m'', Over m'' m' ∧ retX K X e m'') : hCall P f args X K m := hd.up hk
theorem hCall_ret {f : FuncId} {args : Array Value} {K : Value → HP → Prop} {X : List PanicEntry → HP → Prop} {v : Value} {M : HP} (hd : Does P f args m (ret v M)) (hk : K v M) : hCall P f args X K m :=
  hd.up fun e m' ⟨he, ho⟩ => ⟨M, ho, by subst he; exact hk⟩
theorem hCall_post {f : FuncId} {args : Array Value} {K : Value → HP → Prop} {X : List PanicEntry → HP → Prop} {S : Value → HP → Prop} (hd : Does P f args m fun e m' => ∃ v m'', e = .returned v ∧ Over m'' m' ∧ S v m'') (hk : ∀ v m', S v m' → K v m') : hCall P f args X K m :=
  hd.up fun e m' ⟨v, m'', he, ho, hs⟩ => ⟨m'', ho, by subst he; exact hk v m'' hs⟩

theorem hNil_some {a : Addr} {K : Addr → HP → Prop} (h : K a m) : hNil (some a) K m := ⟨a, rfl, h⟩

theorem hLoad_at {t : Ty} {b o : Nat} {c : Array Value} {T : TypeId} {fr : Nat × Nat} {r : HP} {K : t.T → HP → Prop} [h : Has b m (.cells c T fr) r] {x : t.T} (hc : c[o]? = some (t.val x)) (hk : K x m) : hLoad t ⟨b, o, none⟩ K m :=
  ⟨x, ⟨c, T, fr, r, h.eq, rfl, hc⟩, hk⟩
theorem add_eq (b o n : Nat) : Addr.add ⟨b, o, none⟩ n = ⟨b, o + n, none⟩ := by simp [Addr.add_lit]
theorem hLoad_add {t : Ty} {b o n : Nat} {K : t.T → HP → Prop} (h : hLoad t ⟨b, o + n, none⟩ K m) : hLoad t (Addr.add ⟨b, o, none⟩ n) K m := by rw [add_eq]; exact h
theorem hStore_add {v : Value} {b o n : Nat} {K : HP → Prop} (h : hStore v ⟨b, o + n, none⟩ K m) : hStore v (Addr.add ⟨b, o, none⟩ n) K m := by rw [add_eq]; exact h
theorem hLoad_int {k : IntKind} {b o : Nat} {c : Array Value} {T : TypeId} {fr : Nat × Nat} {r : HP} {K : Int → HP → Prop} [Has b m (.cells c T fr) r] {x : Int} (hc : c[o]? = some (.int k x)) (hk : K x m) : hLoad (.int k) ⟨b, o, none⟩ K m := hLoad_at hc hk
theorem hLoad_bool {b o : Nat} {c : Array Value} {T : TypeId} {fr : Nat × Nat} {r : HP} {K : Bool → HP → Prop} [Has b m (.cells c T fr) r] {x : Bool} (hc : c[o]? = some (.bool x)) (hk : K x m) : hLoad .bool ⟨b, o, none⟩ K m := hLoad_at hc hk
theorem hLoad_ptr {b o : Nat} {c : Array Value} {T : TypeId} {fr : Nat × Nat} {r : HP} {K : Option Addr → HP → Prop} [Has b m (.cells c T fr) r] {x : Option Addr} (hc : c[o]? = some (.pointer x)) (hk : K x m) : hLoad .ptr ⟨b, o, none⟩ K m := hLoad_at hc hk
theorem hLoad_slice {b o : Nat} {c : Array Value} {T : TypeId} {fr : Nat × Nat} {r : HP} {K : Sl → HP → Prop} [Has b m (.cells c T fr) r] {a : Option Addr} {n cp : Nat} (hc : c[o]? = some (.slice a n cp)) (hk : K ⟨a, n, cp⟩ m) : hLoad .slice ⟨b, o, none⟩ K m := hLoad_at (t := .slice) (x := ⟨a, n, cp⟩) hc hk
theorem hLoad_map {b o : Nat} {c : Array Value} {T : TypeId} {fr : Nat × Nat} {r : HP} {K : Option Nat → HP → Prop} [Has b m (.cells c T fr) r] {x : Option Nat} (hc : c[o]? = some (.map x)) (hk : K x m) : hLoad .map ⟨b, o, none⟩ K m := hLoad_at hc hk
theorem hLoad_any {b o : Nat} {c : Array Value} {T : TypeId} {fr : Nat × Nat} {r : HP} {K : Value → HP → Prop} [Has b m (.cells c T fr) r] {x : Value} (hc : c[o]? = some x) (hk : K x m) : hLoad .any ⟨b, o, none⟩ K m := hLoad_at (t := .any) hc hk

theorem hStore_at {v : Value} {b o : Nat} {c : Array Value} {T : TypeId} {r : HP} {K : HP → Prop} [h : Has b m (.cells c T (0, 0)) r] (ho : o < c.size) (hk : K (pt b (.cells (c.setIfInBounds o v) T (0, 0)) + r)) : hStore v ⟨b, o, none⟩ K m :=
  ⟨c, T, (0, 0), r, h.eq, rfl, ho, by simp, hk⟩

theorem hNew_of {c : Array Value} {T : TypeId} {K : Nat → HP → Prop} (h : ∀ b, K b (pt b (.cells c T (0, 0)) + m)) : hNew c T K m := h
theorem hInt_i64 {x : Int} {K : Int → HP → Prop} (h0 : -9223372036854775808 ≤ x) (h1 : x ≤ 9223372036854775807) (hk : K x m) : hInt .i64 x K m := by
  unfold hInt; rw [wrap_i64 h0 h1]; exact hk
theorem wrap_u64 {x : Int} : IntKind.u64.wrap x = x % 18446744073709551616 := by
  simp only [IntKind.wrap, IntKind.bits, IntKind.signed]
  have : (2 : Int) ^ 64 = 18446744073709551616 := by decide
  simp [this]
theorem hInt_u64 {x : Int} {K : Int → HP → Prop} (h0 : 0 ≤ x) (h1 : x < 18446744073709551616) (hk : K x m) : hInt .u64 x K m := by
  unfold hInt; rw [wrap_u64, Int.emod_eq_of_lt h0 h1]; exact hk
theorem hIf_true {c : Bool} {A B : HP → Prop} (h : c = true) (hk : A m) : hIf c A B m := ⟨fun _ => hk, fun h' => by rw [h] at h'; cases h'⟩
theorem hIf_false {c : Bool} {A B : HP → Prop} (h : c = false) (hk : B m) : hIf c A B m := ⟨fun h' => (by rw [h] at h'; cases h'), fun _ => hk⟩
theorem hIf_pos {p : Prop} [Decidable p] {A B : HP → Prop} (h : p) (hk : A m) : hIf (decide p) A B m := hIf_true (by simpa using h) hk
theorem hIf_neg {p : Prop} [Decidable p] {A B : HP → Prop} (h : ¬ p) (hk : B m) : hIf (decide p) A B m := hIf_false (by simpa using h) hk
theorem hIf_dec {p : Prop} [Decidable p] {A B : HP → Prop} (h1 : p → A m) (h2 : ¬ p → B m) : hIf (decide p) A B m := ⟨fun h => h1 (of_decide_eq_true h), fun h => h2 (of_decide_eq_false h)⟩
theorem hIf_eq {x y : Int} {A B : HP → Prop} (h1 : x = y → A m) (h2 : x ≠ y → B m) : hIf (x == y) A B m := ⟨fun h => h1 (by simpa using h), fun h => h2 (by simpa using h)⟩
theorem hIf_ne {x y : Int} {A B : HP → Prop} (h1 : x ≠ y → A m) (h2 : x = y → B m) : hIf (x != y) A B m := ⟨fun h => h1 (by simpa using h), fun h => h2 (by simpa using h)⟩
theorem hIf_eqT {x y : Int} {A B : HP → Prop} (h : x = y) (hk : A m) : hIf (x == y) A B m := hIf_true (by simpa using h) hk
theorem hIf_eqF {x y : Int} {A B : HP → Prop} (h : x ≠ y) (hk : B m) : hIf (x == y) A B m := hIf_false (by simpa using h) hk
theorem hIf_neT {x y : Int} {A B : HP → Prop} (h : x ≠ y) (hk : A m) : hIf (x != y) A B m := hIf_true (by simpa using h) hk
theorem hIf_neF {x y : Int} {A B : HP → Prop} (h : x = y) (hk : B m) : hIf (x != y) A B m := hIf_false (by simpa using h) hk
theorem hIf_split {c : Bool} {A B : HP → Prop} (h1 : c = true → A m) (h2 : c = false → B m) : hIf c A B m := ⟨h1, h2⟩
theorem hIf_not {c : Bool} {A B : HP → Prop} (h : hIf c B A m) : hIf (!c) A B m := ⟨fun hc => h.2 (by simpa using hc), fun hc => h.1 (by simpa using hc)⟩
theorem hIdx_of {b o n size : Nat} {i : Int} {K : Addr → HP → Prop} (h0 : 0 ≤ i) (h1 : i < n) (hk : K ⟨b, o + i.toNat * size, none⟩ m) : hIdx (some ⟨b, o, none⟩) n i size K m :=
  ⟨_, rfl, h0, h1, by rw [add_eq]; exact hk⟩
theorem tdiv_pos {a b : Int} (ha : 0 ≤ a) : a.tdiv b = a / b := Int.tdiv_eq_ediv_of_nonneg ha
theorem tmod_pos {a b : Int} (ha : 0 ≤ a) : a.tmod b = a % b := Int.tmod_eq_emod_of_nonneg ha
theorem hQuo_pos {a b : Int} {K : Int → HP → Prop} (ha : 0 ≤ a) (ha' : a ≤ 9223372036854775807) (hb : 0 < b) (hk : K (a / b) m) : hQuo .i64 a b K m := by
  refine ⟨by omega, ?_⟩
  rw [tdiv_pos ha, wrap_i64]
  · exact hk
  · have := Int.ediv_nonneg ha (Int.le_of_lt hb); omega
  · have := Int.ediv_le_self b ha; omega
theorem hRem_pos {a b : Int} {K : Int → HP → Prop} (ha : 0 ≤ a) (hb : 0 < b) (hk : K (a % b) m) : hRem a b K m := by
  refine ⟨by omega, ?_⟩
  rw [tmod_pos ha]; exact hk
theorem hCut_of {b o cap size : Nat} {lo hi : Int} {K : Sl → HP → Prop} (h0 : 0 ≤ lo) (h1 : lo ≤ hi) (h2 : hi ≤ cap)
    (hk : K ⟨some ⟨b, if (cap : Int) = lo then o else o + lo.toNat * size, none⟩, (hi - lo).toNat, (cap - lo).toNat⟩ m) : hCut (some ⟨b, o, none⟩) cap lo hi size K m := by
  refine ⟨h0, h1, h2, ?_⟩
  simp only [Option.map_some, add_eq]
  by_cases e : (cap : Int) = lo
  · rw [if_pos e] at hk ⊢; exact hk
  · rw [if_neg e] at hk ⊢; exact hk
theorem hMake_of {size bytes : Nat} {zero : Array Value} {e : TypeId} {l c : Int} {K : Nat → HP → Prop} (h0 : 0 ≤ l) (h1 : l ≤ c) (h2 : c ≤ 281474976710656) (h3 : bytes * c ≤ 281474976710656)
    (hk : ∀ b, K b (pt b (.cells (makeCells zero (c.toNat * size)) e (0, 0)) + m)) : hMake size bytes zero e l c K m :=
  ⟨h0, h1, by simpa using h2, by simpa using h3, hk⟩
theorem hLoop_of {α : Type} {x0 : α} {body : α → (α → HP → Prop) → HP → Prop} (I : Nat → α → HP → Prop) (h0 : ∃ k, I k x0 m) (hs : ∀ k x m, I k x m → body x (fun x' m' => ∃ k', k' < k ∧ I k' x' m') m) : hLoop x0 body m := ⟨I, h0, hs⟩
theorem hAll_of {f : (Nat → EV) → HP → Prop} (h : ∀ s, f s m) : hAll f m := fun s _ => h s
theorem hLet_of {α : Type} {A : (α → HP → Prop) → HP → Prop} {k : α → HP → Prop} (J : α → HP → Prop) (h1 : A J m) (h2 : ∀ x m, J x m → k x m) : hLet A k m := ⟨J, h2, h1⟩
/-- The cut's state is what the first part hands on. -/
theorem hLet_strong {α : Type} {A : (α → HP → Prop) → HP → Prop} {k : α → HP → Prop} (h : A k m) : hLet A k m := ⟨k, fun _ _ h => h, h⟩
theorem hElem_int {k : IntKind} {cs : Array Value} {i : Int} {n : Nat} {K : Int → HP → Prop} {x : Int} (h0 : 0 ≤ i) (h1 : i < n) (hc : cs[i.toNat]? = some (.int k x)) (hk : K x m) : hElem (.int k) cs i n K m := ⟨h0, h1, x, hc, hk⟩
end rules

/-! ### Arrays of rows -/
/-- Cells laid out row by row. -/
def rows {α : Type} (f : α → List Value) (l : List α) : Array Value := (l.flatMap f).toArray
theorem flatMap_get {α : Type} {f : α → List Value} {sz : Nat} (hf : ∀ x, (f x).length = sz) : ∀ {l : List α} {i j : Nat}, j < sz → (l.flatMap f)[i * sz + j]? = (l[i]?).bind fun x => (f x)[j]?
  | [], i, j, _ => by simp
  | x :: l, 0, j, hj => by
    simp only [List.flatMap_cons, Nat.zero_mul, Nat.zero_add]
    rw [List.getElem?_append_left (by rw [hf]; exact hj)]; rfl
  | x :: l, i + 1, j, hj => by
    simp only [List.flatMap_cons]
    rw [List.getElem?_append_right (by rw [hf, Nat.add_mul]; omega), hf, show (i + 1) * sz + j - sz = i * sz + j by rw [Nat.add_mul]; omega, flatMap_get hf hj]
    simp
theorem flatMap_len {α : Type} {f : α → List Value} {sz : Nat} (hf : ∀ x, (f x).length = sz) (l : List α) : (l.flatMap f).length = l.length * sz := by
  induction l with
  | nil => simp
  | cons x l ih => simp only [List.flatMap_cons, List.length_append, ih, hf, List.length_cons, Nat.add_mul]; omega
theorem rows_size {α : Type} {f : α → List Value} {sz : Nat} (hf : ∀ x, (f x).length = sz) (l : List α) : (rows f l).size = l.length * sz := by simp [rows, flatMap_len hf]
theorem rows_get {α : Type} {f : α → List Value} {sz : Nat} (hf : ∀ x, (f x).length = sz) {l : List α} {o i j : Nat} {x : α} (hj : j < sz) (ho : o = i * sz + j) (hx : l[i]? = some x) : (rows f l)[o]? = (f x)[j]? := by
  subst ho
  simp only [rows, List.getElem?_toArray]
  rw [flatMap_get hf hj, hx]; rfl
theorem flatMap_set {α : Type} {f : α → List Value} {sz : Nat} (hf : ∀ x, (f x).length = sz) {v : Value} : ∀ {l : List α} {i j : Nat} {x x' : α}, j < sz → l[i]? = some x → f x' = (f x).set j v → (l.flatMap f).set (i * sz + j) v = (l.set i x').flatMap f
  | [], i, j, x, x', _, hx, _ => by simp at hx
  | y :: l, 0, j, x, x', hj, hx, hv => by
    simp only [List.getElem?_cons_zero, Option.some.injEq] at hx; subst hx
    simp only [List.flatMap_cons, Nat.zero_mul, Nat.zero_add, List.set_cons_zero]
    rw [List.set_append_left _ _ (by rw [hf]; exact hj), hv]
  | y :: l, i + 1, j, x, x', hj, hx, hv => by
    simp only [List.getElem?_cons_succ] at hx
    simp only [List.flatMap_cons, List.set_cons_succ]
    rw [List.set_append_right _ _ (by rw [hf, Nat.add_mul]; omega), hf, show (i + 1) * sz + j - sz = i * sz + j by rw [Nat.add_mul]; omega, flatMap_set hf hj hx hv]
theorem rows_set {α : Type} {f : α → List Value} {sz : Nat} (hf : ∀ x, (f x).length = sz) {v : Value} {l : List α} {o i j : Nat} {x x' : α} (hj : j < sz) (ho : o = i * sz + j) (hx : l[i]? = some x) (hv : f x' = (f x).set j v) : (rows f l).setIfInBounds o v = rows f (l.set i x') := by
  subst ho
  simp only [rows, List.setIfInBounds_toArray]
  rw [flatMap_set hf hj hx hv]
theorem rows_make {α : Type} {f : α → List Value} {z : α} (h : 0 < (f z).length) (n : Nat) : makeCells (f z).toArray (n * (f z).length) = rows f (List.replicate n z) := by
  apply Array.ext'
  simp only [makeCells, rows, Array.toList_map, Array.toList_range]
  apply List.ext_getElem?
  intro i
  have hf : ∀ x ∈ List.replicate n z, (f x).length = (f z).length := fun x hx => by rw [(List.mem_replicate.1 hx).2]
  by_cases hi : i < n * (f z).length
  · rw [List.getElem?_map, List.getElem?_range hi]
    have e : (List.replicate n z).flatMap f = (List.replicate n z).flatMap fun _ => f z := by
      rw [List.flatMap_def, List.flatMap_def]; congr 1; apply List.map_congr_left; intro x hx; rw [(List.mem_replicate.1 hx).2]
    rw [e]
    have hd := Nat.div_add_mod i (f z).length
    have hm := Nat.mod_lt i h
    have hq : i / (f z).length < n := Nat.div_lt_of_lt_mul (by rw [Nat.mul_comm]; exact hi)
    have hi' : i = i / (f z).length * (f z).length + i % (f z).length := by rw [Nat.mul_comm]; omega
    conv => rhs; rw [hi']
    rw [flatMap_get (f := fun _ : α => f z) (sz := (f z).length) (fun _ => rfl) hm]
    simp only [List.getElem?_replicate, hq, if_true, Option.bind_some, Option.map_some, List.size_toArray]
    rw [List.getElem?_eq_getElem hm]
    simp [List.getElem!_toArray, hm]
  · rw [List.getElem?_eq_none (by simp; omega), List.getElem?_eq_none]
    rw [List.flatMap_def, List.length_flatten]
    simp; omega

end Go.Hp
/- What every printed text leans on. Own work; nothing of any program. -/
namespace Go.Proofs.YtolfcdjbchdkgaaDoor
open Go Go.Hp
theorem mixed : Tryd.prog.follows .mixedOrders = true := by kernel_rfl
end Go.Proofs.YtolfcdjbchdkgaaDoor
/- The predicates of functions of the program, printed by a program of this session (wip/tools/prt.py) out of Lean's own print of the loaded functions. -/
namespace Go.Proofs.YtolfcdjbchdkgaaDoor
open Go Go.Hp
set_option maxRecDepth 100000
/-! treadle/treadlelaw05.SpanPlays -/
noncomputable def code3 : Code := (Tryd.f3.body).getD .skip
def F3_j18 (v_4 : Option Addr) (v_7 : Option Addr) (t54_13 : Int) (b_18 : Nat) (again_12 : (Int × Unit) → HP → Prop) (same_52 : Bool) (R : Ending → HP → Prop) : HP → Prop :=
  hLoad (.int .i64) ⟨b_18, 1, none⟩ fun (v_53 : Int) =>
  hCall Tryd.prog 15 #[(.pointer v_4), (.int .i64 v_53)] (fun ch => R (.panicked ch)) fun r_54 m => ∃ (r_55 : Int) (r_56 : Int) (r_57 : Int) (v_58 : Bool), r_54 = (.tuple #[(.agg #[(.int .i64 r_55), (.int .i64 r_56), (.int .i64 r_57)]), (.bool v_58)]) ∧ (hNew #[(.int .i64 0), (.int .i64 0), (.int .i64 0)] 34 fun b_59 =>
  hStore (.int .i64 r_55) ⟨b_59, 0, none⟩
    (hStore (.int .i64 r_56) ⟨b_59, 1, none⟩
    (hStore (.int .i64 r_57) ⟨b_59, 2, none⟩
    (hLoad (.int .i64) ⟨b_18, 1, none⟩ fun (v_60 : Int) =>
  hCall Tryd.prog 16 #[(.pointer v_7), (.int .i64 v_60)] (fun ch => R (.panicked ch)) fun r_61 m => ∃ (r_62 : Int) (r_63 : Int) (r_64 : Int) (v_65 : Bool), r_61 = (.tuple #[(.agg #[(.int .i64 r_62), (.int .i64 r_63), (.int .i64 r_64)]), (.bool v_65)]) ∧ (hNew #[(.int .i64 0), (.int .i64 0), (.int .i64 0)] 34 fun b_66 =>
  hStore (.int .i64 r_62) ⟨b_66, 0, none⟩
    (hStore (.int .i64 r_63) ⟨b_66, 1, none⟩
    (hStore (.int .i64 r_64) ⟨b_66, 2, none⟩
    (hCall Tryd.prog 17 #[(.pointer v_4)] (fun ch => R (.panicked ch)) fun r_67 m => ∃ (v_68 : Int) (v_69 : Int), r_67 = (.tuple #[(.int .i64 v_68), (.int .i64 v_69)]) ∧ (hNil v_7 fun a_70 =>
  hLoad .ptr a_70 fun (v_71 : Option Addr) =>
  hCall Tryd.prog 18 #[(.pointer v_71)] (fun ch => R (.panicked ch)) fun r_72 m => ∃ (v_73 : Int) (v_74 : Int), r_72 = (.tuple #[(.int .i64 v_73), (.int .i64 v_74)]) ∧ (hIf (!same_52)
    (R (.returned (.bool false)))
    (hLoad (.int .i64) ⟨b_59, 0, none⟩ fun (v_75 : Int) =>
  hLoad (.int .i64) ⟨b_59, 1, none⟩ fun (v_76 : Int) =>
  hLoad (.int .i64) ⟨b_59, 2, none⟩ fun (v_77 : Int) =>
  hLoad (.int .i64) ⟨b_66, 0, none⟩ fun (v_78 : Int) =>
  hLoad (.int .i64) ⟨b_66, 1, none⟩ fun (v_79 : Int) =>
  hLoad (.int .i64) ⟨b_66, 2, none⟩ fun (v_80 : Int) =>
  hEq Tryd.prog .neq 34 (.tmp 129) (.tmp 130) (.agg #[(.int .i64 v_75), (.int .i64 v_76), (.int .i64 v_77)]) (.agg #[(.int .i64 v_78), (.int .i64 v_79), (.int .i64 v_80)]) fun e_81 =>
  hIf (!e_81)
    (R (.returned (.bool false)))
    (hIf (!(v_58 == v_65))
    (R (.returned (.bool false)))
    (hIf (v_68 != v_73)
    (R (.returned (.bool false)))
    (hIf (v_69 != v_74)
    (R (.returned (.bool false)))
    (hInt .i64 (t54_13 + 1) fun v_82 =>
  again_12 (v_82, ()))))))) m) m)))) m)))) m
def F3_l8 (script_2 : Sl) (v_4 : Option Addr) (v_7 : Option Addr) (t54_13 : Int) (again_12 : (Int × Unit) → HP → Prop) (R : Ending → HP → Prop) : HP → Prop :=
  hIf (decide (t54_13 < ((script_2.n : Nat) : Int)))
    (hIdx script_2.a script_2.n t54_13 3 fun a_14 =>
  hLoad (.int .i64) a_14 fun (v_15 : Int) =>
  hLoad (.int .i64) (a_14.add 1) fun (v_16 : Int) =>
  hLoad (.int .i64) (a_14.add 2) fun (v_17 : Int) =>
  hNew #[(.int .i64 0), (.int .i64 0), (.int .i64 0)] 32 fun b_18 =>
  hStore (.int .i64 v_15) ⟨b_18, 0, none⟩
    (hStore (.int .i64 v_16) ⟨b_18, 1, none⟩
    (hStore (.int .i64 v_17) ⟨b_18, 2, none⟩
    (hLet (α := Bool × Unit) (fun k_19 => hLoad (.int .i64) ⟨b_18, 0, none⟩ fun (v_20 : Int) =>
  hIf (v_20 == 0)
    (hLoad (.int .i64) ⟨b_18, 1, none⟩ fun (v_21 : Int) =>
  hLoad (.int .i64) ⟨b_18, 2, none⟩ fun (v_22 : Int) =>
  hCall Tryd.prog 11 #[(.pointer v_4), (.int .i64 v_21), (.int .i64 v_22)] (fun ch => R (.panicked ch)) fun r_23 m => ∃ (r_24 : Int) (r_25 : Int) (r_26 : Int) (v_27 : Int), r_23 = (.tuple #[(.agg #[(.int .i64 r_24), (.int .i64 r_25), (.int .i64 r_26)]), (.int .i64 v_27)]) ∧ (hNew #[(.int .i64 0), (.int .i64 0), (.int .i64 0)] 34 fun b_28 =>
  hStore (.int .i64 r_24) ⟨b_28, 0, none⟩
    (hStore (.int .i64 r_25) ⟨b_28, 1, none⟩
    (hStore (.int .i64 r_26) ⟨b_28, 2, none⟩
    (hLoad (.int .i64) ⟨b_18, 1, none⟩ fun (v_29 : Int) =>
  hLoad (.int .i64) ⟨b_18, 2, none⟩ fun (v_30 : Int) =>
  hCall Tryd.prog 12 #[(.pointer v_7), (.int .i64 v_29), (.int .i64 v_30)] (fun ch => R (.panicked ch)) fun r_31 m => ∃ (r_32 : Int) (r_33 : Int) (r_34 : Int) (v_35 : Int), r_31 = (.tuple #[(.agg #[(.int .i64 r_32), (.int .i64 r_33), (.int .i64 r_34)]), (.int .i64 v_35)]) ∧ (hNew #[(.int .i64 0), (.int .i64 0), (.int .i64 0)] 34 fun b_36 =>
  hStore (.int .i64 r_32) ⟨b_36, 0, none⟩
    (hStore (.int .i64 r_33) ⟨b_36, 1, none⟩
    (hStore (.int .i64 r_34) ⟨b_36, 2, none⟩
    (hLoad (.int .i64) ⟨b_28, 0, none⟩ fun (v_37 : Int) =>
  hLoad (.int .i64) ⟨b_28, 1, none⟩ fun (v_38 : Int) =>
  hLoad (.int .i64) ⟨b_28, 2, none⟩ fun (v_39 : Int) =>
  hLoad (.int .i64) ⟨b_36, 0, none⟩ fun (v_40 : Int) =>
  hLoad (.int .i64) ⟨b_36, 1, none⟩ fun (v_41 : Int) =>
  hLoad (.int .i64) ⟨b_36, 2, none⟩ fun (v_42 : Int) =>
  hEq Tryd.prog .eql 34 (.tmp 80) (.tmp 81) (.agg #[(.int .i64 v_37), (.int .i64 v_38), (.int .i64 v_39)]) (.agg #[(.int .i64 v_40), (.int .i64 v_41), (.int .i64 v_42)]) fun e_43 =>
  hIf e_43
    (k_19 ((v_27 == v_35), ()))
    (k_19 (false, ())))))) m)))) m)
    (hIf (v_20 == 1)
    (hLoad (.int .i64) ⟨b_18, 1, none⟩ fun (v_44 : Int) =>
  hLoad (.int .i64) ⟨b_18, 1, none⟩ fun (v_45 : Int) =>
  hCall Tryd.prog 13 #[(.pointer v_4), (.int .i64 v_44)] (fun ch => R (.panicked ch)) fun r_46 m => ∃ (v_47 : Int), r_46 = (.int .i64 v_47) ∧ (hLoad (.int .i64) ⟨b_18, 1, none⟩ fun (v_48 : Int) =>
  fun m => ((.int .i64 v_48) : Value) = (.int .i64 v_45) ∧ (hCall Tryd.prog 14 #[(.pointer v_7), (.int .i64 v_45)] (fun ch => R (.panicked ch)) fun r_49 m => ∃ (v_50 : Int), r_49 = (.int .i64 v_50) ∧ (k_19 ((v_47 == v_50), ())) m) m) m)
    (k_19 (true, ()))))
    (fun x_51 => hAll fun _ => F3_j18 v_4 v_7 t54_13 b_18 again_12 x_51.1 R)))))
    (hCall Tryd.prog 19 #[(.pointer v_4), (.int .i64 (-1))] (fun ch => R (.panicked ch)) fun r_83 m => ∃ (v_84 : Sl) (v_85 : Bool), r_83 = (.tuple #[(.slice v_84.a v_84.n v_84.cap), (.bool v_85)]) ∧ (hIf v_85
    (hNil v_7 fun a_86 =>
  hLoad .slice (a_86.add 1) fun (v_87 : Sl) =>
  hCall Tryd.prog 20 #[(.slice v_84.a v_84.n v_84.cap), (.slice v_87.a v_87.n v_87.cap)] (fun ch => R (.panicked ch)) fun r_88 m => ∃ (v_89 : Bool), r_88 = (.bool v_89) ∧ (R (.returned (.bool v_89))) m)
    (R (.returned (.bool false)))) m)
def F3 (n_1 : Int) (script_2 : Sl) (R : Ending → HP → Prop) : HP → Prop :=
  hCall Tryd.prog 8 #[(.int .i64 n_1)] (fun ch => R (.panicked ch)) fun r_3 m => ∃ (v_4 : Option Addr) (v_5 : Int), r_3 = (.tuple #[(.pointer v_4), (.int .i64 v_5)]) ∧ (hCall Tryd.prog 9 #[(.int .i64 n_1)] (fun ch => R (.panicked ch)) fun r_6 m => ∃ (v_7 : Option Addr) (v_8 : Int), r_6 = (.tuple #[(.pointer v_7), (.int .i64 v_8)]) ∧ (hCall Tryd.prog 10 #[] (fun ch => R (.panicked ch)) fun r_9 m => ∃ (v_10 : Bool), r_9 = (.bool v_10) ∧ (hIf (!v_10)
    (R (.returned (.bool false)))
    (hIf (v_5 != v_8)
    (R (.returned (.bool false)))
    (hIf (!((Option.isNone v_4) == (Option.isNone v_7)))
    (R (.returned (.bool false)))
    (hIf (Option.isNone v_4)
    (R (.returned (.bool true)))
    (hLoop (α := Int × Unit) (0, ()) fun x_11 again_12 => hAll fun _ => F3_l8 script_2 v_4 v_7 x_11.1 again_12 R))))) m) m) m
def ann3 : Ann := { loop := [(8, [(54, (Ty.int .i64))])], cut := [(18, [(11, Ty.bool)])] }
theorem den3 (n_1 : Int) (script_2 : Sl) (R : Ending → HP → Prop) : denF Tryd.prog ann3 Tryd.f3.ntmps Tryd.f3.results.toList code3 [(.int .i64 n_1), (.slice script_2.a script_2.n script_2.cap)] R = F3 n_1 script_2 R := by kernel_rfl
theorem call3 : Callable Tryd.prog 3 := fun a w => Tryd.call3 a w
theorem F3_fn {n_1 : Int} {script_2 : Sl} {R : Ending → HP → Prop} {m : HP} (h : F3 n_1 script_2 R m) : Does Tryd.prog 3 #[(.int .i64 n_1), (.slice script_2.a script_2.n script_2.cap)] m R :=
  fn_of_den mixed (ann := ann3) Tryd.func3 call3 (c := code3) (by kernel_rfl) (by kernel_rfl) (args := [(.int .i64 n_1), (.slice script_2.a script_2.n script_2.cap)]) (Nat.le_of_ble_eq_true (by kernel_rfl)) (.inl (by kernel_rfl)) (by rw [den3]; exact h)
/-! treadle/treadlelaw07.CellApart -/
noncomputable def code4 : Code := (Tryd.f4.body).getD .skip
def F4_l32 (b_8 : Nat) (v_46 : Sl) (v_48 : Sl) (v_55 : Int) (k_14 : (Sl × Sl × Unit) → HP → Prop) (w_70 : Int) (again_69 : (Int × Unit) → HP → Prop) (R : Ending → HP → Prop) : HP → Prop :=
  hIdx v_46.a v_46.n v_55 1 fun a_71 =>
  hLoad (.int .i64) a_71 fun (v_72 : Int) =>
  hIdx v_48.a v_48.n v_55 1 fun a_73 =>
  hLoad (.int .i64) a_73 fun (v_74 : Int) =>
  hInt .i64 (v_72 + v_74) fun v_75 =>
  hIf (decide (w_70 < v_75))
    (hIdx (some ⟨b_8, 0, none⟩) (Int.toNat 16384) w_70 1 fun a_76 =>
  hStore (.int .i64 0) a_76
    (hInt .i64 (w_70 + 1) fun v_77 =>
  again_69 (v_77, ())))
    (hIdx v_46.a v_46.n v_55 1 fun a_78 =>
  hStore (.int .i64 (-1)) a_78
    (k_14 (v_46, v_48, ())))
def F4_l19 (frees_2 : Sl) (v_4 : Option Addr) (b_8 : Nat) (at_11 : Sl) (words_12 : Sl) (t38_13 : Int) (v_29 : Int) (v_33 : Int) (k_14 : (Sl × Sl × Unit) → HP → Prop) (w_38 : Int) (again_37 : (Int × Unit) → HP → Prop) (R : Ending → HP → Prop) : HP → Prop :=
  hInt .i64 (v_29 + v_33) fun v_39 =>
  hIf (decide (w_38 < v_39))
    (hIdx (some ⟨b_8, 0, none⟩) (Int.toNat 16384) w_38 1 fun a_40 =>
  hLoad (.int .i64) a_40 fun (v_41 : Int) =>
  hIf (v_41 != 0)
    (R (.returned (.bool false)))
    (hInt .i64 (t38_13 + 1) fun v_42 =>
  hIdx (some ⟨b_8, 0, none⟩) (Int.toNat 16384) w_38 1 fun a_43 =>
  hStore (.int .i64 v_42) a_43
    (hInt .i64 (w_38 + 1) fun v_44 =>
  again_37 (v_44, ()))))
    (hNew #[(.int .i64 v_29)] 3 fun b_45 =>
  hAppend 1 8 #[(.int .i64 0)] 3 ⟨at_11.a, at_11.n, at_11.cap⟩ ⟨(some ⟨b_45, 0, none⟩), 1, 1⟩ fun v_46 =>
  hNew #[(.int .i64 v_33)] 3 fun b_47 =>
  hAppend 1 8 #[(.int .i64 0)] 3 ⟨words_12.a, words_12.n, words_12.cap⟩ ⟨(some ⟨b_47, 0, none⟩), 1, 1⟩ fun v_48 =>
  hIf (decide (t38_13 < ((frees_2.n : Nat) : Int)))
    (hIf (decide (((v_46.n : Nat) : Int) > 0))
    (hIdx frees_2.a frees_2.n t38_13 1 fun a_49 =>
  hLoad (.int .u8) a_49 fun (v_50 : Int) =>
  hRem v_50 3 fun v_51 =>
  hIf (v_51 == 0)
    (hIdx frees_2.a frees_2.n t38_13 1 fun a_52 =>
  hLoad (.int .u8) a_52 fun (v_53 : Int) =>
  hInt .i64 v_53 fun v_54 =>
  hRem v_54 ((v_46.n : Nat) : Int) fun v_55 =>
  hIdx v_46.a v_46.n v_55 1 fun a_56 =>
  hLoad (.int .i64) a_56 fun (v_57 : Int) =>
  hIf (decide (v_57 < 0))
    (k_14 (v_46, v_48, ()))
    (hIdx v_46.a v_46.n v_55 1 fun a_58 =>
  hLoad (.int .i64) a_58 fun (v_59 : Int) =>
  hCall Tryd.prog 25 #[(.pointer v_4), (.int .i64 v_59)] (fun ch => R (.panicked ch)) fun r_60 m => ∃ (v_61 : Int), r_60 = (.int .i64 v_61) ∧ (hIf (v_61 != 0)
    (R (.returned (.bool false)))
    (hIdx v_46.a v_46.n v_55 1 fun a_62 =>
  hLoad (.int .i64) a_62 fun (v_63 : Int) =>
  hCall Tryd.prog 25 #[(.pointer v_4), (.int .i64 v_63)] (fun ch => R (.panicked ch)) fun r_64 m => ∃ (v_65 : Int), r_64 = (.int .i64 v_65) ∧ (hIf (v_65 != 4)
    (R (.returned (.bool false)))
    (hIdx v_46.a v_46.n v_55 1 fun a_66 =>
  hLoad (.int .i64) a_66 fun (v_67 : Int) =>
  hLoop (α := Int × Unit) (v_67, ()) fun x_68 again_69 => hAll fun _ => F4_l32 b_8 v_46 v_48 v_55 k_14 x_68.1 again_69 R)) m)) m))
    (k_14 (v_46, v_48, ())))
    (k_14 (v_46, v_48, ())))
    (k_14 (v_46, v_48, ())))
def F4_j13 (frees_2 : Sl) (v_4 : Option Addr) (b_8 : Nat) (at_11 : Sl) (words_12 : Sl) (t38_13 : Int) (k_14 : (Sl × Sl × Unit) → HP → Prop) (k_26 : Int) (R : Ending → HP → Prop) : HP → Prop :=
  hRem t38_13 3 fun v_27 =>
  hCall Tryd.prog 23 #[(.pointer v_4), (.int .i64 v_27), (.int .i64 k_26)] (fun ch => R (.panicked ch)) fun r_28 m => ∃ (v_29 : Int) (v_30 : Int), r_28 = (.tuple #[(.int .i64 v_29), (.int .i64 v_30)]) ∧ (hIf (v_30 == 3)
    (k_14 (at_11, words_12, ()))
    (hCall Tryd.prog 24 #[(.pointer v_4), (.int .i64 v_29)] (fun ch => R (.panicked ch)) fun r_31 m => ∃ (v_32 : Int) (v_33 : Int) (v_34 : Bool), r_31 = (.tuple #[(.int .i64 v_32), (.int .i64 v_33), (.bool v_34)]) ∧ (hIf (v_30 != 0)
    (R (.returned (.bool false)))
    (hIf (!v_34)
    (R (.returned (.bool false)))
    (hIf (v_32 != v_29)
    (R (.returned (.bool false)))
    (hIf (decide (v_33 < k_26))
    (R (.returned (.bool false)))
    (hIf (decide (v_29 < 0))
    (R (.returned (.bool false)))
    (hInt .i64 (v_29 + v_33) fun v_35 =>
  hIf (decide (v_35 > (((Int.toNat 16384) : Nat) : Int)))
    (R (.returned (.bool false)))
    (hLoop (α := Int × Unit) (v_29, ()) fun x_36 again_37 => hAll fun _ => F4_l19 frees_2 v_4 b_8 at_11 words_12 t38_13 v_29 v_33 k_14 x_36.1 again_37 R))))))) m)) m
def F4_j36 (t38_13 : Int) (again_10 : (Sl × Sl × Int × Unit) → HP → Prop) (at_80 : Sl) (words_81 : Sl) (R : Ending → HP → Prop) : HP → Prop :=
  hInt .i64 (t38_13 + 1) fun v_82 =>
  again_10 (at_80, words_81, v_82, ())
def F4_l8 (sizes_1 : Sl) (frees_2 : Sl) (v_4 : Option Addr) (b_8 : Nat) (at_11 : Sl) (words_12 : Sl) (t38_13 : Int) (again_10 : (Sl × Sl × Int × Unit) → HP → Prop) (R : Ending → HP → Prop) : HP → Prop :=
  hIf (decide (t38_13 < ((sizes_1.n : Nat) : Int)))
    (hLet (α := Sl × Sl × Unit) (fun k_14 => hIdx sizes_1.a sizes_1.n t38_13 1 fun a_15 =>
  hLoad (.int .u16) a_15 fun (v_16 : Int) =>
  hRem v_16 300 fun v_17 =>
  hInt .i64 v_17 fun v_18 =>
  hInt .i64 (v_18 + 1) fun v_19 =>
  hLet (α := Int × Unit) (fun k_20 => hRem v_16 7 fun v_21 =>
  hIf (v_21 == 0)
    (hRem v_16 1024 fun v_22 =>
  hInt .i64 v_22 fun v_23 =>
  hInt .i64 (v_23 + 1) fun v_24 =>
  k_20 (v_24, ()))
    (k_20 (v_19, ())))
    (fun x_25 => hAll fun _ => F4_j13 frees_2 v_4 b_8 at_11 words_12 t38_13 k_14 x_25.1 R))
    (fun x_79 => hAll fun _ => F4_j36 t38_13 again_10 x_79.1 x_79.2.1 R))
    (R (.returned (.bool true)))
def F4 (sizes_1 : Sl) (frees_2 : Sl) (R : Ending → HP → Prop) : HP → Prop :=
  hCall Tryd.prog 21 #[(.int .i64 256), (.int .i64 3)] (fun ch => R (.panicked ch)) fun r_3 m => ∃ (v_4 : Option Addr) (v_5 : Int), r_3 = (.tuple #[(.pointer v_4), (.int .i64 v_5)]) ∧ (hCall Tryd.prog 22 #[] (fun ch => R (.panicked ch)) fun r_6 m => ∃ (v_7 : Bool), r_6 = (.bool v_7) ∧ (hIf (!v_7)
    (R (.returned (.bool false)))
    (hIf (Option.isNone v_4)
    (R (.returned (.bool false)))
    (hIf (v_5 != 0)
    (R (.returned (.bool false)))
    (hMake 1 8 #[(.int .i64 0)] 3 16384 16384 fun b_8 =>
  hLoop (α := Sl × Sl × Int × Unit) ((⟨none, 0, 0⟩ : Sl), (⟨none, 0, 0⟩ : Sl), 0, ()) fun x_9 again_10 => hAll fun _ => F4_l8 sizes_1 frees_2 v_4 b_8 x_9.1 x_9.2.1 x_9.2.2.1 again_10 R)))) m) m
def ann4 : Ann := { loop := [(8, [(8, Ty.slice), (9, Ty.slice), (38, (Ty.int .i64))]), (19, [(18, (Ty.int .i64))]), (32, [(20, (Ty.int .i64))])], cut := [(36, [(8, Ty.slice), (9, Ty.slice)]), (13, [(12, (Ty.int .i64))])] }
theorem den4 (sizes_1 : Sl) (frees_2 : Sl) (R : Ending → HP → Prop) : denF Tryd.prog ann4 Tryd.f4.ntmps Tryd.f4.results.toList code4 [(.slice sizes_1.a sizes_1.n sizes_1.cap), (.slice frees_2.a frees_2.n frees_2.cap)] R = F4 sizes_1 frees_2 R := by kernel_rfl
theorem call4 : Callable Tryd.prog 4 := fun a w => Tryd.call4 a w
theorem F4_fn {sizes_1 : Sl} {frees_2 : Sl} {R : Ending → HP → Prop} {m : HP} (h : F4 sizes_1 frees_2 R m) : Does Tryd.prog 4 #[(.slice sizes_1.a sizes_1.n sizes_1.cap), (.slice frees_2.a frees_2.n frees_2.cap)] m R :=
  fn_of_den mixed (ann := ann4) Tryd.func4 call4 (c := code4) (by kernel_rfl) (by kernel_rfl) (args := [(.slice sizes_1.a sizes_1.n sizes_1.cap), (.slice frees_2.a frees_2.n frees_2.cap)]) (Nat.le_of_ble_eq_true (by kernel_rfl)) (.inl (by kernel_rfl)) (by rw [den4]; exact h)
/-! treadle/treadlelaw07.CellOwn -/
noncomputable def code5 : Code := (Tryd.f5.body).getD .skip
def F5_j24 (b_12 : Nat) (t47_16 : Int) (v_20 : Int) (v_22 : Int) (again_15 : (Int × Unit) → HP → Prop) (R : Ending → HP → Prop) : HP → Prop :=
  hIdx (some ⟨b_12, 0, none⟩) 4 v_20 1 fun a_39 =>
  hStore (.int .i64 v_22) a_39
    (hInt .i64 (t47_16 + 1) fun v_40 =>
  again_15 (v_40, ()))
def F5_j24_2 (b_12 : Nat) (t47_16 : Int) (v_20 : Int) (v_22 : Int) (again_15 : (Int × Unit) → HP → Prop) (R : Ending → HP → Prop) : HP → Prop :=
  hIdx (some ⟨b_12, 0, none⟩) 4 v_20 1 fun a_52 =>
  hStore (.int .i64 v_22) a_52
    (hInt .i64 (t47_16 + 1) fun v_53 =>
  again_15 (v_53, ()))
def F5_l8 (turns_2 : Sl) (v_4 : Option Addr) (v_10 : Int) (b_11 : Nat) (b_12 : Nat) (v_13 : Sl) (t47_16 : Int) (again_15 : (Int × Unit) → HP → Prop) (R : Ending → HP → Prop) : HP → Prop :=
  hIf (decide (t47_16 < ((v_13.n : Nat) : Int)))
    (hIdx v_13.a v_13.n t47_16 1 fun a_17 =>
  hLoad (.int .u8) a_17 fun (v_18 : Int) =>
  hRem v_18 4 fun v_19 =>
  hInt .i64 v_19 fun v_20 =>
  hCall Tryd.prog 23 #[(.pointer v_4), (.int .i64 v_20), (.int .i64 v_10)] (fun ch => R (.panicked ch)) fun r_21 m => ∃ (v_22 : Int) (v_23 : Int), r_21 = (.tuple #[(.int .i64 v_22), (.int .i64 v_23)]) ∧ (hIf (v_23 != 0)
    (R (.returned (.bool false)))
    (hQuo .i64 v_22 64 fun v_24 =>
  hIdx (some ⟨b_11, 0, none⟩) (Int.toNat 512) v_24 1 fun a_25 =>
  hLoad (.int .i64) a_25 fun (v_26 : Int) =>
  hIf (v_26 != 0)
    (hInt .i64 (v_20 + 1) fun v_27 =>
  hIf (v_26 != v_27)
    (R (.returned (.bool false)))
    (hQuo .i64 v_22 64 fun v_28 =>
  hInt .i64 (v_20 + 1) fun v_29 =>
  hIdx (some ⟨b_11, 0, none⟩) (Int.toNat 512) v_28 1 fun a_30 =>
  hStore (.int .i64 v_29) a_30
    (hLet (α := Unit) (fun k_31 => hRem v_18 3 fun v_32 =>
  hIf (v_32 == 0)
    (hCall Tryd.prog 25 #[(.pointer v_4), (.int .i64 v_22)] (fun ch => R (.panicked ch)) fun r_33 m => ∃ (v_34 : Int), r_33 = (.int .i64 v_34) ∧ (hIf (v_34 != 0)
    (R (.returned (.bool false)))
    (hCall Tryd.prog 23 #[(.pointer v_4), (.int .i64 v_20), (.int .i64 v_10)] (fun ch => R (.panicked ch)) fun r_35 m => ∃ (v_36 : Int) (v_37 : Int), r_35 = (.tuple #[(.int .i64 v_36), (.int .i64 v_37)]) ∧ (hIf (v_37 != 0)
    (R (.returned (.bool false)))
    (hIf (v_36 != v_22)
    (R (.returned (.bool false)))
    (k_31 (())))) m)) m)
    (k_31 (())))
    (fun x_38 => hAll fun _ => F5_j24 b_12 t47_16 v_20 v_22 again_15 R))))
    (hQuo .i64 v_22 64 fun v_41 =>
  hInt .i64 (v_20 + 1) fun v_42 =>
  hIdx (some ⟨b_11, 0, none⟩) (Int.toNat 512) v_41 1 fun a_43 =>
  hStore (.int .i64 v_42) a_43
    (hLet (α := Unit) (fun k_44 => hRem v_18 3 fun v_45 =>
  hIf (v_45 == 0)
    (hCall Tryd.prog 25 #[(.pointer v_4), (.int .i64 v_22)] (fun ch => R (.panicked ch)) fun r_46 m => ∃ (v_47 : Int), r_46 = (.int .i64 v_47) ∧ (hIf (v_47 != 0)
    (R (.returned (.bool false)))
    (hCall Tryd.prog 23 #[(.pointer v_4), (.int .i64 v_20), (.int .i64 v_10)] (fun ch => R (.panicked ch)) fun r_48 m => ∃ (v_49 : Int) (v_50 : Int), r_48 = (.tuple #[(.int .i64 v_49), (.int .i64 v_50)]) ∧ (hIf (v_50 != 0)
    (R (.returned (.bool false)))
    (hIf (v_49 != v_22)
    (R (.returned (.bool false)))
    (k_44 (())))) m)) m)
    (k_44 (())))
    (fun x_51 => hAll fun _ => F5_j24_2 b_12 t47_16 v_20 v_22 again_15 R))))) m)
    (hCall Tryd.prog 26 #[(.pointer v_4)] (fun ch => R (.panicked ch)) fun r_54 m => ∃ (v_55 : Int) (v_56 : Int) (v_57 : Int), r_54 = (.tuple #[(.int .i64 v_55), (.int .i64 v_56), (.int .i64 v_57)]) ∧ (hIf (v_55 == (if 200 < ((turns_2.n : Nat) : Int) then 200 else ((turns_2.n : Nat) : Int)))
    (R (.returned (.bool (((4 : Nat) : Int) == 4))))
    (R (.returned (.bool false)))) m)
def F5 (words_1 : Int) (turns_2 : Sl) (R : Ending → HP → Prop) : HP → Prop :=
  hCall Tryd.prog 21 #[(.int .i64 512), (.int .i64 4)] (fun ch => R (.panicked ch)) fun r_3 m => ∃ (v_4 : Option Addr) (v_5 : Int), r_3 = (.tuple #[(.pointer v_4), (.int .i64 v_5)]) ∧ (hCall Tryd.prog 22 #[] (fun ch => R (.panicked ch)) fun r_6 m => ∃ (v_7 : Bool), r_6 = (.bool v_7) ∧ (hIf (!v_7)
    (R (.returned (.bool false)))
    (hIf (Option.isNone v_4)
    (R (.returned (.bool false)))
    (hIf (v_5 != 0)
    (R (.returned (.bool false)))
    (hRem words_1 24 fun v_8 =>
  hInt .i64 v_8 fun v_9 =>
  hInt .i64 (v_9 + 1) fun v_10 =>
  hMake 1 8 #[(.int .i64 0)] 3 512 512 fun b_11 =>
  hNew #[(.int .i64 (-1)), (.int .i64 (-1)), (.int .i64 (-1)), (.int .i64 (-1))] 3 fun b_12 =>
  hCut turns_2.a turns_2.cap 0 (if 200 < ((turns_2.n : Nat) : Int) then 200 else ((turns_2.n : Nat) : Int)) 1 fun v_13 =>
  hLoop (α := Int × Unit) (0, ()) fun x_14 again_15 => hAll fun _ => F5_l8 turns_2 v_4 v_10 b_11 b_12 v_13 x_14.1 again_15 R)))) m) m
def ann5 : Ann := { loop := [(8, [(47, (Ty.int .i64))])], cut := [(24, [])] }
theorem den5 (words_1 : Int) (turns_2 : Sl) (R : Ending → HP → Prop) : denF Tryd.prog ann5 Tryd.f5.ntmps Tryd.f5.results.toList code5 [(.int .u8 words_1), (.slice turns_2.a turns_2.n turns_2.cap)] R = F5 words_1 turns_2 R := by kernel_rfl
theorem call5 : Callable Tryd.prog 5 := fun a w => Tryd.call5 a w
theorem F5_fn {words_1 : Int} {turns_2 : Sl} {R : Ending → HP → Prop} {m : HP} (h : F5 words_1 turns_2 R m) : Does Tryd.prog 5 #[(.int .u8 words_1), (.slice turns_2.a turns_2.n turns_2.cap)] m R :=
  fn_of_den mixed (ann := ann5) Tryd.func5 call5 (c := code5) (by kernel_rfl) (by kernel_rfl) (args := [(.int .u8 words_1), (.slice turns_2.a turns_2.n turns_2.cap)]) (Nat.le_of_ble_eq_true (by kernel_rfl)) (.inl (by kernel_rfl)) (by rw [den5]; exact h)
/-! treadle/treadlelaw07.CellPlays -/
noncomputable def code6 : Code := (Tryd.f6.body).getD .skip
def F6_l19 (v_5 : Option Addr) (v_8 : Option Addr) (t60_15 : Int) (made_51 : Sl) (b_54 : Nat) (again_13 : (Sl × Int × Unit) → HP → Prop) (t118_57 : Int) (again_56 : (Int × Unit) → HP → Prop) (R : Ending → HP → Prop) : HP → Prop :=
  hIf (decide (t118_57 < ((3 : Nat) : Int)))
    (hIdx (some ⟨b_54, 0, none⟩) 3 t118_57 1 fun a_58 =>
  hLoad (.int .i64) a_58 fun (v_59 : Int) =>
  hCall Tryd.prog 24 #[(.pointer v_5), (.int .i64 v_59)] (fun ch => R (.panicked ch)) fun r_60 m => ∃ (v_61 : Int) (v_62 : Int) (v_63 : Bool), r_60 = (.tuple #[(.int .i64 v_61), (.int .i64 v_62), (.bool v_63)]) ∧ (hCall Tryd.prog 29 #[(.pointer v_8), (.int .i64 v_59)] (fun ch => R (.panicked ch)) fun r_64 m => ∃ (v_65 : Int) (v_66 : Int) (v_67 : Bool), r_64 = (.tuple #[(.int .i64 v_65), (.int .i64 v_66), (.bool v_67)]) ∧ (hIf (v_61 != v_65)
    (R (.returned (.bool false)))
    (hIf (v_62 != v_66)
    (R (.returned (.bool false)))
    (hIf (!(v_63 == v_67))
    (R (.returned (.bool false)))
    (hQuo .i64 v_59 64 fun v_68 =>
  hCall Tryd.prog 30 #[(.pointer v_5), (.int .i64 v_68)] (fun ch => R (.panicked ch)) fun r_69 m => ∃ (v_70 : Bool), r_69 = (.bool v_70) ∧ (hQuo .i64 v_59 64 fun v_71 =>
  hCall Tryd.prog 31 #[(.pointer v_8), (.int .i64 v_71)] (fun ch => R (.panicked ch)) fun r_72 m => ∃ (v_73 : Bool), r_72 = (.bool v_73) ∧ (hIf (!(v_70 == v_73))
    (R (.returned (.bool false)))
    (hInt .i64 (t118_57 + 1) fun v_74 =>
  again_56 (v_74, ()))) m) m)))) m) m)
    (hCall Tryd.prog 26 #[(.pointer v_5)] (fun ch => R (.panicked ch)) fun r_75 m => ∃ (v_76 : Int) (v_77 : Int) (v_78 : Int), r_75 = (.tuple #[(.int .i64 v_76), (.int .i64 v_77), (.int .i64 v_78)]) ∧ (hCall Tryd.prog 32 #[(.pointer v_8)] (fun ch => R (.panicked ch)) fun r_79 m => ∃ (v_80 : Int) (v_81 : Int) (v_82 : Int), r_79 = (.tuple #[(.int .i64 v_80), (.int .i64 v_81), (.int .i64 v_82)]) ∧ (hIf (v_76 != v_80)
    (R (.returned (.bool false)))
    (hIf (v_77 != v_81)
    (R (.returned (.bool false)))
    (hIf (v_78 != v_82)
    (R (.returned (.bool false)))
    (hInt .i64 (t60_15 + 1) fun v_83 =>
  again_13 (made_51, v_83, ()))))) m) m)
def F6_j18 (v_5 : Option Addr) (v_8 : Option Addr) (t60_15 : Int) (b_21 : Nat) (v_41 : Int) (again_13 : (Sl × Int × Unit) → HP → Prop) (made_51 : Sl) (R : Ending → HP → Prop) : HP → Prop :=
  hInt .i64 (v_41 + 1) fun v_52 =>
  hLoad (.int .i64) ⟨b_21, 1, none⟩ fun (v_53 : Int) =>
  hNew #[(.int .i64 v_41), (.int .i64 v_52), (.int .i64 v_53)] 3 fun b_54 =>
  hLoop (α := Int × Unit) (0, ()) fun x_55 again_56 => hAll fun _ => F6_l19 v_5 v_8 t60_15 made_51 b_54 again_13 x_55.1 again_56 R
def F6_j13 (v_5 : Option Addr) (v_8 : Option Addr) (made_14 : Sl) (t60_15 : Int) (b_21 : Nat) (again_13 : (Sl × Int × Unit) → HP → Prop) (R : Ending → HP → Prop) : HP → Prop :=
  hLoad (.int .i64) ⟨b_21, 0, none⟩ fun (v_36 : Int) =>
  hLoad (.int .i64) ⟨b_21, 1, none⟩ fun (v_37 : Int) =>
  hLoad (.int .i64) ⟨b_21, 2, none⟩ fun (v_38 : Int) =>
  hLoad (.int .i64) ⟨b_21, 3, none⟩ fun (v_39 : Int) =>
  hCall Tryd.prog 28 #[(.pointer v_5), (.pointer v_8), (.agg #[(.int .i64 v_36), (.int .i64 v_37), (.int .i64 v_38), (.int .i64 v_39)])] (fun ch => R (.panicked ch)) fun r_40 m => ∃ (v_41 : Int) (v_42 : Bool), r_40 = (.tuple #[(.int .i64 v_41), (.bool v_42)]) ∧ (hIf (!v_42)
    (R (.returned (.bool false)))
    (hLet (α := Sl × Unit) (fun k_43 => hLoad (.int .i64) ⟨b_21, 0, none⟩ fun (v_44 : Int) =>
  hIf (v_44 == 0)
    (hNew #[(.int .i64 v_41)] 3 fun b_45 =>
  hAppend 1 8 #[(.int .i64 0)] 3 ⟨made_14.a, made_14.n, made_14.cap⟩ ⟨(some ⟨b_45, 0, none⟩), 1, 1⟩ fun v_46 =>
  k_43 (v_46, ()))
    (hLoad (.int .i64) ⟨b_21, 0, none⟩ fun (v_47 : Int) =>
  hIf (v_47 == 3)
    (hNew #[(.int .i64 v_41)] 3 fun b_48 =>
  hAppend 1 8 #[(.int .i64 0)] 3 ⟨made_14.a, made_14.n, made_14.cap⟩ ⟨(some ⟨b_48, 0, none⟩), 1, 1⟩ fun v_49 =>
  k_43 (v_49, ()))
    (k_43 (made_14, ()))))
    (fun x_50 => hAll fun _ => F6_j18 v_5 v_8 t60_15 b_21 v_41 again_13 x_50.1 R))) m
def F6_l9 (script_3 : Sl) (v_5 : Option Addr) (v_8 : Option Addr) (made_14 : Sl) (t60_15 : Int) (again_13 : (Sl × Int × Unit) → HP → Prop) (R : Ending → HP → Prop) : HP → Prop :=
  hIf (decide (t60_15 < ((script_3.n : Nat) : Int)))
    (hIdx script_3.a script_3.n t60_15 4 fun a_16 =>
  hLoad (.int .i64) a_16 fun (v_17 : Int) =>
  hLoad (.int .i64) (a_16.add 1) fun (v_18 : Int) =>
  hLoad (.int .i64) (a_16.add 2) fun (v_19 : Int) =>
  hLoad (.int .i64) (a_16.add 3) fun (v_20 : Int) =>
  hNew #[(.int .i64 0), (.int .i64 0), (.int .i64 0), (.int .i64 0)] 73 fun b_21 =>
  hStore (.int .i64 v_17) ⟨b_21, 0, none⟩
    (hStore (.int .i64 v_18) ⟨b_21, 1, none⟩
    (hStore (.int .i64 v_19) ⟨b_21, 2, none⟩
    (hStore (.int .i64 v_20) ⟨b_21, 3, none⟩
    (hLet (α := Unit) (fun k_22 => hLoad (.int .i64) ⟨b_21, 0, none⟩ fun (v_23 : Int) =>
  hIf (v_23 == 1)
    (hLoad (.int .i64) ⟨b_21, 3, none⟩ fun (v_24 : Int) =>
  hIf (decide (v_24 ≥ 0))
    (hLoad (.int .i64) ⟨b_21, 3, none⟩ fun (v_25 : Int) =>
  hIf (decide (v_25 < ((made_14.n : Nat) : Int)))
    (hLoad (.int .i64) ⟨b_21, 3, none⟩ fun (v_26 : Int) =>
  hIdx made_14.a made_14.n v_26 1 fun a_27 =>
  hLoad (.int .i64) a_27 fun (v_28 : Int) =>
  hStore (.int .i64 v_28) ⟨b_21, 1, none⟩
    (k_22 (())))
    (k_22 (())))
    (k_22 (())))
    (hLoad (.int .i64) ⟨b_21, 0, none⟩ fun (v_29 : Int) =>
  hIf (v_29 == 4)
    (hLoad (.int .i64) ⟨b_21, 3, none⟩ fun (v_30 : Int) =>
  hIf (decide (v_30 ≥ 0))
    (hLoad (.int .i64) ⟨b_21, 3, none⟩ fun (v_31 : Int) =>
  hIf (decide (v_31 < ((made_14.n : Nat) : Int)))
    (hLoad (.int .i64) ⟨b_21, 3, none⟩ fun (v_32 : Int) =>
  hIdx made_14.a made_14.n v_32 1 fun a_33 =>
  hLoad (.int .i64) a_33 fun (v_34 : Int) =>
  hStore (.int .i64 v_34) ⟨b_21, 1, none⟩
    (k_22 (())))
    (k_22 (())))
    (k_22 (())))
    (k_22 (()))))
    (fun x_35 => hAll fun _ => F6_j13 v_5 v_8 made_14 t60_15 b_21 again_13 R))))))
    (R (.returned (.bool true)))
def F6 (pages_1 : Int) (procs_2 : Int) (script_3 : Sl) (R : Ending → HP → Prop) : HP → Prop :=
  hCall Tryd.prog 21 #[(.int .i64 pages_1), (.int .i64 procs_2)] (fun ch => R (.panicked ch)) fun r_4 m => ∃ (v_5 : Option Addr) (v_6 : Int), r_4 = (.tuple #[(.pointer v_5), (.int .i64 v_6)]) ∧ (hCall Tryd.prog 27 #[(.int .i64 pages_1), (.int .i64 procs_2)] (fun ch => R (.panicked ch)) fun r_7 m => ∃ (v_8 : Option Addr) (v_9 : Int), r_7 = (.tuple #[(.pointer v_8), (.int .i64 v_9)]) ∧ (hCall Tryd.prog 22 #[] (fun ch => R (.panicked ch)) fun r_10 m => ∃ (v_11 : Bool), r_10 = (.bool v_11) ∧ (hIf (!v_11)
    (R (.returned (.bool false)))
    (hIf (v_6 != v_9)
    (R (.returned (.bool false)))
    (hIf (!((Option.isNone v_5) == (Option.isNone v_8)))
    (R (.returned (.bool false)))
    (hIf (Option.isNone v_5)
    (R (.returned (.bool true)))
    (hLoop (α := Sl × Int × Unit) ((⟨none, 0, 0⟩ : Sl), 0, ()) fun x_12 again_13 => hAll fun _ => F6_l9 script_3 v_5 v_8 x_12.1 x_12.2.1 again_13 R))))) m) m) m
def ann6 : Ann := { loop := [(9, [(11, Ty.slice), (60, (Ty.int .i64))]), (19, [(118, (Ty.int .i64))])], cut := [(13, []), (18, [(11, Ty.slice)])] }
theorem den6 (pages_1 : Int) (procs_2 : Int) (script_3 : Sl) (R : Ending → HP → Prop) : denF Tryd.prog ann6 Tryd.f6.ntmps Tryd.f6.results.toList code6 [(.int .i64 pages_1), (.int .i64 procs_2), (.slice script_3.a script_3.n script_3.cap)] R = F6 pages_1 procs_2 script_3 R := by kernel_rfl
theorem call6 : Callable Tryd.prog 6 := fun a w => Tryd.call6 a w
theorem F6_fn {pages_1 : Int} {procs_2 : Int} {script_3 : Sl} {R : Ending → HP → Prop} {m : HP} (h : F6 pages_1 procs_2 script_3 R m) : Does Tryd.prog 6 #[(.int .i64 pages_1), (.int .i64 procs_2), (.slice script_3.a script_3.n script_3.cap)] m R :=
  fn_of_den mixed (ann := ann6) Tryd.func6 call6 (c := code6) (by kernel_rfl) (by kernel_rfl) (args := [(.int .i64 pages_1), (.int .i64 procs_2), (.slice script_3.a script_3.n script_3.cap)]) (Nat.le_of_ble_eq_true (by kernel_rfl)) (.inl (by kernel_rfl)) (by rw [den6]; exact h)
/-! treadle/treadlelaw07.CellBack -/
noncomputable def code7 : Code := (Tryd.f7.body).getD .skip
def F7_j11 (t40_10 : Int) (again_8 : (Sl × Int × Unit) → HP → Prop) (at_24 : Sl) (R : Ending → HP → Prop) : HP → Prop :=
  hInt .i64 (t40_10 + 1) fun v_25 =>
  again_8 (at_24, v_25, ())
def F7_l16 (v_3 : Option Addr) (at_9 : Sl) (t81_32 : Int) (again_31 : (Int × Unit) → HP → Prop) (R : Ending → HP → Prop) : HP → Prop :=
  hIf (decide (t81_32 < ((at_9.n : Nat) : Int)))
    (hIdx at_9.a at_9.n t81_32 1 fun a_33 =>
  hLoad (.int .i64) a_33 fun (v_34 : Int) =>
  hCall Tryd.prog 25 #[(.pointer v_3), (.int .i64 v_34)] (fun ch => R (.panicked ch)) fun r_35 m => ∃ (v_36 : Int), r_35 = (.int .i64 v_36) ∧ (hIf (v_36 != 0)
    (R (.returned (.bool false)))
    (hInt .i64 (t81_32 + 1) fun v_37 =>
  again_31 (v_37, ()))) m)
    (hCall Tryd.prog 33 #[(.pointer v_3), (.int .i64 0)] (fun ch => R (.panicked ch)) fun r_38 m => ∃ (v_39 : Int), r_38 = (.int .i64 v_39) ∧ (hIf (v_39 != 0)
    (R (.returned (.bool false)))
    (hCall Tryd.prog 33 #[(.pointer v_3), (.int .i64 1)] (fun ch => R (.panicked ch)) fun r_40 m => ∃ (v_41 : Int), r_40 = (.int .i64 v_41) ∧ (hIf (v_41 != 0)
    (R (.returned (.bool false)))
    (hCall Tryd.prog 33 #[(.pointer v_3), (.int .i64 2)] (fun ch => R (.panicked ch)) fun r_42 m => ∃ (v_43 : Int), r_42 = (.int .i64 v_43) ∧ (hIf (v_43 != 1)
    (R (.returned (.bool false)))
    (hCall Tryd.prog 26 #[(.pointer v_3)] (fun ch => R (.panicked ch)) fun r_44 m => ∃ (v_45 : Int) (v_46 : Int) (v_47 : Int), r_44 = (.tuple #[(.int .i64 v_45), (.int .i64 v_46), (.int .i64 v_47)]) ∧ (hCall Tryd.prog 23 #[(.pointer none), (.int .i64 0), (.int .i64 1)] (fun ch => R (.panicked ch)) fun r_48 m => ∃ (v_49 : Int) (v_50 : Int), r_48 = (.tuple #[(.int .i64 v_49), (.int .i64 v_50)]) ∧ (hCall Tryd.prog 24 #[(.pointer none), (.int .i64 0)] (fun ch => R (.panicked ch)) fun r_51 m => ∃ (v_52 : Int) (v_53 : Int) (v_54 : Bool), r_51 = (.tuple #[(.int .i64 v_52), (.int .i64 v_53), (.bool v_54)]) ∧ (hCall Tryd.prog 34 #[(.pointer none), (.int .i64 1)] (fun ch => R (.panicked ch)) fun r_55 m => ∃ (v_56 : Int) (v_57 : Int), r_55 = (.tuple #[(.int .i64 v_56), (.int .i64 v_57)]) ∧ (hIf (v_45 == 0)
    (hIf (v_46 == 0)
    (hIf (v_47 == 200)
    (hIf (v_50 == 5)
    (hIf (!v_54)
    (hIf (v_57 == 5)
    (hCall Tryd.prog 25 #[(.pointer none), (.int .i64 0)] (fun ch => R (.panicked ch)) fun r_58 m => ∃ (v_59 : Int), r_58 = (.int .i64 v_59) ∧ (hIf (v_59 == 5)
    (hCall Tryd.prog 33 #[(.pointer none), (.int .i64 0)] (fun ch => R (.panicked ch)) fun r_60 m => ∃ (v_61 : Int), r_60 = (.int .i64 v_61) ∧ (hIf (v_61 == 5)
    (hCall Tryd.prog 35 #[(.pointer none), (.int .i64 0)] (fun ch => R (.panicked ch)) fun r_62 m => ∃ (v_63 : Int), r_62 = (.int .i64 v_63) ∧ (hIf (v_63 == 5)
    (hCall Tryd.prog 30 #[(.pointer none), (.int .i64 0)] (fun ch => R (.panicked ch)) fun r_64 m => ∃ (v_65 : Bool), r_64 = (.bool v_65) ∧ (R (.returned (.bool (!v_65)))) m)
    (R (.returned (.bool false)))) m)
    (R (.returned (.bool false)))) m)
    (R (.returned (.bool false)))) m)
    (R (.returned (.bool false))))
    (R (.returned (.bool false))))
    (R (.returned (.bool false))))
    (R (.returned (.bool false))))
    (R (.returned (.bool false))))
    (R (.returned (.bool false)))) m) m) m) m)) m)) m)) m)
def F7_l6 (sizes_1 : Sl) (v_3 : Option Addr) (at_9 : Sl) (t40_10 : Int) (again_8 : (Sl × Int × Unit) → HP → Prop) (R : Ending → HP → Prop) : HP → Prop :=
  hIf (decide (t40_10 < ((sizes_1.n : Nat) : Int)))
    (hLet (α := Sl × Unit) (fun k_11 => hIdx sizes_1.a sizes_1.n t40_10 1 fun a_12 =>
  hLoad (.int .u16) a_12 fun (v_13 : Int) =>
  hRem t40_10 2 fun v_14 =>
  hRem v_13 500 fun v_15 =>
  hInt .i64 v_15 fun v_16 =>
  hInt .i64 (v_16 + 1) fun v_17 =>
  hCall Tryd.prog 23 #[(.pointer v_3), (.int .i64 v_14), (.int .i64 v_17)] (fun ch => R (.panicked ch)) fun r_18 m => ∃ (v_19 : Int) (v_20 : Int), r_18 = (.tuple #[(.int .i64 v_19), (.int .i64 v_20)]) ∧ (hIf (v_20 == 0)
    (hNew #[(.int .i64 v_19)] 3 fun b_21 =>
  hAppend 1 8 #[(.int .i64 0)] 3 ⟨at_9.a, at_9.n, at_9.cap⟩ ⟨(some ⟨b_21, 0, none⟩), 1, 1⟩ fun v_22 =>
  k_11 (v_22, ()))
    (k_11 (at_9, ()))) m)
    (fun x_23 => hAll fun _ => F7_j11 t40_10 again_8 x_23.1 R))
    (hCall Tryd.prog 26 #[(.pointer v_3)] (fun ch => R (.panicked ch)) fun r_26 m => ∃ (v_27 : Int) (v_28 : Int) (v_29 : Int), r_26 = (.tuple #[(.int .i64 v_27), (.int .i64 v_28), (.int .i64 v_29)]) ∧ (hIf (v_27 != ((at_9.n : Nat) : Int))
    (R (.returned (.bool false)))
    (hIf (decide (v_28 < ((at_9.n : Nat) : Int)))
    (R (.returned (.bool false)))
    (hLoop (α := Int × Unit) (0, ()) fun x_30 again_31 => hAll fun _ => F7_l16 v_3 at_9 x_30.1 again_31 R))) m)
def F7 (sizes_1 : Sl) (R : Ending → HP → Prop) : HP → Prop :=
  hCall Tryd.prog 21 #[(.int .i64 200), (.int .i64 2)] (fun ch => R (.panicked ch)) fun r_2 m => ∃ (v_3 : Option Addr) (v_4 : Int), r_2 = (.tuple #[(.pointer v_3), (.int .i64 v_4)]) ∧ (hCall Tryd.prog 22 #[] (fun ch => R (.panicked ch)) fun r_5 m => ∃ (v_6 : Bool), r_5 = (.bool v_6) ∧ (hIf (!v_6)
    (R (.returned (.bool false)))
    (hIf (Option.isNone v_3)
    (R (.returned (.bool false)))
    (hIf (v_4 != 0)
    (R (.returned (.bool false)))
    (hLoop (α := Sl × Int × Unit) ((⟨none, 0, 0⟩ : Sl), 0, ()) fun x_7 again_8 => hAll fun _ => F7_l6 sizes_1 v_3 x_7.1 x_7.2.1 again_8 R)))) m) m
def ann7 : Ann := { loop := [(6, [(5, Ty.slice), (40, (Ty.int .i64))]), (16, [(81, (Ty.int .i64))])], cut := [(11, [(5, Ty.slice)])] }
theorem den7 (sizes_1 : Sl) (R : Ending → HP → Prop) : denF Tryd.prog ann7 Tryd.f7.ntmps Tryd.f7.results.toList code7 [(.slice sizes_1.a sizes_1.n sizes_1.cap)] R = F7 sizes_1 R := by kernel_rfl
theorem call7 : Callable Tryd.prog 7 := fun a w => Tryd.call7 a w
theorem F7_fn {sizes_1 : Sl} {R : Ending → HP → Prop} {m : HP} (h : F7 sizes_1 R m) : Does Tryd.prog 7 #[(.slice sizes_1.a sizes_1.n sizes_1.cap)] m R :=
  fn_of_den mixed (ann := ann7) Tryd.func7 call7 (c := code7) (by kernel_rfl) (by kernel_rfl) (args := [(.slice sizes_1.a sizes_1.n sizes_1.cap)]) (Nat.le_of_ble_eq_true (by kernel_rfl)) (.inl (by kernel_rfl)) (by rw [den7]; exact h)
/-! treadle/treadlelaw05.awake -/
noncomputable def code10 : Code := (Tryd.f10.body).getD .skip
def F10 (R : Ending → HP → Prop) : HP → Prop :=
  hCall Tryd.prog 8 #[(.int .i64 8)] (fun ch => R (.panicked ch)) fun r_1 m => ∃ (v_2 : Option Addr) (v_3 : Int), r_1 = (.tuple #[(.pointer v_2), (.int .i64 v_3)]) ∧ (hIf (Option.isNone v_2)
    (R (.returned (.bool false)))
    (hIf (v_3 != 0)
    (R (.returned (.bool false)))
    (hCall Tryd.prog 11 #[(.pointer v_2), (.int .i64 3), (.int .i64 7)] (fun ch => R (.panicked ch)) fun r_4 m => ∃ (r_5 : Int) (r_6 : Int) (r_7 : Int) (v_8 : Int), r_4 = (.tuple #[(.agg #[(.int .i64 r_5), (.int .i64 r_6), (.int .i64 r_7)]), (.int .i64 v_8)]) ∧ (hNew #[(.int .i64 0), (.int .i64 0), (.int .i64 0)] 34 fun b_9 =>
  hStore (.int .i64 r_5) ⟨b_9, 0, none⟩
    (hStore (.int .i64 r_6) ⟨b_9, 1, none⟩
    (hStore (.int .i64 r_7) ⟨b_9, 2, none⟩
    (hCall Tryd.prog 15 #[(.pointer v_2), (.int .i64 2)] (fun ch => R (.panicked ch)) fun r_10 m => ∃ (r_11 : Int) (r_12 : Int) (r_13 : Int) (v_14 : Bool), r_10 = (.tuple #[(.agg #[(.int .i64 r_11), (.int .i64 r_12), (.int .i64 r_13)]), (.bool v_14)]) ∧ (hNew #[(.int .i64 0), (.int .i64 0), (.int .i64 0)] 34 fun b_15 =>
  hStore (.int .i64 r_11) ⟨b_15, 0, none⟩
    (hStore (.int .i64 r_12) ⟨b_15, 1, none⟩
    (hStore (.int .i64 r_13) ⟨b_15, 2, none⟩
    (hIf (v_8 == 0)
    (hLoad (.int .i64) ⟨b_9, 0, none⟩ fun (v_16 : Int) =>
  hLoad (.int .i64) ⟨b_9, 1, none⟩ fun (v_17 : Int) =>
  hLoad (.int .i64) ⟨b_9, 2, none⟩ fun (v_18 : Int) =>
  hEq Tryd.prog .eql 34 (.tmp 30) (.tmp 31) (.agg #[(.int .i64 v_16), (.int .i64 v_17), (.int .i64 v_18)]) (.agg #[(.int .i64 0), (.int .i64 3), (.int .i64 7)]) fun e_19 =>
  hIf e_19
    (hIf v_14
    (hLoad (.int .i64) ⟨b_15, 0, none⟩ fun (v_20 : Int) =>
  hLoad (.int .i64) ⟨b_15, 1, none⟩ fun (v_21 : Int) =>
  hLoad (.int .i64) ⟨b_15, 2, none⟩ fun (v_22 : Int) =>
  hLoad (.int .i64) ⟨b_9, 0, none⟩ fun (v_23 : Int) =>
  hLoad (.int .i64) ⟨b_9, 1, none⟩ fun (v_24 : Int) =>
  hLoad (.int .i64) ⟨b_9, 2, none⟩ fun (v_25 : Int) =>
  hEq Tryd.prog .eql 34 (.tmp 38) (.tmp 39) (.agg #[(.int .i64 v_20), (.int .i64 v_21), (.int .i64 v_22)]) (.agg #[(.int .i64 v_23), (.int .i64 v_24), (.int .i64 v_25)]) fun e_26 =>
  hIf e_26
    (hCall Tryd.prog 13 #[(.pointer v_2), (.int .i64 1)] (fun ch => R (.panicked ch)) fun r_27 m => ∃ (v_28 : Int), r_27 = (.int .i64 v_28) ∧ (hIf (v_28 == 4)
    (hCall Tryd.prog 13 #[(.pointer v_2), (.int .i64 0)] (fun ch => R (.panicked ch)) fun r_29 m => ∃ (v_30 : Int), r_29 = (.int .i64 v_30) ∧ (R (.returned (.bool (v_30 == 0)))) m)
    (R (.returned (.bool false)))) m)
    (R (.returned (.bool false))))
    (R (.returned (.bool false))))
    (R (.returned (.bool false))))
    (R (.returned (.bool false))))))) m)))) m))) m
def ann10 : Ann := { loop := [], cut := [] }
theorem den10 (R : Ending → HP → Prop) : denF Tryd.prog ann10 Tryd.f10.ntmps Tryd.f10.results.toList code10 [] R = F10  R := by kernel_rfl
theorem call10 : Callable Tryd.prog 10 := fun a w => Tryd.call10 a w
theorem F10_fn {R : Ending → HP → Prop} {m : HP} (h : F10  R m) : Does Tryd.prog 10 #[] m R :=
  fn_of_den mixed (ann := ann10) Tryd.func10 call10 (c := code10) (by kernel_rfl) (by kernel_rfl) (args := []) (Nat.le_of_ble_eq_true (by kernel_rfl)) (.inl (by kernel_rfl)) (by rw [den10]; exact h)
/-! treadle/treadlelaw05.all -/
noncomputable def code19 : Code := (Tryd.f19.body).getD .skip
def F19 (t_1 : Option Addr) (most_2 : Int) (R : Ending → HP → Prop) : HP → Prop :=
  hNew #[(.int .i64 most_2)] 3 fun b_3 =>
  hNew #[(.slice none 0 0)] 46 fun b_4 =>
  hCall Tryd.prog 45 #[(.pointer t_1)] (fun ch => R (.panicked ch)) fun r_5 m => ∃ (v_6 : Value), r_5 = v_6 ∧ (hCmp Tryd.prog .eql 94 (.tmp 11) (.const .nilFunc) v_6 .nilFunc fun e_7 =>
  hIf e_7
    (hCmp Tryd.prog .neq 94 (.tmp 17) (.const .nilFunc) v_6 .nilFunc fun e_8 =>
  R (.returned (.tuple #[(.slice none 0 0), (.bool e_8)])))
    (hLoad (.int .i64) ⟨b_3, 0, none⟩ fun (v_9 : Int) =>
  hIf (v_9 == 0)
    (hCmp Tryd.prog .neq 94 (.tmp 17) (.const .nilFunc) v_6 .nilFunc fun e_10 =>
  R (.returned (.tuple #[(.slice none 0 0), (.bool e_10)])))
    (hRange Tryd.prog 35 v_6 [(3, (.pointer (some ⟨b_3, 0, none⟩))), (6, (.pointer (some ⟨b_4, 0, none⟩)))] (rangeAt 0 code19) (fun r_11 =>
  hLoad .slice ⟨b_4, 0, none⟩ fun (v_14 : Sl) =>
  fun m => ∃ m', m = pt r_11 (.deferred (some [])) + m' ∧ (R (.returned (.tuple #[(.slice v_14.a v_14.n v_14.cap), (.bool true)]))) m')
   (fun r_11 =>
  fun m => ∃ m', m = pt r_11 (.deferred (some [])) + m' ∧ (R (.returned (.tuple #[(.slice none 0 0), (.bool false)]))) m')
   (fun i_12 r_11 =>
  hPick (i_12 == 0)
    (hLoad .slice ⟨b_4, 0, none⟩ fun (v_13 : Sl) =>
  fun m => ∃ m', m = pt r_11 (.deferred (some [])) + m' ∧ (R (.returned (.tuple #[(.slice v_13.a v_13.n v_13.cap), (.bool true)]))) m')
    (no))))) m
def ann19 : Ann := { loop := [], cut := [], range := [(7, [3, 6])] }
theorem den19 (t_1 : Option Addr) (most_2 : Int) (R : Ending → HP → Prop) : denF Tryd.prog ann19 Tryd.f19.ntmps Tryd.f19.results.toList code19 [(.pointer t_1), (.int .i64 most_2)] R = F19 t_1 most_2 R := by kernel_rfl
theorem call19 : Callable Tryd.prog 19 := fun a w => Tryd.call19 a w
theorem F19_fn {t_1 : Option Addr} {most_2 : Int} {R : Ending → HP → Prop} {m : HP} (hR : ∀ ch m, ¬ R (.panicked ch) m) (h : F19 t_1 most_2 R m) : Does Tryd.prog 19 #[(.pointer t_1), (.int .i64 most_2)] m R :=
  fn_of_den mixed (ann := ann19) Tryd.func19 call19 (c := code19) (by kernel_rfl) (by kernel_rfl) (args := [(.pointer t_1), (.int .i64 most_2)]) (Nat.le_of_ble_eq_true (by kernel_rfl)) (.inr hR) (by rw [den19]; exact h)
def F19_r0 (a_15 : Addr) (a_16 : Addr) (y_17 : Int) (y_18 : Int) (y_19 : Int) (l : Nat) (rc : Loop) (R : Ending → HP → Prop) : HP → Prop :=
  hAll fun _ =>
  hNew #[(.int .i64 0), (.int .i64 0), (.int .i64 0)] 34 fun b_20 =>
  hStore (.int .i64 y_17) ⟨b_20, 0, none⟩
    (hStore (.int .i64 y_18) ⟨b_20, 1, none⟩
    (hStore (.int .i64 y_19) ⟨b_20, 2, none⟩
    (hRec l rc (rcBusy rc) (
  hLoad .slice a_16 fun (v_21 : Sl) =>
  hLoad (.int .i64) ⟨b_20, 0, none⟩ fun (v_22 : Int) =>
  hLoad (.int .i64) ⟨b_20, 1, none⟩ fun (v_23 : Int) =>
  hLoad (.int .i64) ⟨b_20, 2, none⟩ fun (v_24 : Int) =>
  hNew #[(.int .i64 v_22), (.int .i64 v_23), (.int .i64 v_24)] 34 fun b_25 =>
  hAppend 3 24 #[(.int .i64 0), (.int .i64 0), (.int .i64 0)] 34 ⟨v_21.a, v_21.n, v_21.cap⟩ ⟨(some ⟨b_25, 0, none⟩), 1, 1⟩ fun v_26 =>
  hStore (.slice v_26.a v_26.n v_26.cap) a_16
    (hLoad .slice a_16 fun (v_27 : Sl) =>
  hLoad (.int .i64) a_15 fun (v_28 : Int) =>
  hIf (((v_27.n : Nat) : Int) == v_28)
    (hRec l (rcBusy rc) (rcDone rc (.exit 0)) (R (.returned (.bool false))))
    (hLoad .slice a_16 fun (v_29 : Sl) =>
  hIf (decide (((v_29.n : Nat) : Int) > 5000))
    (hRec l (rcBusy rc) (rcDone rc (.exit 0)) (R (.returned (.bool false))))
    (hRec l (rcBusy rc) (rcNext rc) (R (.returned (.bool true))))))))))
theorem round19_0 (a_15 : Addr) (a_16 : Addr) (y_17 : Int) (y_18 : Int) (y_19 : Int) (l : Nat) (rc : Loop) (R : Ending → HP → Prop) : denRound Tryd.prog ann19 35 [(3, (.pointer (some a_15))), (6, (.pointer (some a_16)))] (rangeAt 0 code19) l rc [(.agg #[(.int .i64 y_17), (.int .i64 y_18), (.int .i64 y_19)])] R = F19_r0 a_15 a_16 y_17 y_18 y_19 l rc R := by kernel_rfl
theorem F19_y0 {a_15 : Addr} {a_16 : Addr} {y_17 : Int} {y_18 : Int} {y_19 : Int} {l : Nat} {rc : Loop} {R : Ending → HP → Prop} {m m0 : HP} {rc0 : Loop} (hl : IsLoop 35 [(3, (.pointer (some a_15))), (6, (.pointer (some a_16)))] (rangeAt 0 code19) rc0) (hrc : rc = { rc0 with state := .ready, pending := none }) (hm : m = pt l (.loop rc) + m0) (h : F19_r0 a_15 a_16 y_17 y_18 y_19 l rc R m) : HYield Tryd.prog l #[(.agg #[(.int .i64 y_17), (.int .i64 y_18), (.int .i64 y_19)])] m R :=
  yield_of_den mixed (ann := ann19) (args := [(.agg #[(.int .i64 y_17), (.int .i64 y_18), (.int .i64 y_19)])]) hl hrc (by kernel_rfl) hm (by rw [round19_0]; exact h)
/-! treadle/treadlelaw07.awake -/
noncomputable def code22 : Code := (Tryd.f22.body).getD .skip
def F22 (R : Ending → HP → Prop) : HP → Prop :=
  hCall Tryd.prog 21 #[(.int .i64 8), (.int .i64 2)] (fun ch => R (.panicked ch)) fun r_1 m => ∃ (v_2 : Option Addr) (v_3 : Int), r_1 = (.tuple #[(.pointer v_2), (.int .i64 v_3)]) ∧ (hIf (Option.isNone v_2)
    (R (.returned (.bool false)))
    (hIf (v_3 != 0)
    (R (.returned (.bool false)))
    (hCall Tryd.prog 23 #[(.pointer v_2), (.int .i64 0), (.int .i64 3)] (fun ch => R (.panicked ch)) fun r_4 m => ∃ (v_5 : Int) (v_6 : Int), r_4 = (.tuple #[(.int .i64 v_5), (.int .i64 v_6)]) ∧ (hCall Tryd.prog 23 #[(.pointer v_2), (.int .i64 0), (.int .i64 3)] (fun ch => R (.panicked ch)) fun r_7 m => ∃ (v_8 : Int) (v_9 : Int), r_7 = (.tuple #[(.int .i64 v_8), (.int .i64 v_9)]) ∧ (hCall Tryd.prog 23 #[(.pointer v_2), (.int .i64 1), (.int .i64 3)] (fun ch => R (.panicked ch)) fun r_10 m => ∃ (v_11 : Int) (v_12 : Int), r_10 = (.tuple #[(.int .i64 v_11), (.int .i64 v_12)]) ∧ (hCall Tryd.prog 24 #[(.pointer v_2), (.int .i64 5)] (fun ch => R (.panicked ch)) fun r_13 m => ∃ (v_14 : Int) (v_15 : Int) (v_16 : Bool), r_13 = (.tuple #[(.int .i64 v_14), (.int .i64 v_15), (.bool v_16)]) ∧ (hIf (v_6 == 0)
    (hIf (v_9 == 0)
    (hIf (v_12 == 0)
    (hIf (v_5 == 0)
    (hIf (v_8 == 3)
    (hIf (v_11 == 64)
    (hIf v_16
    (hIf (v_14 == 3)
    (hIf (v_15 == 3)
    (hCall Tryd.prog 30 #[(.pointer v_2), (.int .i64 1)] (fun ch => R (.panicked ch)) fun r_17 m => ∃ (v_18 : Bool), r_17 = (.bool v_18) ∧ (hIf v_18
    (hCall Tryd.prog 30 #[(.pointer v_2), (.int .i64 2)] (fun ch => R (.panicked ch)) fun r_19 m => ∃ (v_20 : Bool), r_19 = (.bool v_20) ∧ (R (.returned (.bool (!v_20)))) m)
    (R (.returned (.bool false)))) m)
    (R (.returned (.bool false))))
    (R (.returned (.bool false))))
    (R (.returned (.bool false))))
    (R (.returned (.bool false))))
    (R (.returned (.bool false))))
    (R (.returned (.bool false))))
    (R (.returned (.bool false))))
    (R (.returned (.bool false))))
    (R (.returned (.bool false)))) m) m) m) m))) m
def ann22 : Ann := { loop := [], cut := [] }
theorem den22 (R : Ending → HP → Prop) : denF Tryd.prog ann22 Tryd.f22.ntmps Tryd.f22.results.toList code22 [] R = F22  R := by kernel_rfl
theorem call22 : Callable Tryd.prog 22 := fun a w => Tryd.call22 a w
theorem F22_fn {R : Ending → HP → Prop} {m : HP} (h : F22  R m) : Does Tryd.prog 22 #[] m R :=
  fn_of_den mixed (ann := ann22) Tryd.func22 call22 (c := code22) (by kernel_rfl) (by kernel_rfl) (args := []) (Nat.le_of_ble_eq_true (by kernel_rfl)) (.inl (by kernel_rfl)) (by rw [den22]; exact h)
/-! treadle/treadlelaw07.one -/
noncomputable def code28 : Code := (Tryd.f28.body).getD .skip
def F28 (c_1 : Option Addr) (r_2 : Option Addr) (o_3 : Int) (o_4 : Int) (o_5 : Int) (o_6 : Int) (R : Ending → HP → Prop) : HP → Prop :=
  hNew #[(.int .i64 o_3), (.int .i64 o_4), (.int .i64 o_5), (.int .i64 o_6)] 73 fun b_7 =>
  hLoad (.int .i64) ⟨b_7, 0, none⟩ fun (v_8 : Int) =>
  hIf (v_8 == 0)
    (hLoad (.int .i64) ⟨b_7, 1, none⟩ fun (v_9 : Int) =>
  hLoad (.int .i64) ⟨b_7, 2, none⟩ fun (v_10 : Int) =>
  hCall Tryd.prog 23 #[(.pointer c_1), (.int .i64 v_9), (.int .i64 v_10)] (fun ch => R (.panicked ch)) fun r_11 m => ∃ (v_12 : Int) (v_13 : Int), r_11 = (.tuple #[(.int .i64 v_12), (.int .i64 v_13)]) ∧ (hLoad (.int .i64) ⟨b_7, 1, none⟩ fun (v_14 : Int) =>
  hLoad (.int .i64) ⟨b_7, 2, none⟩ fun (v_15 : Int) =>
  hCall Tryd.prog 55 #[(.pointer r_2), (.int .i64 v_14), (.int .i64 v_15)] (fun ch => R (.panicked ch)) fun r_16 m => ∃ (v_17 : Int) (v_18 : Int), r_16 = (.tuple #[(.int .i64 v_17), (.int .i64 v_18)]) ∧ (hIf (v_12 == v_17)
    (R (.returned (.tuple #[(.int .i64 v_12), (.bool (v_13 == v_18))])))
    (R (.returned (.tuple #[(.int .i64 v_12), (.bool false)])))) m) m)
    (hIf (v_8 == 1)
    (hLoad (.int .i64) ⟨b_7, 1, none⟩ fun (v_19 : Int) =>
  hLoad (.int .i64) ⟨b_7, 1, none⟩ fun (v_20 : Int) =>
  hCall Tryd.prog 25 #[(.pointer c_1), (.int .i64 v_19)] (fun ch => R (.panicked ch)) fun r_21 m => ∃ (v_22 : Int), r_21 = (.int .i64 v_22) ∧ (hLoad (.int .i64) ⟨b_7, 1, none⟩ fun (v_23 : Int) =>
  fun m => ((.int .i64 v_23) : Value) = (.int .i64 v_20) ∧ (hCall Tryd.prog 56 #[(.pointer r_2), (.int .i64 v_20)] (fun ch => R (.panicked ch)) fun r_24 m => ∃ (v_25 : Int), r_24 = (.int .i64 v_25) ∧ (R (.returned (.tuple #[(.int .i64 0), (.bool (v_22 == v_25))]))) m) m) m)
    (hIf (v_8 == 2)
    (hLoad (.int .i64) ⟨b_7, 1, none⟩ fun (v_26 : Int) =>
  hLoad (.int .i64) ⟨b_7, 1, none⟩ fun (v_27 : Int) =>
  hCall Tryd.prog 33 #[(.pointer c_1), (.int .i64 v_26)] (fun ch => R (.panicked ch)) fun r_28 m => ∃ (v_29 : Int), r_28 = (.int .i64 v_29) ∧ (hLoad (.int .i64) ⟨b_7, 1, none⟩ fun (v_30 : Int) =>
  fun m => ((.int .i64 v_30) : Value) = (.int .i64 v_27) ∧ (hCall Tryd.prog 57 #[(.pointer r_2), (.int .i64 v_27)] (fun ch => R (.panicked ch)) fun r_31 m => ∃ (v_32 : Int), r_31 = (.int .i64 v_32) ∧ (R (.returned (.tuple #[(.int .i64 0), (.bool (v_29 == v_32))]))) m) m) m)
    (hIf (v_8 == 3)
    (hLoad (.int .i64) ⟨b_7, 2, none⟩ fun (v_33 : Int) =>
  hCall Tryd.prog 34 #[(.pointer c_1), (.int .i64 v_33)] (fun ch => R (.panicked ch)) fun r_34 m => ∃ (v_35 : Int) (v_36 : Int), r_34 = (.tuple #[(.int .i64 v_35), (.int .i64 v_36)]) ∧ (hLoad (.int .i64) ⟨b_7, 2, none⟩ fun (v_37 : Int) =>
  hCall Tryd.prog 58 #[(.pointer r_2), (.int .i64 v_37)] (fun ch => R (.panicked ch)) fun r_38 m => ∃ (v_39 : Int) (v_40 : Int), r_38 = (.tuple #[(.int .i64 v_39), (.int .i64 v_40)]) ∧ (hIf (v_35 == v_39)
    (R (.returned (.tuple #[(.int .i64 v_35), (.bool (v_36 == v_40))])))
    (R (.returned (.tuple #[(.int .i64 v_35), (.bool false)])))) m) m)
    (hIf (v_8 == 4)
    (hLoad (.int .i64) ⟨b_7, 1, none⟩ fun (v_41 : Int) =>
  hLoad (.int .i64) ⟨b_7, 1, none⟩ fun (v_42 : Int) =>
  hCall Tryd.prog 35 #[(.pointer c_1), (.int .i64 v_41)] (fun ch => R (.panicked ch)) fun r_43 m => ∃ (v_44 : Int), r_43 = (.int .i64 v_44) ∧ (hLoad (.int .i64) ⟨b_7, 1, none⟩ fun (v_45 : Int) =>
  fun m => ((.int .i64 v_45) : Value) = (.int .i64 v_42) ∧ (hCall Tryd.prog 59 #[(.pointer r_2), (.int .i64 v_42)] (fun ch => R (.panicked ch)) fun r_46 m => ∃ (v_47 : Int), r_46 = (.int .i64 v_47) ∧ (R (.returned (.tuple #[(.int .i64 0), (.bool (v_44 == v_47))]))) m) m) m)
    (R (.returned (.tuple #[(.int .i64 0), (.bool true)])))))))
def ann28 : Ann := { loop := [], cut := [] }
theorem den28 (c_1 : Option Addr) (r_2 : Option Addr) (o_3 : Int) (o_4 : Int) (o_5 : Int) (o_6 : Int) (R : Ending → HP → Prop) : denF Tryd.prog ann28 Tryd.f28.ntmps Tryd.f28.results.toList code28 [(.pointer c_1), (.pointer r_2), (.agg #[(.int .i64 o_3), (.int .i64 o_4), (.int .i64 o_5), (.int .i64 o_6)])] R = F28 c_1 r_2 o_3 o_4 o_5 o_6 R := by kernel_rfl
theorem call28 : Callable Tryd.prog 28 := fun a w => Tryd.call28 a w
theorem F28_fn {c_1 : Option Addr} {r_2 : Option Addr} {o_3 : Int} {o_4 : Int} {o_5 : Int} {o_6 : Int} {R : Ending → HP → Prop} {m : HP} (h : F28 c_1 r_2 o_3 o_4 o_5 o_6 R m) : Does Tryd.prog 28 #[(.pointer c_1), (.pointer r_2), (.agg #[(.int .i64 o_3), (.int .i64 o_4), (.int .i64 o_5), (.int .i64 o_6)])] m R :=
  fn_of_den mixed (ann := ann28) Tryd.func28 call28 (c := code28) (by kernel_rfl) (by kernel_rfl) (args := [(.pointer c_1), (.pointer r_2), (.agg #[(.int .i64 o_3), (.int .i64 o_4), (.int .i64 o_5), (.int .i64 o_6)])]) (Nat.le_of_ble_eq_true (by kernel_rfl)) (.inl (by kernel_rfl)) (by rw [den28]; exact h)
end Go.Proofs.YtolfcdjbchdkgaaDoor
/- The predicates of functions of the program, printed by a program of this session (wip/tools/prt.py) out of Lean's own print of the loaded functions. -/
namespace Go.Proofs.YtolfcdjbchdkgaaDoor
open Go Go.Hp
set_option maxRecDepth 100000
/-! treadle/treadleref05.New -/
noncomputable def code9 : Code := (Tryd.f9.body).getD .skip
def F9 (n_1 : Int) (R : Ending → HP → Prop) : HP → Prop :=
  hCall Tryd.prog 37 #[(.int .i64 n_1)] (fun ch => R (.panicked ch)) fun r_2 m => ∃ (v_3 : Option Addr) (v_4 : Int), r_2 = (.tuple #[(.pointer v_3), (.int .i64 v_4)]) ∧ (hIf (v_4 != 0)
    (R (.returned (.tuple #[(.pointer none), (.int .i64 v_4)])))
    (hNew #[(.pointer v_3), (.slice none 0 0)] 48 fun b_5 =>
  R (.returned (.tuple #[(.pointer (some ⟨b_5, 0, none⟩)), (.int .i64 0)])))) m
def ann9 : Ann := { loop := [], cut := [] }
theorem den9 (n_1 : Int) (R : Ending → HP → Prop) : denF Tryd.prog ann9 Tryd.f9.ntmps Tryd.f9.results.toList code9 [(.int .i64 n_1)] R = F9 n_1 R := by kernel_rfl
theorem call9 : Callable Tryd.prog 9 := fun a w => Tryd.call9 a w
theorem F9_fn {n_1 : Int} {R : Ending → HP → Prop} {m : HP} (h : F9 n_1 R m) : Does Tryd.prog 9 #[(.int .i64 n_1)] m R :=
  fn_of_den mixed (ann := ann9) Tryd.func9 call9 (c := code9) (by kernel_rfl) (by kernel_rfl) (args := [(.int .i64 n_1)]) (Nat.le_of_ble_eq_true (by kernel_rfl)) (.inl (by kernel_rfl)) (by rw [den9]; exact h)
/-! (*treadle/treadleref05.Table).Alloc -/
noncomputable def code12 : Code := (Tryd.f12.body).getD .skip
def F12_j13 (t_1 : Option Addr) (i_18 : Int) (again_15 : (Sl × Bool × Int × Unit) → HP → Prop) (list_32 : Sl) (done_33 : Bool) (R : Ending → HP → Prop) : HP → Prop :=
  hNil t_1 fun a_34 =>
  hLoad .slice (a_34.add 1) fun (v_35 : Sl) =>
  hIdx v_35.a v_35.n i_18 3 fun a_36 =>
  hLoad (.int .i64) a_36 fun (v_37 : Int) =>
  hLoad (.int .i64) (a_36.add 1) fun (v_38 : Int) =>
  hLoad (.int .i64) (a_36.add 2) fun (v_39 : Int) =>
  hNew #[(.int .i64 v_37), (.int .i64 v_38), (.int .i64 v_39)] 34 fun b_40 =>
  hAppend 3 24 #[(.int .i64 0), (.int .i64 0), (.int .i64 0)] 34 ⟨list_32.a, list_32.n, list_32.cap⟩ ⟨(some ⟨b_40, 0, none⟩), 1, 1⟩ fun v_41 =>
  hInt .i64 (i_18 + 1) fun v_42 =>
  again_15 (v_41, done_33, v_42, ())
def F12_j16 (t_1 : Option Addr) (b_4 : Nat) (b_13 : Nat) (list_50 : Sl) (R : Ending → HP → Prop) : HP → Prop :=
  hNil t_1 fun a_51 =>
  hStore (.slice list_50.a list_50.n list_50.cap) (a_51.add 1)
    (hLoad (.int .i64) ⟨b_13, 0, none⟩ fun (v_52 : Int) =>
  hLoad (.int .i64) ⟨b_13, 1, none⟩ fun (v_53 : Int) =>
  hLoad (.int .i64) ⟨b_13, 2, none⟩ fun (v_54 : Int) =>
  hStore (.int .i64 v_52) ⟨b_4, 0, none⟩
    (hStore (.int .i64 v_53) ⟨b_4, 1, none⟩
    (hStore (.int .i64 v_54) ⟨b_4, 2, none⟩
    (hLoad (.int .i64) ⟨b_4, 0, none⟩ fun (r_55 : Int) =>
  hLoad (.int .i64) ⟨b_4, 1, none⟩ fun (r_56 : Int) =>
  hLoad (.int .i64) ⟨b_4, 2, none⟩ fun (r_57 : Int) =>
  R (.returned (.tuple #[(.agg #[(.int .i64 r_55), (.int .i64 r_56), (.int .i64 r_57)]), (.int .i64 0)]))))))
def F12_l8 (t_1 : Option Addr) (b_4 : Nat) (v_8 : Int) (b_13 : Nat) (list_16 : Sl) (done_17 : Bool) (i_18 : Int) (again_15 : (Sl × Bool × Int × Unit) → HP → Prop) (R : Ending → HP → Prop) : HP → Prop :=
  hNil t_1 fun a_19 =>
  hLoad .slice (a_19.add 1) fun (v_20 : Sl) =>
  hIf (decide (i_18 < ((v_20.n : Nat) : Int)))
    (hLet (α := Sl × Bool × Unit) (fun k_21 => hIf (!done_17)
    (hNil t_1 fun a_22 =>
  hLoad .slice (a_22.add 1) fun (v_23 : Sl) =>
  hIdx v_23.a v_23.n i_18 3 fun a_24 =>
  hLoad (.int .i64) a_24 fun (v_25 : Int) =>
  hIf (decide (v_25 > v_8))
    (hLoad (.int .i64) ⟨b_13, 0, none⟩ fun (v_26 : Int) =>
  hLoad (.int .i64) ⟨b_13, 1, none⟩ fun (v_27 : Int) =>
  hLoad (.int .i64) ⟨b_13, 2, none⟩ fun (v_28 : Int) =>
  hNew #[(.int .i64 v_26), (.int .i64 v_27), (.int .i64 v_28)] 34 fun b_29 =>
  hAppend 3 24 #[(.int .i64 0), (.int .i64 0), (.int .i64 0)] 34 ⟨list_16.a, list_16.n, list_16.cap⟩ ⟨(some ⟨b_29, 0, none⟩), 1, 1⟩ fun v_30 =>
  k_21 (v_30, true, ()))
    (k_21 (list_16, done_17, ())))
    (k_21 (list_16, done_17, ())))
    (fun x_31 => hAll fun _ => F12_j13 t_1 i_18 again_15 x_31.1 x_31.2.1 R))
    (hLet (α := Sl × Unit) (fun k_43 => hIf (!done_17)
    (hLoad (.int .i64) ⟨b_13, 0, none⟩ fun (v_44 : Int) =>
  hLoad (.int .i64) ⟨b_13, 1, none⟩ fun (v_45 : Int) =>
  hLoad (.int .i64) ⟨b_13, 2, none⟩ fun (v_46 : Int) =>
  hNew #[(.int .i64 v_44), (.int .i64 v_45), (.int .i64 v_46)] 34 fun b_47 =>
  hAppend 3 24 #[(.int .i64 0), (.int .i64 0), (.int .i64 0)] 34 ⟨list_16.a, list_16.n, list_16.cap⟩ ⟨(some ⟨b_47, 0, none⟩), 1, 1⟩ fun v_48 =>
  k_43 (v_48, ()))
    (k_43 (list_16, ())))
    (fun x_49 => hAll fun _ => F12_j16 t_1 b_4 b_13 x_49.1 R))
def F12 (t_1 : Option Addr) (n_2 : Int) (tag_3 : Int) (R : Ending → HP → Prop) : HP → Prop :=
  hNew #[(.int .i64 0), (.int .i64 0), (.int .i64 0)] 34 fun b_4 =>
  hNil t_1 fun a_5 =>
  hLoad .ptr a_5 fun (v_6 : Option Addr) =>
  hCall Tryd.prog 39 #[(.pointer v_6), (.int .i64 n_2)] (fun ch => R (.panicked ch)) fun r_7 m => ∃ (v_8 : Int) (v_9 : Int), r_7 = (.tuple #[(.int .i64 v_8), (.int .i64 v_9)]) ∧ (hIf (v_9 != 0)
    (hStore (.int .i64 0) ⟨b_4, 0, none⟩
    (hStore (.int .i64 0) ⟨b_4, 1, none⟩
    (hStore (.int .i64 0) ⟨b_4, 2, none⟩
    (hLoad (.int .i64) ⟨b_4, 0, none⟩ fun (r_10 : Int) =>
  hLoad (.int .i64) ⟨b_4, 1, none⟩ fun (r_11 : Int) =>
  hLoad (.int .i64) ⟨b_4, 2, none⟩ fun (r_12 : Int) =>
  R (.returned (.tuple #[(.agg #[(.int .i64 r_10), (.int .i64 r_11), (.int .i64 r_12)]), (.int .i64 v_9)]))))))
    (hNew #[(.int .i64 0), (.int .i64 0), (.int .i64 0)] 34 fun b_13 =>
  hStore (.int .i64 v_8) ⟨b_13, 0, none⟩
    (hStore (.int .i64 n_2) ⟨b_13, 1, none⟩
    (hStore (.int .i64 tag_3) ⟨b_13, 2, none⟩
    (hLoop (α := Sl × Bool × Int × Unit) ((⟨none, 0, 0⟩ : Sl), false, 0, ()) fun x_14 again_15 => hAll fun _ => F12_l8 t_1 b_4 v_8 b_13 x_14.1 x_14.2.1 x_14.2.2.1 again_15 R))))) m
def ann12 : Ann := { loop := [(8, [(11, Ty.slice), (12, Ty.bool), (13, (Ty.int .i64))])], cut := [(13, [(11, Ty.slice), (12, Ty.bool)]), (16, [(11, Ty.slice)])] }
theorem den12 (t_1 : Option Addr) (n_2 : Int) (tag_3 : Int) (R : Ending → HP → Prop) : denF Tryd.prog ann12 Tryd.f12.ntmps Tryd.f12.results.toList code12 [(.pointer t_1), (.int .i64 n_2), (.int .i64 tag_3)] R = F12 t_1 n_2 tag_3 R := by kernel_rfl
theorem call12 : Callable Tryd.prog 12 := fun a w => Tryd.call12 a w
theorem F12_fn {t_1 : Option Addr} {n_2 : Int} {tag_3 : Int} {R : Ending → HP → Prop} {m : HP} (h : F12 t_1 n_2 tag_3 R m) : Does Tryd.prog 12 #[(.pointer t_1), (.int .i64 n_2), (.int .i64 tag_3)] m R :=
  fn_of_den mixed (ann := ann12) Tryd.func12 call12 (c := code12) (by kernel_rfl) (by kernel_rfl) (args := [(.pointer t_1), (.int .i64 n_2), (.int .i64 tag_3)]) (Nat.le_of_ble_eq_true (by kernel_rfl)) (.inl (by kernel_rfl)) (by rw [den12]; exact h)
/-! (*treadle/treadleref05.Table).Free -/
noncomputable def code14 : Code := (Tryd.f14.body).getD .skip
def F14_j5 (i_7 : Int) (again_5 : (Sl × Int × Unit) → HP → Prop) (list_30 : Sl) (R : Ending → HP → Prop) : HP → Prop :=
  hInt .i64 (i_7 + 1) fun v_31 =>
  again_5 (list_30, v_31, ())
def F14_l4 (t_1 : Option Addr) (base_2 : Int) (b_3 : Nat) (list_6 : Sl) (i_7 : Int) (again_5 : (Sl × Int × Unit) → HP → Prop) (R : Ending → HP → Prop) : HP → Prop :=
  hNil t_1 fun a_8 =>
  hLoad .slice (a_8.add 1) fun (v_9 : Sl) =>
  hIf (decide (i_7 < ((v_9.n : Nat) : Int)))
    (hLet (α := Sl × Unit) (fun k_10 => hNil t_1 fun a_11 =>
  hLoad .slice (a_11.add 1) fun (v_12 : Sl) =>
  hIdx v_12.a v_12.n i_7 3 fun a_13 =>
  hLoad (.int .i64) a_13 fun (v_14 : Int) =>
  hIf (v_14 == base_2)
    (hNil t_1 fun a_15 =>
  hLoad .slice (a_15.add 1) fun (v_16 : Sl) =>
  hIdx v_16.a v_16.n i_7 3 fun a_17 =>
  hLoad (.int .i64) a_17 fun (v_18 : Int) =>
  hLoad (.int .i64) (a_17.add 1) fun (v_19 : Int) =>
  hLoad (.int .i64) (a_17.add 2) fun (v_20 : Int) =>
  hStore (.int .i64 v_18) ⟨b_3, 0, none⟩
    (hStore (.int .i64 v_19) ⟨b_3, 1, none⟩
    (hStore (.int .i64 v_20) ⟨b_3, 2, none⟩
    (k_10 (list_6, ())))))
    (hNil t_1 fun a_21 =>
  hLoad .slice (a_21.add 1) fun (v_22 : Sl) =>
  hIdx v_22.a v_22.n i_7 3 fun a_23 =>
  hLoad (.int .i64) a_23 fun (v_24 : Int) =>
  hLoad (.int .i64) (a_23.add 1) fun (v_25 : Int) =>
  hLoad (.int .i64) (a_23.add 2) fun (v_26 : Int) =>
  hNew #[(.int .i64 v_24), (.int .i64 v_25), (.int .i64 v_26)] 34 fun b_27 =>
  hAppend 3 24 #[(.int .i64 0), (.int .i64 0), (.int .i64 0)] 34 ⟨list_6.a, list_6.n, list_6.cap⟩ ⟨(some ⟨b_27, 0, none⟩), 1, 1⟩ fun v_28 =>
  k_10 (v_28, ())))
    (fun x_29 => hAll fun _ => F14_j5 i_7 again_5 x_29.1 R))
    (hLoad (.int .i64) ⟨b_3, 1, none⟩ fun (v_32 : Int) =>
  hIf (v_32 == 0)
    (R (.returned (.int .i64 4)))
    (hNil t_1 fun a_33 =>
  hStore (.slice list_6.a list_6.n list_6.cap) (a_33.add 1)
    (hNil t_1 fun a_34 =>
  hLoad .ptr a_34 fun (v_35 : Option Addr) =>
  hLoad (.int .i64) ⟨b_3, 1, none⟩ fun (v_36 : Int) =>
  hCall Tryd.prog 41 #[(.pointer v_35), (.int .i64 base_2), (.int .i64 v_36), (.bool false)] (fun ch => R (.panicked ch)) fun r_37 m => ∃ (v_38 : Int), r_37 = (.int .i64 v_38) ∧ (R (.returned (.int .i64 0))) m)))
def F14 (t_1 : Option Addr) (base_2 : Int) (R : Ending → HP → Prop) : HP → Prop :=
  hNew #[(.int .i64 0), (.int .i64 0), (.int .i64 0)] 34 fun b_3 =>
  hStore (.int .i64 0) ⟨b_3, 0, none⟩
    (hStore (.int .i64 0) ⟨b_3, 1, none⟩
    (hStore (.int .i64 0) ⟨b_3, 2, none⟩
    (hLoop (α := Sl × Int × Unit) ((⟨none, 0, 0⟩ : Sl), 0, ()) fun x_4 again_5 => hAll fun _ => F14_l4 t_1 base_2 b_3 x_4.1 x_4.2.1 again_5 R)))
def ann14 : Ann := { loop := [(4, [(5, Ty.slice), (7, (Ty.int .i64))])], cut := [(5, [(5, Ty.slice)])] }
theorem den14 (t_1 : Option Addr) (base_2 : Int) (R : Ending → HP → Prop) : denF Tryd.prog ann14 Tryd.f14.ntmps Tryd.f14.results.toList code14 [(.pointer t_1), (.int .i64 base_2)] R = F14 t_1 base_2 R := by kernel_rfl
theorem call14 : Callable Tryd.prog 14 := fun a w => Tryd.call14 a w
theorem F14_fn {t_1 : Option Addr} {base_2 : Int} {R : Ending → HP → Prop} {m : HP} (h : F14 t_1 base_2 R m) : Does Tryd.prog 14 #[(.pointer t_1), (.int .i64 base_2)] m R :=
  fn_of_den mixed (ann := ann14) Tryd.func14 call14 (c := code14) (by kernel_rfl) (by kernel_rfl) (args := [(.pointer t_1), (.int .i64 base_2)]) (Nat.le_of_ble_eq_true (by kernel_rfl)) (.inl (by kernel_rfl)) (by rw [den14]; exact h)
/-! (*treadle/treadleref05.Table).Find -/
noncomputable def code16 : Code := (Tryd.f16.body).getD .skip
def F16_l2 (t_1 : Option Addr) (page_2 : Int) (b_3 : Nat) (i_6 : Int) (again_5 : (Int × Unit) → HP → Prop) (R : Ending → HP → Prop) : HP → Prop :=
  hNil t_1 fun a_7 =>
  hLoad .slice (a_7.add 1) fun (v_8 : Sl) =>
  hIf (decide (i_6 < ((v_8.n : Nat) : Int)))
    (hNil t_1 fun a_9 =>
  hLoad .slice (a_9.add 1) fun (v_10 : Sl) =>
  hIdx v_10.a v_10.n i_6 3 fun a_11 =>
  hLoad (.int .i64) a_11 fun (v_12 : Int) =>
  hLoad (.int .i64) (a_11.add 1) fun (v_13 : Int) =>
  hLoad (.int .i64) (a_11.add 2) fun (v_14 : Int) =>
  hNew #[(.int .i64 0), (.int .i64 0), (.int .i64 0)] 34 fun b_15 =>
  hStore (.int .i64 v_12) ⟨b_15, 0, none⟩
    (hStore (.int .i64 v_13) ⟨b_15, 1, none⟩
    (hStore (.int .i64 v_14) ⟨b_15, 2, none⟩
    (hLoad (.int .i64) ⟨b_15, 0, none⟩ fun (v_16 : Int) =>
  hIf (decide (page_2 ≥ v_16))
    (hLoad (.int .i64) ⟨b_15, 0, none⟩ fun (v_17 : Int) =>
  hInt .i64 (page_2 - v_17) fun v_18 =>
  hLoad (.int .i64) ⟨b_15, 1, none⟩ fun (v_19 : Int) =>
  hIf (decide (v_18 < v_19))
    (hLoad (.int .i64) ⟨b_15, 0, none⟩ fun (v_20 : Int) =>
  hLoad (.int .i64) ⟨b_15, 1, none⟩ fun (v_21 : Int) =>
  hLoad (.int .i64) ⟨b_15, 2, none⟩ fun (v_22 : Int) =>
  hStore (.int .i64 v_20) ⟨b_3, 0, none⟩
    (hStore (.int .i64 v_21) ⟨b_3, 1, none⟩
    (hStore (.int .i64 v_22) ⟨b_3, 2, none⟩
    (hLoad (.int .i64) ⟨b_3, 0, none⟩ fun (r_23 : Int) =>
  hLoad (.int .i64) ⟨b_3, 1, none⟩ fun (r_24 : Int) =>
  hLoad (.int .i64) ⟨b_3, 2, none⟩ fun (r_25 : Int) =>
  R (.returned (.tuple #[(.agg #[(.int .i64 r_23), (.int .i64 r_24), (.int .i64 r_25)]), (.bool true)]))))))
    (hInt .i64 (i_6 + 1) fun v_26 =>
  again_5 (v_26, ())))
    (hInt .i64 (i_6 + 1) fun v_27 =>
  again_5 (v_27, ()))))))
    (hStore (.int .i64 0) ⟨b_3, 0, none⟩
    (hStore (.int .i64 0) ⟨b_3, 1, none⟩
    (hStore (.int .i64 0) ⟨b_3, 2, none⟩
    (hLoad (.int .i64) ⟨b_3, 0, none⟩ fun (r_28 : Int) =>
  hLoad (.int .i64) ⟨b_3, 1, none⟩ fun (r_29 : Int) =>
  hLoad (.int .i64) ⟨b_3, 2, none⟩ fun (r_30 : Int) =>
  R (.returned (.tuple #[(.agg #[(.int .i64 r_28), (.int .i64 r_29), (.int .i64 r_30)]), (.bool false)]))))))
def F16 (t_1 : Option Addr) (page_2 : Int) (R : Ending → HP → Prop) : HP → Prop :=
  hNew #[(.int .i64 0), (.int .i64 0), (.int .i64 0)] 34 fun b_3 =>
  hLoop (α := Int × Unit) (0, ()) fun x_4 again_5 => hAll fun _ => F16_l2 t_1 page_2 b_3 x_4.1 again_5 R
def ann16 : Ann := { loop := [(2, [(6, (Ty.int .i64))])], cut := [] }
theorem den16 (t_1 : Option Addr) (page_2 : Int) (R : Ending → HP → Prop) : denF Tryd.prog ann16 Tryd.f16.ntmps Tryd.f16.results.toList code16 [(.pointer t_1), (.int .i64 page_2)] R = F16 t_1 page_2 R := by kernel_rfl
theorem call16 : Callable Tryd.prog 16 := fun a w => Tryd.call16 a w
theorem F16_fn {t_1 : Option Addr} {page_2 : Int} {R : Ending → HP → Prop} {m : HP} (h : F16 t_1 page_2 R m) : Does Tryd.prog 16 #[(.pointer t_1), (.int .i64 page_2)] m R :=
  fn_of_den mixed (ann := ann16) Tryd.func16 call16 (c := code16) (by kernel_rfl) (by kernel_rfl) (args := [(.pointer t_1), (.int .i64 page_2)]) (Nat.le_of_ble_eq_true (by kernel_rfl)) (.inl (by kernel_rfl)) (by rw [den16]; exact h)
/-! (*treadle/treadleref04.Pages).Counts -/
noncomputable def code18 : Code := (Tryd.f18.body).getD .skip
def F18_j4 (at_6 : Int) (again_3 : (Int × Int × Int × Unit) → HP → Prop) (free_18 : Int) (most_19 : Int) (R : Ending → HP → Prop) : HP → Prop :=
  hInt .i64 (at_6 + 1) fun v_20 =>
  again_3 (free_18, most_19, v_20, ())
def F18_l3 (p_1 : Option Addr) (free_4 : Int) (most_5 : Int) (at_6 : Int) (again_3 : (Int × Int × Int × Unit) → HP → Prop) (R : Ending → HP → Prop) : HP → Prop :=
  hNil p_1 fun a_7 =>
  hLoad .slice a_7 fun (v_8 : Sl) =>
  hIf (decide (at_6 < ((v_8.n : Nat) : Int)))
    (hLet (α := Int × Int × Unit) (fun k_9 => hNil p_1 fun a_10 =>
  hLoad .slice a_10 fun (v_11 : Sl) =>
  hIdx v_11.a v_11.n at_6 1 fun a_12 =>
  hLoad .bool a_12 fun (v_13 : Bool) =>
  hIf (!v_13)
    (hInt .i64 (free_4 + 1) fun v_14 =>
  hCall Tryd.prog 44 #[(.pointer p_1), (.int .i64 at_6)] (fun ch => R (.panicked ch)) fun r_15 m => ∃ (v_16 : Int), r_15 = (.int .i64 v_16) ∧ (hIf (decide (v_16 > most_5))
    (k_9 (v_14, v_16, ()))
    (k_9 (v_14, most_5, ()))) m)
    (k_9 (free_4, most_5, ())))
    (fun x_17 => hAll fun _ => F18_j4 at_6 again_3 x_17.1 x_17.2.1 R))
    (R (.returned (.tuple #[(.int .i64 free_4), (.int .i64 most_5)])))
def F18 (p_1 : Option Addr) (R : Ending → HP → Prop) : HP → Prop :=
  hLoop (α := Int × Int × Int × Unit) (0, 0, 0, ()) fun x_2 again_3 => hAll fun _ => F18_l3 p_1 x_2.1 x_2.2.1 x_2.2.2.1 again_3 R
def ann18 : Ann := { loop := [(3, [(4, (Ty.int .i64)), (5, (Ty.int .i64)), (6, (Ty.int .i64))])], cut := [(4, [(4, (Ty.int .i64)), (5, (Ty.int .i64))])] }
theorem den18 (p_1 : Option Addr) (R : Ending → HP → Prop) : denF Tryd.prog ann18 Tryd.f18.ntmps Tryd.f18.results.toList code18 [(.pointer p_1)] R = F18 p_1 R := by kernel_rfl
theorem call18 : Callable Tryd.prog 18 := fun a w => Tryd.call18 a w
theorem F18_fn {p_1 : Option Addr} {R : Ending → HP → Prop} {m : HP} (h : F18 p_1 R m) : Does Tryd.prog 18 #[(.pointer p_1)] m R :=
  fn_of_den mixed (ann := ann18) Tryd.func18 call18 (c := code18) (by kernel_rfl) (by kernel_rfl) (args := [(.pointer p_1)]) (Nat.le_of_ble_eq_true (by kernel_rfl)) (.inl (by kernel_rfl)) (by rw [den18]; exact h)
/-! treadle/treadleref05.Same -/
noncomputable def code20 : Code := (Tryd.f20.body).getD .skip
def F20_l4 (a_1 : Sl) (b_2 : Sl) (i_5 : Int) (again_4 : (Int × Unit) → HP → Prop) (R : Ending → HP → Prop) : HP → Prop :=
  hIf (decide (i_5 < ((a_1.n : Nat) : Int)))
    (hIdx a_1.a a_1.n i_5 3 fun a_6 =>
  hLoad (.int .i64) a_6 fun (v_7 : Int) =>
  hLoad (.int .i64) (a_6.add 1) fun (v_8 : Int) =>
  hLoad (.int .i64) (a_6.add 2) fun (v_9 : Int) =>
  hIdx b_2.a b_2.n i_5 3 fun a_10 =>
  hLoad (.int .i64) a_10 fun (v_11 : Int) =>
  hLoad (.int .i64) (a_10.add 1) fun (v_12 : Int) =>
  hLoad (.int .i64) (a_10.add 2) fun (v_13 : Int) =>
  hEq Tryd.prog .neq 34 (.tmp 20) (.tmp 24) (.agg #[(.int .i64 v_7), (.int .i64 v_8), (.int .i64 v_9)]) (.agg #[(.int .i64 v_11), (.int .i64 v_12), (.int .i64 v_13)]) fun e_14 =>
  hIf (!e_14)
    (R (.returned (.bool false)))
    (hInt .i64 (i_5 + 1) fun v_15 =>
  again_4 (v_15, ())))
    (R (.returned (.bool true)))
def F20 (a_1 : Sl) (b_2 : Sl) (R : Ending → HP → Prop) : HP → Prop :=
  hIf (((a_1.n : Nat) : Int) != ((b_2.n : Nat) : Int))
    (R (.returned (.bool false)))
    (hLoop (α := Int × Unit) (0, ()) fun x_3 again_4 => hAll fun _ => F20_l4 a_1 b_2 x_3.1 again_4 R)
def ann20 : Ann := { loop := [(4, [(5, (Ty.int .i64))])], cut := [] }
theorem den20 (a_1 : Sl) (b_2 : Sl) (R : Ending → HP → Prop) : denF Tryd.prog ann20 Tryd.f20.ntmps Tryd.f20.results.toList code20 [(.slice a_1.a a_1.n a_1.cap), (.slice b_2.a b_2.n b_2.cap)] R = F20 a_1 b_2 R := by kernel_rfl
theorem call20 : Callable Tryd.prog 20 := fun a w => Tryd.call20 a w
theorem F20_fn {a_1 : Sl} {b_2 : Sl} {R : Ending → HP → Prop} {m : HP} (h : F20 a_1 b_2 R m) : Does Tryd.prog 20 #[(.slice a_1.a a_1.n a_1.cap), (.slice b_2.a b_2.n b_2.cap)] m R :=
  fn_of_den mixed (ann := ann20) Tryd.func20 call20 (c := code20) (by kernel_rfl) (by kernel_rfl) (args := [(.slice a_1.a a_1.n a_1.cap), (.slice b_2.a b_2.n b_2.cap)]) (Nat.le_of_ble_eq_true (by kernel_rfl)) (.inl (by kernel_rfl)) (by rw [den20]; exact h)
/-! treadle/treadleref04.New -/
noncomputable def code37 : Code := (Tryd.f37.body).getD .skip
def F37 (n_1 : Int) (R : Ending → HP → Prop) : HP → Prop :=
  hIf (decide (n_1 < 1))
    (R (.returned (.tuple #[(.pointer none), (.int .i64 1)])))
    (hIf (decide (n_1 > 4096))
    (R (.returned (.tuple #[(.pointer none), (.int .i64 1)])))
    (hMake 1 1 #[(.bool false)] 4 n_1 n_1 fun b_2 =>
  hNew #[(.slice (some ⟨b_2, 0, none⟩) (Int.toNat n_1) (Int.toNat n_1))] 92 fun b_3 =>
  R (.returned (.tuple #[(.pointer (some ⟨b_3, 0, none⟩)), (.int .i64 0)]))))
def ann37 : Ann := { loop := [], cut := [] }
theorem den37 (n_1 : Int) (R : Ending → HP → Prop) : denF Tryd.prog ann37 Tryd.f37.ntmps Tryd.f37.results.toList code37 [(.int .i64 n_1)] R = F37 n_1 R := by kernel_rfl
theorem call37 : Callable Tryd.prog 37 := fun a w => Tryd.call37 a w
theorem F37_fn {n_1 : Int} {R : Ending → HP → Prop} {m : HP} (h : F37 n_1 R m) : Does Tryd.prog 37 #[(.int .i64 n_1)] m R :=
  fn_of_den mixed (ann := ann37) Tryd.func37 call37 (c := code37) (by kernel_rfl) (by kernel_rfl) (args := [(.int .i64 n_1)]) (Nat.le_of_ble_eq_true (by kernel_rfl)) (.inl (by kernel_rfl)) (by rw [den37]; exact h)
/-! (*treadle/treadleref04.Pages).Alloc -/
noncomputable def code39 : Code := (Tryd.f39.body).getD .skip
def F39_l4 (p_1 : Option Addr) (n_2 : Int) (at_5 : Int) (again_4 : (Int × Unit) → HP → Prop) (R : Ending → HP → Prop) : HP → Prop :=
  hNil p_1 fun a_6 =>
  hLoad .slice a_6 fun (v_7 : Sl) =>
  hIf (decide (at_5 < ((v_7.n : Nat) : Int)))
    (hCall Tryd.prog 44 #[(.pointer p_1), (.int .i64 at_5)] (fun ch => R (.panicked ch)) fun r_8 m => ∃ (v_9 : Int), r_8 = (.int .i64 v_9) ∧ (hIf (decide (v_9 ≥ n_2))
    (hCall Tryd.prog 64 #[(.pointer p_1), (.int .i64 at_5), (.int .i64 n_2), (.bool true)] (fun ch => R (.panicked ch)) fun _ =>
  R (.returned (.tuple #[(.int .i64 at_5), (.int .i64 0)])))
    (hInt .i64 (at_5 + v_9) fun v_11 =>
  hInt .i64 (v_11 + 1) fun v_12 =>
  again_4 (v_12, ()))) m)
    (R (.returned (.tuple #[(.int .i64 0), (.int .i64 3)])))
def F39 (p_1 : Option Addr) (n_2 : Int) (R : Ending → HP → Prop) : HP → Prop :=
  hIf (decide (n_2 < 1))
    (R (.returned (.tuple #[(.int .i64 0), (.int .i64 1)])))
    (hLoop (α := Int × Unit) (0, ()) fun x_3 again_4 => hAll fun _ => F39_l4 p_1 n_2 x_3.1 again_4 R)
def ann39 : Ann := { loop := [(4, [(6, (Ty.int .i64))])], cut := [] }
theorem den39 (p_1 : Option Addr) (n_2 : Int) (R : Ending → HP → Prop) : denF Tryd.prog ann39 Tryd.f39.ntmps Tryd.f39.results.toList code39 [(.pointer p_1), (.int .i64 n_2)] R = F39 p_1 n_2 R := by kernel_rfl
theorem call39 : Callable Tryd.prog 39 := fun a w => Tryd.call39 a w
theorem F39_fn {p_1 : Option Addr} {n_2 : Int} {R : Ending → HP → Prop} {m : HP} (h : F39 p_1 n_2 R m) : Does Tryd.prog 39 #[(.pointer p_1), (.int .i64 n_2)] m R :=
  fn_of_den mixed (ann := ann39) Tryd.func39 call39 (c := code39) (by kernel_rfl) (by kernel_rfl) (args := [(.pointer p_1), (.int .i64 n_2)]) (Nat.le_of_ble_eq_true (by kernel_rfl)) (.inl (by kernel_rfl)) (by rw [den39]; exact h)
/-! (*treadle/treadleref04.Pages).Turn -/
noncomputable def code41 : Code := (Tryd.f41.body).getD .skip
def F41_l4 (p_1 : Option Addr) (base_2 : Int) (n_3 : Int) (used_4 : Bool) (i_12 : Int) (again_11 : (Int × Unit) → HP → Prop) (R : Ending → HP → Prop) : HP → Prop :=
  hInt .i64 (base_2 + n_3) fun v_13 =>
  hIf (decide (i_12 < v_13))
    (hNil p_1 fun a_14 =>
  hLoad .slice a_14 fun (v_15 : Sl) =>
  hIdx v_15.a v_15.n i_12 1 fun a_16 =>
  hLoad .bool a_16 fun (v_17 : Bool) =>
  hIf (v_17 == used_4)
    (R (.returned (.int .i64 5)))
    (hInt .i64 (i_12 + 1) fun v_18 =>
  again_11 (v_18, ())))
    (hCall Tryd.prog 64 #[(.pointer p_1), (.int .i64 base_2), (.int .i64 n_3), (.bool used_4)] (fun ch => R (.panicked ch)) fun _ =>
  R (.returned (.int .i64 0)))
def F41 (p_1 : Option Addr) (base_2 : Int) (n_3 : Int) (used_4 : Bool) (R : Ending → HP → Prop) : HP → Prop :=
  hIf (decide (base_2 < 0))
    (R (.returned (.int .i64 1)))
    (hIf (decide (n_3 < 1))
    (R (.returned (.int .i64 1)))
    (hNil p_1 fun a_5 =>
  hLoad .slice a_5 fun (v_6 : Sl) =>
  hIf (decide (base_2 ≥ ((v_6.n : Nat) : Int)))
    (R (.returned (.int .i64 1)))
    (hNil p_1 fun a_7 =>
  hLoad .slice a_7 fun (v_8 : Sl) =>
  hInt .i64 (((v_8.n : Nat) : Int) - base_2) fun v_9 =>
  hIf (decide (n_3 > v_9))
    (R (.returned (.int .i64 1)))
    (hLoop (α := Int × Unit) (base_2, ()) fun x_10 again_11 => hAll fun _ => F41_l4 p_1 base_2 n_3 used_4 x_10.1 again_11 R))))
def ann41 : Ann := { loop := [(4, [(9, (Ty.int .i64))])], cut := [] }
theorem den41 (p_1 : Option Addr) (base_2 : Int) (n_3 : Int) (used_4 : Bool) (R : Ending → HP → Prop) : denF Tryd.prog ann41 Tryd.f41.ntmps Tryd.f41.results.toList code41 [(.pointer p_1), (.int .i64 base_2), (.int .i64 n_3), (.bool used_4)] R = F41 p_1 base_2 n_3 used_4 R := by kernel_rfl
theorem call41 : Callable Tryd.prog 41 := fun a w => Tryd.call41 a w
theorem F41_fn {p_1 : Option Addr} {base_2 : Int} {n_3 : Int} {used_4 : Bool} {R : Ending → HP → Prop} {m : HP} (h : F41 p_1 base_2 n_3 used_4 R m) : Does Tryd.prog 41 #[(.pointer p_1), (.int .i64 base_2), (.int .i64 n_3), (.bool used_4)] m R :=
  fn_of_den mixed (ann := ann41) Tryd.func41 call41 (c := code41) (by kernel_rfl) (by kernel_rfl) (args := [(.pointer p_1), (.int .i64 base_2), (.int .i64 n_3), (.bool used_4)]) (Nat.le_of_ble_eq_true (by kernel_rfl)) (.inl (by kernel_rfl)) (by rw [den41]; exact h)
/-! (*treadle/treadleref04.Pages).Run -/
noncomputable def code44 : Code := (Tryd.f44.body).getD .skip
def F44_l2 (p_1 : Option Addr) (at_2 : Int) (n_5 : Int) (again_4 : (Int × Unit) → HP → Prop) (R : Ending → HP → Prop) : HP → Prop :=
  hInt .i64 (at_2 + n_5) fun v_6 =>
  hNil p_1 fun a_7 =>
  hLoad .slice a_7 fun (v_8 : Sl) =>
  hIf (decide (v_6 < ((v_8.n : Nat) : Int)))
    (hNil p_1 fun a_9 =>
  hLoad .slice a_9 fun (v_10 : Sl) =>
  hInt .i64 (at_2 + n_5) fun v_11 =>
  hIdx v_10.a v_10.n v_11 1 fun a_12 =>
  hLoad .bool a_12 fun (v_13 : Bool) =>
  hIf (!v_13)
    (hInt .i64 (n_5 + 1) fun v_14 =>
  again_4 (v_14, ()))
    (R (.returned (.int .i64 n_5))))
    (R (.returned (.int .i64 n_5)))
def F44 (p_1 : Option Addr) (at_2 : Int) (R : Ending → HP → Prop) : HP → Prop :=
  hLoop (α := Int × Unit) (0, ()) fun x_3 again_4 => hAll fun _ => F44_l2 p_1 at_2 x_3.1 again_4 R
def ann44 : Ann := { loop := [(2, [(5, (Ty.int .i64))])], cut := [] }
theorem den44 (p_1 : Option Addr) (at_2 : Int) (R : Ending → HP → Prop) : denF Tryd.prog ann44 Tryd.f44.ntmps Tryd.f44.results.toList code44 [(.pointer p_1), (.int .i64 at_2)] R = F44 p_1 at_2 R := by kernel_rfl
theorem call44 : Callable Tryd.prog 44 := fun a w => Tryd.call44 a w
theorem F44_fn {p_1 : Option Addr} {at_2 : Int} {R : Ending → HP → Prop} {m : HP} (h : F44 p_1 at_2 R m) : Does Tryd.prog 44 #[(.pointer p_1), (.int .i64 at_2)] m R :=
  fn_of_den mixed (ann := ann44) Tryd.func44 call44 (c := code44) (by kernel_rfl) (by kernel_rfl) (args := [(.pointer p_1), (.int .i64 at_2)]) (Nat.le_of_ble_eq_true (by kernel_rfl)) (.inl (by kernel_rfl)) (by rw [den44]; exact h)
/-! (*treadle/treadleref04.Pages).set -/
noncomputable def code64 : Code := (Tryd.f64.body).getD .skip
def F64_l1 (p_1 : Option Addr) (base_2 : Int) (n_3 : Int) (used_4 : Bool) (i_7 : Int) (again_6 : (Int × Unit) → HP → Prop) (R : Ending → HP → Prop) : HP → Prop :=
  hInt .i64 (base_2 + n_3) fun v_8 =>
  hIf (decide (i_7 < v_8))
    (hNil p_1 fun a_9 =>
  hLoad .slice a_9 fun (v_10 : Sl) =>
  hIdx v_10.a v_10.n i_7 1 fun a_11 =>
  hStore (.bool used_4) a_11
    (hInt .i64 (i_7 + 1) fun v_12 =>
  again_6 (v_12, ())))
    (R (.returned (.tuple #[])))
def F64 (p_1 : Option Addr) (base_2 : Int) (n_3 : Int) (used_4 : Bool) (R : Ending → HP → Prop) : HP → Prop :=
  hLoop (α := Int × Unit) (base_2, ()) fun x_5 again_6 => hAll fun _ => F64_l1 p_1 base_2 n_3 used_4 x_5.1 again_6 R
def ann64 : Ann := { loop := [(1, [(8, (Ty.int .i64))])], cut := [] }
theorem den64 (p_1 : Option Addr) (base_2 : Int) (n_3 : Int) (used_4 : Bool) (R : Ending → HP → Prop) : denF Tryd.prog ann64 Tryd.f64.ntmps Tryd.f64.results.toList code64 [(.pointer p_1), (.int .i64 base_2), (.int .i64 n_3), (.bool used_4)] R = F64 p_1 base_2 n_3 used_4 R := by kernel_rfl
theorem call64 : Callable Tryd.prog 64 := fun a w => Tryd.call64 a w
theorem F64_fn {p_1 : Option Addr} {base_2 : Int} {n_3 : Int} {used_4 : Bool} {R : Ending → HP → Prop} {m : HP} (h : F64 p_1 base_2 n_3 used_4 R m) : Does Tryd.prog 64 #[(.pointer p_1), (.int .i64 base_2), (.int .i64 n_3), (.bool used_4)] m R :=
  fn_of_den mixed (ann := ann64) Tryd.func64 call64 (c := code64) (by kernel_rfl) (by kernel_rfl) (args := [(.pointer p_1), (.int .i64 base_2), (.int .i64 n_3), (.bool used_4)]) (Nat.le_of_ble_eq_true (by kernel_rfl)) (.inl (by kernel_rfl)) (by rw [den64]; exact h)
end Go.Proofs.YtolfcdjbchdkgaaDoor
/- The predicates of functions of the program, printed by a program of this session (wip/tools/prt.py) out of Lean's own print of the loaded functions. -/
namespace Go.Proofs.YtolfcdjbchdkgaaDoor
open Go Go.Hp
set_option maxRecDepth 100000
/-! treadle/span.New -/
noncomputable def code8 : Code := (Tryd.f8.body).getD .skip
def F8 (n_1 : Int) (R : Ending → HP → Prop) : HP → Prop :=
  hCall Tryd.prog 36 #[(.int .i64 n_1)] (fun ch => R (.panicked ch)) fun r_2 m => ∃ (v_3 : Option Addr) (v_4 : Int), r_2 = (.tuple #[(.pointer v_3), (.int .i64 v_4)]) ∧ (hIf (v_4 != 0)
    (R (.returned (.tuple #[(.pointer none), (.int .i64 v_4)])))
    (fun m => (hMake 3 24 #[(.int .i64 0), (.int .i64 0), (.int .i64 0)] 34 n_1 n_1 fun b_5 =>
  hMake 1 8 #[(.int .i64 0)] 3 n_1 n_1 fun b_6 =>
  hNew #[(.pointer v_3), (.slice (some ⟨b_5, 0, none⟩) (Int.toNat n_1) (Int.toNat n_1)), (.slice (some ⟨b_6, 0, none⟩) (Int.toNat n_1) (Int.toNat n_1))] 84 fun b_7 =>
  R (.returned (.tuple #[(.pointer (some ⟨b_7, 0, none⟩)), (.int .i64 0)]))) m ∧ (hMake 1 8 #[(.int .i64 0)] 3 n_1 n_1 fun b_8 =>
  hMake 3 24 #[(.int .i64 0), (.int .i64 0), (.int .i64 0)] 34 n_1 n_1 fun b_9 =>
  hNew #[(.pointer v_3), (.slice (some ⟨b_9, 0, none⟩) (Int.toNat n_1) (Int.toNat n_1)), (.slice (some ⟨b_8, 0, none⟩) (Int.toNat n_1) (Int.toNat n_1))] 84 fun b_10 =>
  R (.returned (.tuple #[(.pointer (some ⟨b_10, 0, none⟩)), (.int .i64 0)]))) m)) m
def ann8 : Ann := { loop := [], cut := [] }
theorem den8 (n_1 : Int) (R : Ending → HP → Prop) : denF Tryd.prog ann8 Tryd.f8.ntmps Tryd.f8.results.toList code8 [(.int .i64 n_1)] R = F8 n_1 R := by kernel_rfl
theorem call8 : Callable Tryd.prog 8 := fun a w => Tryd.call8 a w
theorem F8_fn {n_1 : Int} {R : Ending → HP → Prop} {m : HP} (h : F8 n_1 R m) : Does Tryd.prog 8 #[(.int .i64 n_1)] m R :=
  fn_of_den mixed (ann := ann8) Tryd.func8 call8 (c := code8) (by kernel_rfl) (by kernel_rfl) (args := [(.int .i64 n_1)]) (Nat.le_of_ble_eq_true (by kernel_rfl)) (.inl (by kernel_rfl)) (by rw [den8]; exact h)
/-! (*treadle/span.Table).Alloc -/
noncomputable def code11 : Code := (Tryd.f11.body).getD .skip
def F11_l9 (t_1 : Option Addr) (n_2 : Int) (b_4 : Nat) (v_11 : Int) (b_16 : Nat) (t40_25 : Int) (again_24 : (Int × Unit) → HP → Prop) (R : Ending → HP → Prop) : HP → Prop :=
  hIf (decide (t40_25 < n_2))
    (hNil t_1 fun a_26 =>
  hLoad .slice (a_26.add 2) fun (v_27 : Sl) =>
  hInt .i64 (v_11 + t40_25) fun v_28 =>
  hIdx v_27.a v_27.n v_28 1 fun a_29 =>
  hStore (.int .i64 v_11) a_29
    (hInt .i64 (t40_25 + 1) fun v_30 =>
  again_24 (v_30, ())))
    (hLoad (.int .i64) ⟨b_16, 0, none⟩ fun (v_31 : Int) =>
  hLoad (.int .i64) ⟨b_16, 1, none⟩ fun (v_32 : Int) =>
  hLoad (.int .i64) ⟨b_16, 2, none⟩ fun (v_33 : Int) =>
  hStore (.int .i64 v_31) ⟨b_4, 0, none⟩
    (hStore (.int .i64 v_32) ⟨b_4, 1, none⟩
    (hStore (.int .i64 v_33) ⟨b_4, 2, none⟩
    (hLoad (.int .i64) ⟨b_4, 0, none⟩ fun (r_34 : Int) =>
  hLoad (.int .i64) ⟨b_4, 1, none⟩ fun (r_35 : Int) =>
  hLoad (.int .i64) ⟨b_4, 2, none⟩ fun (r_36 : Int) =>
  R (.returned (.tuple #[(.agg #[(.int .i64 r_34), (.int .i64 r_35), (.int .i64 r_36)]), (.int .i64 0)]))))))
def F11 (t_1 : Option Addr) (n_2 : Int) (tag_3 : Int) (R : Ending → HP → Prop) : HP → Prop :=
  hNew #[(.int .i64 0), (.int .i64 0), (.int .i64 0)] 34 fun b_4 =>
  hIf (Option.isNone t_1)
    (hStore (.int .i64 0) ⟨b_4, 0, none⟩
    (hStore (.int .i64 0) ⟨b_4, 1, none⟩
    (hStore (.int .i64 0) ⟨b_4, 2, none⟩
    (hLoad (.int .i64) ⟨b_4, 0, none⟩ fun (r_5 : Int) =>
  hLoad (.int .i64) ⟨b_4, 1, none⟩ fun (r_6 : Int) =>
  hLoad (.int .i64) ⟨b_4, 2, none⟩ fun (r_7 : Int) =>
  R (.returned (.tuple #[(.agg #[(.int .i64 r_5), (.int .i64 r_6), (.int .i64 r_7)]), (.int .i64 5)]))))))
    (hNil t_1 fun a_8 =>
  hLoad .ptr a_8 fun (v_9 : Option Addr) =>
  hCall Tryd.prog 38 #[(.pointer v_9), (.int .i64 n_2)] (fun ch => R (.panicked ch)) fun r_10 m => ∃ (v_11 : Int) (v_12 : Int), r_10 = (.tuple #[(.int .i64 v_11), (.int .i64 v_12)]) ∧ (hIf (v_12 != 0)
    (hStore (.int .i64 0) ⟨b_4, 0, none⟩
    (hStore (.int .i64 0) ⟨b_4, 1, none⟩
    (hStore (.int .i64 0) ⟨b_4, 2, none⟩
    (hLoad (.int .i64) ⟨b_4, 0, none⟩ fun (r_13 : Int) =>
  hLoad (.int .i64) ⟨b_4, 1, none⟩ fun (r_14 : Int) =>
  hLoad (.int .i64) ⟨b_4, 2, none⟩ fun (r_15 : Int) =>
  R (.returned (.tuple #[(.agg #[(.int .i64 r_13), (.int .i64 r_14), (.int .i64 r_15)]), (.int .i64 v_12)]))))))
    (hNew #[(.int .i64 0), (.int .i64 0), (.int .i64 0)] 34 fun b_16 =>
  hStore (.int .i64 v_11) ⟨b_16, 0, none⟩
    (hStore (.int .i64 n_2) ⟨b_16, 1, none⟩
    (hStore (.int .i64 tag_3) ⟨b_16, 2, none⟩
    (hNil t_1 fun a_17 =>
  hLoad .slice (a_17.add 1) fun (v_18 : Sl) =>
  hLoad (.int .i64) ⟨b_16, 0, none⟩ fun (v_19 : Int) =>
  hLoad (.int .i64) ⟨b_16, 1, none⟩ fun (v_20 : Int) =>
  hLoad (.int .i64) ⟨b_16, 2, none⟩ fun (v_21 : Int) =>
  hIdx v_18.a v_18.n v_11 3 fun a_22 =>
  hStore (.int .i64 v_19) a_22
    (hStore (.int .i64 v_20) (a_22.add 1)
    (hStore (.int .i64 v_21) (a_22.add 2)
    (hLoop (α := Int × Unit) (0, ()) fun x_23 again_24 => hAll fun _ => F11_l9 t_1 n_2 b_4 v_11 b_16 x_23.1 again_24 R)))))))) m)
def ann11 : Ann := { loop := [(9, [(40, (Ty.int .i64))])], cut := [] }
theorem den11 (t_1 : Option Addr) (n_2 : Int) (tag_3 : Int) (R : Ending → HP → Prop) : denF Tryd.prog ann11 Tryd.f11.ntmps Tryd.f11.results.toList code11 [(.pointer t_1), (.int .i64 n_2), (.int .i64 tag_3)] R = F11 t_1 n_2 tag_3 R := by kernel_rfl
theorem call11 : Callable Tryd.prog 11 := fun a w => Tryd.call11 a w
theorem F11_fn {t_1 : Option Addr} {n_2 : Int} {tag_3 : Int} {R : Ending → HP → Prop} {m : HP} (h : F11 t_1 n_2 tag_3 R m) : Does Tryd.prog 11 #[(.pointer t_1), (.int .i64 n_2), (.int .i64 tag_3)] m R :=
  fn_of_den mixed (ann := ann11) Tryd.func11 call11 (c := code11) (by kernel_rfl) (by kernel_rfl) (args := [(.pointer t_1), (.int .i64 n_2), (.int .i64 tag_3)]) (Nat.le_of_ble_eq_true (by kernel_rfl)) (.inl (by kernel_rfl)) (by rw [den11]; exact h)
/-! (*treadle/span.Table).Free -/
noncomputable def code13 : Code := (Tryd.f13.body).getD .skip
def F13 (t_1 : Option Addr) (base_2 : Int) (R : Ending → HP → Prop) : HP → Prop :=
  hIf (Option.isNone t_1)
    (R (.returned (.int .i64 5)))
    (hCall Tryd.prog 15 #[(.pointer t_1), (.int .i64 base_2)] (fun ch => R (.panicked ch)) fun r_3 m => ∃ (r_4 : Int) (r_5 : Int) (r_6 : Int) (v_7 : Bool), r_3 = (.tuple #[(.agg #[(.int .i64 r_4), (.int .i64 r_5), (.int .i64 r_6)]), (.bool v_7)]) ∧ (hNew #[(.int .i64 0), (.int .i64 0), (.int .i64 0)] 34 fun b_8 =>
  hStore (.int .i64 r_4) ⟨b_8, 0, none⟩
    (hStore (.int .i64 r_5) ⟨b_8, 1, none⟩
    (hStore (.int .i64 r_6) ⟨b_8, 2, none⟩
    (hIf (!v_7)
    (R (.returned (.int .i64 4)))
    (hLoad (.int .i64) ⟨b_8, 0, none⟩ fun (v_9 : Int) =>
  hIf (v_9 != base_2)
    (R (.returned (.int .i64 4)))
    (hNil t_1 fun a_10 =>
  hLoad .slice (a_10.add 1) fun (v_11 : Sl) =>
  hIdx v_11.a v_11.n base_2 3 fun a_12 =>
  hStore (.int .i64 0) a_12
    (hStore (.int .i64 0) (a_12.add 1)
    (hStore (.int .i64 0) (a_12.add 2)
    (hNil t_1 fun a_13 =>
  hLoad .ptr a_13 fun (v_14 : Option Addr) =>
  hLoad (.int .i64) ⟨b_8, 1, none⟩ fun (v_15 : Int) =>
  hCall Tryd.prog 40 #[(.pointer v_14), (.int .i64 base_2), (.int .i64 v_15)] (fun ch => R (.panicked ch)) fun r_16 m => ∃ (v_17 : Int), r_16 = (.int .i64 v_17) ∧ (R (.returned (.int .i64 v_17))) m))))))))) m)
def ann13 : Ann := { loop := [], cut := [] }
theorem den13 (t_1 : Option Addr) (base_2 : Int) (R : Ending → HP → Prop) : denF Tryd.prog ann13 Tryd.f13.ntmps Tryd.f13.results.toList code13 [(.pointer t_1), (.int .i64 base_2)] R = F13 t_1 base_2 R := by kernel_rfl
theorem call13 : Callable Tryd.prog 13 := fun a w => Tryd.call13 a w
theorem F13_fn {t_1 : Option Addr} {base_2 : Int} {R : Ending → HP → Prop} {m : HP} (h : F13 t_1 base_2 R m) : Does Tryd.prog 13 #[(.pointer t_1), (.int .i64 base_2)] m R :=
  fn_of_den mixed (ann := ann13) Tryd.func13 call13 (c := code13) (by kernel_rfl) (by kernel_rfl) (args := [(.pointer t_1), (.int .i64 base_2)]) (Nat.le_of_ble_eq_true (by kernel_rfl)) (.inl (by kernel_rfl)) (by rw [den13]; exact h)
/-! (*treadle/span.Table).Find -/
noncomputable def code15 : Code := (Tryd.f15.body).getD .skip
def F15 (t_1 : Option Addr) (page_2 : Int) (R : Ending → HP → Prop) : HP → Prop :=
  hNew #[(.int .i64 0), (.int .i64 0), (.int .i64 0)] 34 fun b_3 =>
  hIf (Option.isNone t_1)
    (hStore (.int .i64 0) ⟨b_3, 0, none⟩
    (hStore (.int .i64 0) ⟨b_3, 1, none⟩
    (hStore (.int .i64 0) ⟨b_3, 2, none⟩
    (hLoad (.int .i64) ⟨b_3, 0, none⟩ fun (r_4 : Int) =>
  hLoad (.int .i64) ⟨b_3, 1, none⟩ fun (r_5 : Int) =>
  hLoad (.int .i64) ⟨b_3, 2, none⟩ fun (r_6 : Int) =>
  R (.returned (.tuple #[(.agg #[(.int .i64 r_4), (.int .i64 r_5), (.int .i64 r_6)]), (.bool false)]))))))
    (hIf (decide (page_2 < 0))
    (hStore (.int .i64 0) ⟨b_3, 0, none⟩
    (hStore (.int .i64 0) ⟨b_3, 1, none⟩
    (hStore (.int .i64 0) ⟨b_3, 2, none⟩
    (hLoad (.int .i64) ⟨b_3, 0, none⟩ fun (r_7 : Int) =>
  hLoad (.int .i64) ⟨b_3, 1, none⟩ fun (r_8 : Int) =>
  hLoad (.int .i64) ⟨b_3, 2, none⟩ fun (r_9 : Int) =>
  R (.returned (.tuple #[(.agg #[(.int .i64 r_7), (.int .i64 r_8), (.int .i64 r_9)]), (.bool false)]))))))
    (hNil t_1 fun a_10 =>
  hLoad .slice (a_10.add 2) fun (v_11 : Sl) =>
  hIf (decide (page_2 ≥ ((v_11.n : Nat) : Int)))
    (hStore (.int .i64 0) ⟨b_3, 0, none⟩
    (hStore (.int .i64 0) ⟨b_3, 1, none⟩
    (hStore (.int .i64 0) ⟨b_3, 2, none⟩
    (hLoad (.int .i64) ⟨b_3, 0, none⟩ fun (r_12 : Int) =>
  hLoad (.int .i64) ⟨b_3, 1, none⟩ fun (r_13 : Int) =>
  hLoad (.int .i64) ⟨b_3, 2, none⟩ fun (r_14 : Int) =>
  R (.returned (.tuple #[(.agg #[(.int .i64 r_12), (.int .i64 r_13), (.int .i64 r_14)]), (.bool false)]))))))
    (hNil t_1 fun a_15 =>
  hLoad .ptr a_15 fun (v_16 : Option Addr) =>
  hCall Tryd.prog 42 #[(.pointer v_16), (.int .i64 page_2)] (fun ch => R (.panicked ch)) fun r_17 m => ∃ (v_18 : Bool), r_17 = (.bool v_18) ∧ (hIf (!v_18)
    (hStore (.int .i64 0) ⟨b_3, 0, none⟩
    (hStore (.int .i64 0) ⟨b_3, 1, none⟩
    (hStore (.int .i64 0) ⟨b_3, 2, none⟩
    (hLoad (.int .i64) ⟨b_3, 0, none⟩ fun (r_19 : Int) =>
  hLoad (.int .i64) ⟨b_3, 1, none⟩ fun (r_20 : Int) =>
  hLoad (.int .i64) ⟨b_3, 2, none⟩ fun (r_21 : Int) =>
  R (.returned (.tuple #[(.agg #[(.int .i64 r_19), (.int .i64 r_20), (.int .i64 r_21)]), (.bool false)]))))))
    (hNil t_1 fun a_22 =>
  hLoad .slice (a_22.add 1) fun (v_23 : Sl) =>
  hNil t_1 fun a_24 =>
  hLoad .slice (a_24.add 2) fun (v_25 : Sl) =>
  hIdx v_25.a v_25.n page_2 1 fun a_26 =>
  hLoad (.int .i64) a_26 fun (v_27 : Int) =>
  hIdx v_23.a v_23.n v_27 3 fun a_28 =>
  hLoad (.int .i64) a_28 fun (v_29 : Int) =>
  hLoad (.int .i64) (a_28.add 1) fun (v_30 : Int) =>
  hLoad (.int .i64) (a_28.add 2) fun (v_31 : Int) =>
  hStore (.int .i64 v_29) ⟨b_3, 0, none⟩
    (hStore (.int .i64 v_30) ⟨b_3, 1, none⟩
    (hStore (.int .i64 v_31) ⟨b_3, 2, none⟩
    (hLoad (.int .i64) ⟨b_3, 0, none⟩ fun (r_32 : Int) =>
  hLoad (.int .i64) ⟨b_3, 1, none⟩ fun (r_33 : Int) =>
  hLoad (.int .i64) ⟨b_3, 2, none⟩ fun (r_34 : Int) =>
  R (.returned (.tuple #[(.agg #[(.int .i64 r_32), (.int .i64 r_33), (.int .i64 r_34)]), (.bool true)]))))))) m)))
def ann15 : Ann := { loop := [], cut := [] }
theorem den15 (t_1 : Option Addr) (page_2 : Int) (R : Ending → HP → Prop) : denF Tryd.prog ann15 Tryd.f15.ntmps Tryd.f15.results.toList code15 [(.pointer t_1), (.int .i64 page_2)] R = F15 t_1 page_2 R := by kernel_rfl
theorem call15 : Callable Tryd.prog 15 := fun a w => Tryd.call15 a w
theorem F15_fn {t_1 : Option Addr} {page_2 : Int} {R : Ending → HP → Prop} {m : HP} (h : F15 t_1 page_2 R m) : Does Tryd.prog 15 #[(.pointer t_1), (.int .i64 page_2)] m R :=
  fn_of_den mixed (ann := ann15) Tryd.func15 call15 (c := code15) (by kernel_rfl) (by kernel_rfl) (args := [(.pointer t_1), (.int .i64 page_2)]) (Nat.le_of_ble_eq_true (by kernel_rfl)) (.inl (by kernel_rfl)) (by rw [den15]; exact h)
/-! (*treadle/span.Table).Counts -/
noncomputable def code17 : Code := (Tryd.f17.body).getD .skip
def F17 (t_1 : Option Addr) (R : Ending → HP → Prop) : HP → Prop :=
  hIf (Option.isNone t_1)
    (R (.returned (.tuple #[(.int .i64 0), (.int .i64 0)])))
    (hNil t_1 fun a_2 =>
  hLoad .ptr a_2 fun (v_3 : Option Addr) =>
  hCall Tryd.prog 43 #[(.pointer v_3)] (fun ch => R (.panicked ch)) fun r_4 m => ∃ (v_5 : Int) (v_6 : Int), r_4 = (.tuple #[(.int .i64 v_5), (.int .i64 v_6)]) ∧ (R (.returned (.tuple #[(.int .i64 v_5), (.int .i64 v_6)]))) m)
def ann17 : Ann := { loop := [], cut := [] }
theorem den17 (t_1 : Option Addr) (R : Ending → HP → Prop) : denF Tryd.prog ann17 Tryd.f17.ntmps Tryd.f17.results.toList code17 [(.pointer t_1)] R = F17 t_1 R := by kernel_rfl
theorem call17 : Callable Tryd.prog 17 := fun a w => Tryd.call17 a w
theorem F17_fn {t_1 : Option Addr} {R : Ending → HP → Prop} {m : HP} (h : F17 t_1 R m) : Does Tryd.prog 17 #[(.pointer t_1)] m R :=
  fn_of_den mixed (ann := ann17) Tryd.func17 call17 (c := code17) (by kernel_rfl) (by kernel_rfl) (args := [(.pointer t_1)]) (Nat.le_of_ble_eq_true (by kernel_rfl)) (.inl (by kernel_rfl)) (by rw [den17]; exact h)
/-! (*treadle/span.Table).All -/
noncomputable def code45 : Code := (Tryd.f45.body).getD .skip
def F45 (t_1 : Option Addr) (R : Ending → HP → Prop) : HP → Prop :=
  hNew #[(.pointer t_1)] 23 fun b_2 =>
  R (.returned (.func (.func 67) #[] #[(.pointer (some ⟨b_2, 0, none⟩))]))
def ann45 : Ann := { loop := [], cut := [] }
theorem den45 (t_1 : Option Addr) (R : Ending → HP → Prop) : denF Tryd.prog ann45 Tryd.f45.ntmps Tryd.f45.results.toList code45 [(.pointer t_1)] R = F45 t_1 R := by kernel_rfl
theorem call45 : Callable Tryd.prog 45 := fun a w => Tryd.call45 a w
theorem F45_fn {t_1 : Option Addr} {R : Ending → HP → Prop} {m : HP} (h : F45 t_1 R m) : Does Tryd.prog 45 #[(.pointer t_1)] m R :=
  fn_of_den mixed (ann := ann45) Tryd.func45 call45 (c := code45) (by kernel_rfl) (by kernel_rfl) (args := [(.pointer t_1)]) (Nat.le_of_ble_eq_true (by kernel_rfl)) (.inl (by kernel_rfl)) (by rw [den45]; exact h)
/-! (*treadle/span.Table).All$1 -/
noncomputable def code67 : Code := (Tryd.f67.body).getD .skip
def F67_l2 (l : Nat) (c0_1 : Addr) (at_5 : Int) (again_4 : (Int × Unit) → HP → Prop) (R : Ending → HP → Prop) : HP → Prop :=
  hLoad .ptr c0_1 fun (v_6 : Option Addr) =>
  hNil v_6 fun a_7 =>
  hLoad .slice (a_7.add 1) fun (v_8 : Sl) =>
  hIf (decide (at_5 < ((v_8.n : Nat) : Int)))
    (hLoad .ptr c0_1 fun (v_9 : Option Addr) =>
  hNil v_9 fun a_10 =>
  hLoad .slice (a_10.add 1) fun (v_11 : Sl) =>
  hIdx v_11.a v_11.n at_5 3 fun a_12 =>
  hLoad (.int .i64) a_12 fun (v_13 : Int) =>
  hLoad (.int .i64) (a_12.add 1) fun (v_14 : Int) =>
  hLoad (.int .i64) (a_12.add 2) fun (v_15 : Int) =>
  hNew #[(.int .i64 0), (.int .i64 0), (.int .i64 0)] 34 fun b_16 =>
  hStore (.int .i64 v_13) ⟨b_16, 0, none⟩
    (hStore (.int .i64 v_14) ⟨b_16, 1, none⟩
    (hStore (.int .i64 v_15) ⟨b_16, 2, none⟩
    (hLoad (.int .i64) ⟨b_16, 0, none⟩ fun (v_17 : Int) =>
  hLoad (.int .i64) ⟨b_16, 1, none⟩ fun (v_18 : Int) =>
  hLoad (.int .i64) ⟨b_16, 2, none⟩ fun (v_19 : Int) =>
  hEq Tryd.prog .eql 34 (.tmp 21) (.tmp 22) (.agg #[(.int .i64 v_17), (.int .i64 v_18), (.int .i64 v_19)]) (.agg #[(.int .i64 0), (.int .i64 0), (.int .i64 0)]) fun e_20 =>
  hIf e_20
    (hInt .i64 (at_5 + 1) fun v_21 =>
  again_4 (v_21, ()))
    (hLoad (.int .i64) ⟨b_16, 0, none⟩ fun (v_22 : Int) =>
  hLoad (.int .i64) ⟨b_16, 1, none⟩ fun (v_23 : Int) =>
  hLoad (.int .i64) ⟨b_16, 2, none⟩ fun (v_24 : Int) =>
  hYield Tryd.prog l #[(.agg #[(.int .i64 v_22), (.int .i64 v_23), (.int .i64 v_24)])] (fun ch => R (.panicked ch)) fun r_25 m => ∃ (v_26 : Bool), r_25 = (.bool v_26) ∧ (hIf (!v_26)
    (R (.returned (.tuple #[])))
    (hLoad (.int .i64) ⟨b_16, 1, none⟩ fun (v_27 : Int) =>
  hInt .i64 (at_5 + v_27) fun v_28 =>
  again_4 (v_28, ()))) m)))))
    (R (.returned (.tuple #[])))
def F67 (l : Nat) (c0_1 : Addr) (R : Ending → HP → Prop) : HP → Prop :=
  hLoad .ptr c0_1 fun (v_2 : Option Addr) =>
  hIf (Option.isNone v_2)
    (R (.returned (.tuple #[])))
    (hLoop (α := Int × Unit) (0, ()) fun x_3 again_4 => hAll fun _ => F67_l2 l c0_1 x_3.1 again_4 R)
def ann67 : Ann := { loop := [(2, [(3, (Ty.int .i64))])], cut := [] }
theorem den67 (l : Nat) (c0_1 : Addr) (R : Ending → HP → Prop) : denF Tryd.prog ann67 Tryd.f67.ntmps Tryd.f67.results.toList code67 [(.func (.yield l) #[] #[]), (.pointer (some c0_1))] R = F67 l c0_1 R := by kernel_rfl
theorem call67 : Callable Tryd.prog 67 := fun a w => Tryd.call67 a w
theorem F67_fn {l : Nat} {c0_1 : Addr} {R : Ending → HP → Prop} {m : HP} (h : F67 l c0_1 R m) : Does Tryd.prog 67 #[(.func (.yield l) #[] #[]), (.pointer (some c0_1))] m R :=
  fn_of_den mixed (ann := ann67) Tryd.func67 call67 (c := code67) (by kernel_rfl) (by kernel_rfl) (args := [(.func (.yield l) #[] #[]), (.pointer (some c0_1))]) (Nat.le_of_ble_eq_true (by kernel_rfl)) (.inl (by kernel_rfl)) (by rw [den67]; exact h)
end Go.Proofs.YtolfcdjbchdkgaaDoor
/- The predicates of functions of the program, printed by a program of this session (wip/tools/prt.py) out of Lean's own print of the loaded functions. -/
namespace Go.Proofs.YtolfcdjbchdkgaaDoor
open Go Go.Hp
set_option maxRecDepth 100000
/-! math/bits.TrailingZeros64 -/
noncomputable def code51 : Code := (Tryd.f51.body).getD .skip
def F51 (x_1 : Int) (R : Ending → HP → Prop) : HP → Prop :=
  hIf (x_1 == 0)
    (R (.returned (.int .i64 64)))
    (hInt .u64 (0 - x_1) fun v_2 =>
  hInt .u64 ((bitv .and .u64 x_1 v_2) * 285870213051353865) fun v_3 =>
  hShr .u64 v_3 58 fun v_4 =>
  hIdx (some ⟨0, 0, none⟩) 64 v_4 1 fun a_5 =>
  hLoad (.int .u8) a_5 fun (v_6 : Int) =>
  hInt .i64 v_6 fun v_7 =>
  R (.returned (.int .i64 v_7)))
def ann51 : Ann := { loop := [], cut := [] }
theorem den51 (x_1 : Int) (R : Ending → HP → Prop) : denF Tryd.prog ann51 Tryd.f51.ntmps Tryd.f51.results.toList code51 [(.int .u64 x_1)] R = F51 x_1 R := by kernel_rfl
theorem call51 : Callable Tryd.prog 51 := fun a w => Tryd.call51 a w
theorem F51_fn {x_1 : Int} {R : Ending → HP → Prop} {m : HP} (h : F51 x_1 R m) : Does Tryd.prog 51 #[(.int .u64 x_1)] m R :=
  fn_of_den mixed (ann := ann51) Tryd.func51 call51 (c := code51) (by kernel_rfl) (by kernel_rfl) (args := [(.int .u64 x_1)]) (Nat.le_of_ble_eq_true (by kernel_rfl)) (.inl (by kernel_rfl)) (by rw [den51]; exact h)
/-! math/bits.OnesCount64 -/
noncomputable def code83 : Code := (Tryd.f83.body).getD .skip
def F83 (x_1 : Int) (R : Ending → HP → Prop) : HP → Prop :=
  hShr .u64 x_1 1 fun v_2 =>
  hInt .u64 ((bitv .and .u64 v_2 6148914691236517205) + (bitv .and .u64 x_1 6148914691236517205)) fun v_3 =>
  hShr .u64 v_3 2 fun v_4 =>
  hInt .u64 ((bitv .and .u64 v_4 3689348814741910323) + (bitv .and .u64 v_3 3689348814741910323)) fun v_5 =>
  hShr .u64 v_5 4 fun v_6 =>
  hInt .u64 (v_6 + v_5) fun v_7 =>
  hShr .u64 (bitv .and .u64 v_7 1085102592571150095) 8 fun v_8 =>
  hInt .u64 ((bitv .and .u64 v_7 1085102592571150095) + v_8) fun v_9 =>
  hShr .u64 v_9 16 fun v_10 =>
  hInt .u64 (v_9 + v_10) fun v_11 =>
  hShr .u64 v_11 32 fun v_12 =>
  hInt .u64 (v_11 + v_12) fun v_13 =>
  hInt .i64 v_13 fun v_14 =>
  R (.returned (.int .i64 (bitv .and .i64 v_14 127)))
def ann83 : Ann := { loop := [], cut := [] }
theorem den83 (x_1 : Int) (R : Ending → HP → Prop) : denF Tryd.prog ann83 Tryd.f83.ntmps Tryd.f83.results.toList code83 [(.int .u64 x_1)] R = F83 x_1 R := by kernel_rfl
theorem call83 : Callable Tryd.prog 83 := fun a w => Tryd.call83 a w
theorem F83_fn {x_1 : Int} {R : Ending → HP → Prop} {m : HP} (h : F83 x_1 R m) : Does Tryd.prog 83 #[(.int .u64 x_1)] m R :=
  fn_of_den mixed (ann := ann83) Tryd.func83 call83 (c := code83) (by kernel_rfl) (by kernel_rfl) (args := [(.int .u64 x_1)]) (Nat.le_of_ble_eq_true (by kernel_rfl)) (.inl (by kernel_rfl)) (by rw [den83]; exact h)
/-! math/bits.LeadingZeros64 -/
noncomputable def code88 : Code := (Tryd.f88.body).getD .skip
def F88 (x_1 : Int) (R : Ending → HP → Prop) : HP → Prop :=
  hCall Tryd.prog 89 #[(.int .u64 x_1)] (fun ch => R (.panicked ch)) fun r_2 m => ∃ (v_3 : Int), r_2 = (.int .i64 v_3) ∧ (hInt .i64 (64 - v_3) fun v_4 =>
  R (.returned (.int .i64 v_4))) m
def ann88 : Ann := { loop := [], cut := [] }
theorem den88 (x_1 : Int) (R : Ending → HP → Prop) : denF Tryd.prog ann88 Tryd.f88.ntmps Tryd.f88.results.toList code88 [(.int .u64 x_1)] R = F88 x_1 R := by kernel_rfl
theorem call88 : Callable Tryd.prog 88 := fun a w => Tryd.call88 a w
theorem F88_fn {x_1 : Int} {R : Ending → HP → Prop} {m : HP} (h : F88 x_1 R m) : Does Tryd.prog 88 #[(.int .u64 x_1)] m R :=
  fn_of_den mixed (ann := ann88) Tryd.func88 call88 (c := code88) (by kernel_rfl) (by kernel_rfl) (args := [(.int .u64 x_1)]) (Nat.le_of_ble_eq_true (by kernel_rfl)) (.inl (by kernel_rfl)) (by rw [den88]; exact h)
/-! math/bits.Len64 -/
noncomputable def code89 : Code := (Tryd.f89.body).getD .skip
def F89_j10 (x_17 : Int) (n_18 : Int) (R : Ending → HP → Prop) : HP → Prop :=
  hInt .u8 x_17 fun v_19 =>
  hByte ({data := #[0, 1, 2, 2, 3, 3, 3, 3, 4, 4, 4, 4, 4, 4, 4, 4, 5, 5, 5, 5, 5, 5, 5, 5, 5, 5, 5, 5, 5, 5, 5, 5, 6, 6, 6, 6, 6, 6, 6, 6, 6, 6, 6, 6, 6, 6, 6, 6, 6, 6, 6, 6, 6, 6, 6, 6, 6, 6, 6, 6, 6, 6, 6, 6, 7, 7, 7, 7, 7, 7, 7, 7, 7, 7, 7, 7, 7, 7, 7, 7, 7, 7, 7, 7, 7, 7, 7, 7, 7, 7, 7, 7, 7, 7, 7, 7, 7, 7, 7, 7, 7, 7, 7, 7, 7, 7, 7, 7, 7, 7, 7, 7, 7, 7, 7, 7, 7, 7, 7, 7, 7, 7, 7, 7, 7, 7, 7, 7, 8, 8, 8, 8, 8, 8, 8, 8, 8, 8, 8, 8, 8, 8, 8, 8, 8, 8, 8, 8, 8, 8, 8, 8, 8, 8, 8, 8, 8, 8, 8, 8, 8, 8, 8, 8, 8, 8, 8, 8, 8, 8, 8, 8, 8, 8, 8, 8, 8, 8, 8, 8, 8, 8, 8, 8, 8, 8, 8, 8, 8, 8, 8, 8, 8, 8, 8, 8, 8, 8, 8, 8, 8, 8, 8, 8, 8, 8, 8, 8, 8, 8, 8, 8, 8, 8, 8, 8, 8, 8, 8, 8, 8, 8, 8, 8, 8, 8, 8, 8, 8, 8, 8, 8, 8, 8, 8, 8, 8, 8, 8, 8, 8, 8, 8, 8, 8, 8, 8, 8, 8, 8, 8, 8, 8, 8, 8, 8]}) v_19 fun v_20 =>
  hInt .i64 v_20 fun v_21 =>
  hInt .i64 (n_18 + v_21) fun v_22 =>
  R (.returned (.int .i64 v_22))
def F89_j7 (x_11 : Int) (n_12 : Int) (R : Ending → HP → Prop) : HP → Prop :=
  hLet (α := Int × Int × Unit) (fun k_13 => hIf (decide (x_11 ≥ 256))
    (hShr .u64 x_11 8 fun v_14 =>
  hInt .i64 (n_12 + 8) fun v_15 =>
  k_13 (v_14, v_15, ()))
    (k_13 (x_11, n_12, ())))
    (fun x_16 => hAll fun _ => F89_j10 x_16.1 x_16.2.1 R)
def F89_j4 (x_5 : Int) (n_6 : Int) (R : Ending → HP → Prop) : HP → Prop :=
  hLet (α := Int × Int × Unit) (fun k_7 => hIf (decide (x_5 ≥ 65536))
    (hShr .u64 x_5 16 fun v_8 =>
  hInt .i64 (n_6 + 16) fun v_9 =>
  k_7 (v_8, v_9, ()))
    (k_7 (x_5, n_6, ())))
    (fun x_10 => hAll fun _ => F89_j7 x_10.1 x_10.2.1 R)
def F89 (x_1 : Int) (R : Ending → HP → Prop) : HP → Prop :=
  hLet (α := Int × Int × Unit) (fun k_2 => hIf (decide (x_1 ≥ 4294967296))
    (hShr .u64 x_1 32 fun v_3 =>
  k_2 (v_3, 32, ()))
    (k_2 (x_1, 0, ())))
    (fun x_4 => hAll fun _ => F89_j4 x_4.1 x_4.2.1 R)
def ann89 : Ann := { loop := [], cut := [(4, [(0, (Ty.int .u64)), (2, (Ty.int .i64))]), (7, [(0, (Ty.int .u64)), (2, (Ty.int .i64))]), (10, [(0, (Ty.int .u64)), (2, (Ty.int .i64))])] }
theorem den89 (x_1 : Int) (R : Ending → HP → Prop) : denF Tryd.prog ann89 Tryd.f89.ntmps Tryd.f89.results.toList code89 [(.int .u64 x_1)] R = F89 x_1 R := by kernel_rfl
theorem call89 : Callable Tryd.prog 89 := fun a w => Tryd.call89 a w
theorem F89_fn {x_1 : Int} {R : Ending → HP → Prop} {m : HP} (h : F89 x_1 R m) : Does Tryd.prog 89 #[(.int .u64 x_1)] m R :=
  fn_of_den mixed (ann := ann89) Tryd.func89 call89 (c := code89) (by kernel_rfl) (by kernel_rfl) (args := [(.int .u64 x_1)]) (Nat.le_of_ble_eq_true (by kernel_rfl)) (.inl (by kernel_rfl)) (by rw [den89]; exact h)
/-! treadle/pages.of -/
noncomputable def code78 : Code := (Tryd.f78.body).getD .skip
def F78_l3 (b_2 : Nat) (b_7 : Nat) (free_10 : Int) (again_9 : (Int × Unit) → HP → Prop) (R : Ending → HP → Prop) : HP → Prop :=
  hIf (free_10 != 0)
    (hLoad (.int .i64) ⟨b_7, 1, none⟩ fun (v_11 : Int) =>
  hInt .i64 (v_11 + 1) fun v_12 =>
  hStore (.int .i64 v_12) ⟨b_7, 1, none⟩
    (hShr .u64 free_10 1 fun v_13 =>
  again_9 ((bitv .and .u64 free_10 v_13), ())))
    (hLoad (.int .i64) ⟨b_7, 0, none⟩ fun (v_14 : Int) =>
  hLoad (.int .i64) ⟨b_7, 1, none⟩ fun (v_15 : Int) =>
  hLoad (.int .i64) ⟨b_7, 2, none⟩ fun (v_16 : Int) =>
  hLoad (.int .i64) ⟨b_7, 3, none⟩ fun (v_17 : Int) =>
  hStore (.int .i64 v_14) ⟨b_2, 0, none⟩
    (hStore (.int .i64 v_15) ⟨b_2, 1, none⟩
    (hStore (.int .i64 v_16) ⟨b_2, 2, none⟩
    (hStore (.int .i64 v_17) ⟨b_2, 3, none⟩
    (hLoad (.int .i64) ⟨b_2, 0, none⟩ fun (r_18 : Int) =>
  hLoad (.int .i64) ⟨b_2, 1, none⟩ fun (r_19 : Int) =>
  hLoad (.int .i64) ⟨b_2, 2, none⟩ fun (r_20 : Int) =>
  hLoad (.int .i64) ⟨b_2, 3, none⟩ fun (r_21 : Int) =>
  R (.returned (.agg #[(.int .i64 r_18), (.int .i64 r_19), (.int .i64 r_20), (.int .i64 r_21)])))))))
def F78 (w_1 : Int) (R : Ending → HP → Prop) : HP → Prop :=
  hNew #[(.int .i64 0), (.int .i64 0), (.int .i64 0), (.int .i64 0)] 131 fun b_2 =>
  hCall Tryd.prog 51 #[(.int .u64 w_1)] (fun ch => R (.panicked ch)) fun r_3 m => ∃ (v_4 : Int), r_3 = (.int .i64 v_4) ∧ (hCall Tryd.prog 88 #[(.int .u64 w_1)] (fun ch => R (.panicked ch)) fun r_5 m => ∃ (v_6 : Int), r_5 = (.int .i64 v_6) ∧ (hNew #[(.int .i64 0), (.int .i64 0), (.int .i64 0), (.int .i64 0)] 131 fun b_7 =>
  hStore (.int .i64 v_4) ⟨b_7, 0, none⟩
    (hStore (.int .i64 0) ⟨b_7, 1, none⟩
    (hStore (.int .i64 v_6) ⟨b_7, 2, none⟩
    (hStore (.int .i64 64) ⟨b_7, 3, none⟩
    (hLoop (α := Int × Unit) ((bitv .xor .u64 (IntKind.max .u64) w_1), ()) fun x_8 again_9 => hAll fun _ => F78_l3 b_2 b_7 x_8.1 again_9 R))))) m) m
def ann78 : Ann := { loop := [(3, [(4, (Ty.int .u64))])], cut := [] }
theorem den78 (w_1 : Int) (R : Ending → HP → Prop) : denF Tryd.prog ann78 Tryd.f78.ntmps Tryd.f78.results.toList code78 [(.int .u64 w_1)] R = F78 w_1 R := by kernel_rfl
theorem call78 : Callable Tryd.prog 78 := fun a w => Tryd.call78 a w
theorem F78_fn {w_1 : Int} {R : Ending → HP → Prop} {m : HP} (h : F78 w_1 R m) : Does Tryd.prog 78 #[(.int .u64 w_1)] m R :=
  fn_of_den mixed (ann := ann78) Tryd.func78 call78 (c := code78) (by kernel_rfl) (by kernel_rfl) (args := [(.int .u64 w_1)]) (Nat.le_of_ble_eq_true (by kernel_rfl)) (.inl (by kernel_rfl)) (by rw [den78]; exact h)
/-! treadle/pages.both -/
noncomputable def code79 : Code := (Tryd.f79.body).getD .skip
def F79_j6 (b_11 : Nat) (b_22 : Nat) (R : Ending → HP → Prop) : HP → Prop :=
  hLoad (.int .i64) ⟨b_22, 0, none⟩ fun (v_37 : Int) =>
  hLoad (.int .i64) ⟨b_22, 1, none⟩ fun (v_38 : Int) =>
  hLoad (.int .i64) ⟨b_22, 2, none⟩ fun (v_39 : Int) =>
  hLoad (.int .i64) ⟨b_22, 3, none⟩ fun (v_40 : Int) =>
  hStore (.int .i64 v_37) ⟨b_11, 0, none⟩
    (hStore (.int .i64 v_38) ⟨b_11, 1, none⟩
    (hStore (.int .i64 v_39) ⟨b_11, 2, none⟩
    (hStore (.int .i64 v_40) ⟨b_11, 3, none⟩
    (hLoad (.int .i64) ⟨b_11, 0, none⟩ fun (r_41 : Int) =>
  hLoad (.int .i64) ⟨b_11, 1, none⟩ fun (r_42 : Int) =>
  hLoad (.int .i64) ⟨b_11, 2, none⟩ fun (r_43 : Int) =>
  hLoad (.int .i64) ⟨b_11, 3, none⟩ fun (r_44 : Int) =>
  R (.returned (.agg #[(.int .i64 r_41), (.int .i64 r_42), (.int .i64 r_43), (.int .i64 r_44)]))))))
def F79_j4 (b_9 : Nat) (b_10 : Nat) (b_11 : Nat) (b_22 : Nat) (R : Ending → HP → Prop) : HP → Prop :=
  hLet (α := Unit) (fun k_30 => hLoad (.int .i64) ⟨b_10, 2, none⟩ fun (v_31 : Int) =>
  hLoad (.int .i64) ⟨b_10, 3, none⟩ fun (v_32 : Int) =>
  hIf (v_31 == v_32)
    (hLoad (.int .i64) ⟨b_22, 2, none⟩ fun (v_33 : Int) =>
  hLoad (.int .i64) ⟨b_9, 2, none⟩ fun (v_34 : Int) =>
  hInt .i64 (v_33 + v_34) fun v_35 =>
  hStore (.int .i64 v_35) ⟨b_22, 2, none⟩
    (k_30 (())))
    (k_30 (())))
    (fun x_36 => hAll fun _ => F79_j6 b_11 b_22 R)
def F79 (a_1 : Int) (a_2 : Int) (a_3 : Int) (a_4 : Int) (b_5 : Int) (b_6 : Int) (b_7 : Int) (b_8 : Int) (R : Ending → HP → Prop) : HP → Prop :=
  hNew #[(.int .i64 a_1), (.int .i64 a_2), (.int .i64 a_3), (.int .i64 a_4)] 131 fun b_9 =>
  hNew #[(.int .i64 b_5), (.int .i64 b_6), (.int .i64 b_7), (.int .i64 b_8)] 131 fun b_10 =>
  hNew #[(.int .i64 0), (.int .i64 0), (.int .i64 0), (.int .i64 0)] 131 fun b_11 =>
  hLoad (.int .i64) ⟨b_9, 0, none⟩ fun (v_12 : Int) =>
  hLoad (.int .i64) ⟨b_9, 1, none⟩ fun (v_13 : Int) =>
  hLoad (.int .i64) ⟨b_10, 1, none⟩ fun (v_14 : Int) =>
  hLoad (.int .i64) ⟨b_9, 2, none⟩ fun (v_15 : Int) =>
  hLoad (.int .i64) ⟨b_10, 0, none⟩ fun (v_16 : Int) =>
  hInt .i64 (v_15 + v_16) fun v_17 =>
  hLoad (.int .i64) ⟨b_10, 2, none⟩ fun (v_18 : Int) =>
  hLoad (.int .i64) ⟨b_9, 3, none⟩ fun (v_19 : Int) =>
  hLoad (.int .i64) ⟨b_10, 3, none⟩ fun (v_20 : Int) =>
  hInt .i64 (v_19 + v_20) fun v_21 =>
  hNew #[(.int .i64 0), (.int .i64 0), (.int .i64 0), (.int .i64 0)] 131 fun b_22 =>
  hStore (.int .i64 v_12) ⟨b_22, 0, none⟩
    (hStore (.int .i64 (if v_17 > (if v_14 > v_13 then v_14 else v_13) then v_17 else (if v_14 > v_13 then v_14 else v_13))) ⟨b_22, 1, none⟩
    (hStore (.int .i64 v_18) ⟨b_22, 2, none⟩
    (hStore (.int .i64 v_21) ⟨b_22, 3, none⟩
    (hLet (α := Unit) (fun k_23 => hLoad (.int .i64) ⟨b_9, 0, none⟩ fun (v_24 : Int) =>
  hLoad (.int .i64) ⟨b_9, 3, none⟩ fun (v_25 : Int) =>
  hIf (v_24 == v_25)
    (hLoad (.int .i64) ⟨b_22, 0, none⟩ fun (v_26 : Int) =>
  hLoad (.int .i64) ⟨b_10, 0, none⟩ fun (v_27 : Int) =>
  hInt .i64 (v_26 + v_27) fun v_28 =>
  hStore (.int .i64 v_28) ⟨b_22, 0, none⟩
    (k_23 (())))
    (k_23 (())))
    (fun x_29 => hAll fun _ => F79_j4 b_9 b_10 b_11 b_22 R)))))
def ann79 : Ann := { loop := [], cut := [(4, []), (6, [])] }
theorem den79 (a_1 : Int) (a_2 : Int) (a_3 : Int) (a_4 : Int) (b_5 : Int) (b_6 : Int) (b_7 : Int) (b_8 : Int) (R : Ending → HP → Prop) : denF Tryd.prog ann79 Tryd.f79.ntmps Tryd.f79.results.toList code79 [(.agg #[(.int .i64 a_1), (.int .i64 a_2), (.int .i64 a_3), (.int .i64 a_4)]), (.agg #[(.int .i64 b_5), (.int .i64 b_6), (.int .i64 b_7), (.int .i64 b_8)])] R = F79 a_1 a_2 a_3 a_4 b_5 b_6 b_7 b_8 R := by kernel_rfl
theorem call79 : Callable Tryd.prog 79 := fun a w => Tryd.call79 a w
theorem F79_fn {a_1 : Int} {a_2 : Int} {a_3 : Int} {a_4 : Int} {b_5 : Int} {b_6 : Int} {b_7 : Int} {b_8 : Int} {R : Ending → HP → Prop} {m : HP} (h : F79 a_1 a_2 a_3 a_4 b_5 b_6 b_7 b_8 R m) : Does Tryd.prog 79 #[(.agg #[(.int .i64 a_1), (.int .i64 a_2), (.int .i64 a_3), (.int .i64 a_4)]), (.agg #[(.int .i64 b_5), (.int .i64 b_6), (.int .i64 b_7), (.int .i64 b_8)])] m R :=
  fn_of_den mixed (ann := ann79) Tryd.func79 call79 (c := code79) (by kernel_rfl) (by kernel_rfl) (args := [(.agg #[(.int .i64 a_1), (.int .i64 a_2), (.int .i64 a_3), (.int .i64 a_4)]), (.agg #[(.int .i64 b_5), (.int .i64 b_6), (.int .i64 b_7), (.int .i64 b_8)])]) (Nat.le_of_ble_eq_true (by kernel_rfl)) (.inl (by kernel_rfl)) (by rw [den79]; exact h)
/-! treadle/pages.within -/
noncomputable def code80 : Code := (Tryd.f80.body).getD .skip
def F80_l3 (v_3 : Int) (free_6 : Int) (t10_7 : Int) (again_5 : (Int × Int × Unit) → HP → Prop) (R : Ending → HP → Prop) : HP → Prop :=
  hIf (decide (t10_7 < v_3))
    (hShr .u64 free_6 1 fun v_8 =>
  hInt .i64 (t10_7 + 1) fun v_9 =>
  again_5 ((bitv .and .u64 free_6 v_8), v_9, ()))
    (hCall Tryd.prog 51 #[(.int .u64 free_6)] (fun ch => R (.panicked ch)) fun r_10 m => ∃ (v_11 : Int), r_10 = (.int .i64 v_11) ∧ (R (.returned (.int .i64 v_11))) m)
def F80 (w_1 : Int) (n_2 : Int) (R : Ending → HP → Prop) : HP → Prop :=
  hInt .i64 (n_2 - 1) fun v_3 =>
  hLoop (α := Int × Int × Unit) ((bitv .xor .u64 (IntKind.max .u64) w_1), 0, ()) fun x_4 again_5 => hAll fun _ => F80_l3 v_3 x_4.1 x_4.2.1 again_5 R
def ann80 : Ann := { loop := [(3, [(5, (Ty.int .u64)), (10, (Ty.int .i64))])], cut := [] }
theorem den80 (w_1 : Int) (n_2 : Int) (R : Ending → HP → Prop) : denF Tryd.prog ann80 Tryd.f80.ntmps Tryd.f80.results.toList code80 [(.int .u64 w_1), (.int .i64 n_2)] R = F80 w_1 n_2 R := by kernel_rfl
theorem call80 : Callable Tryd.prog 80 := fun a w => Tryd.call80 a w
theorem F80_fn {w_1 : Int} {n_2 : Int} {R : Ending → HP → Prop} {m : HP} (h : F80 w_1 n_2 R m) : Does Tryd.prog 80 #[(.int .u64 w_1), (.int .i64 n_2)] m R :=
  fn_of_den mixed (ann := ann80) Tryd.func80 call80 (c := code80) (by kernel_rfl) (by kernel_rfl) (args := [(.int .u64 w_1), (.int .i64 n_2)]) (Nat.le_of_ble_eq_true (by kernel_rfl)) (.inl (by kernel_rfl)) (by rw [den80]; exact h)
/-! (*treadle/pages.Pages).outside -/
noncomputable def code81 : Code := (Tryd.f81.body).getD .skip
def F81 (p_1 : Option Addr) (base_2 : Int) (n_3 : Int) (R : Ending → HP → Prop) : HP → Prop :=
  hIf (decide (base_2 < 0))
    (R (.returned (.bool true)))
    (hIf (decide (n_3 < 1))
    (R (.returned (.bool true)))
    (hNil p_1 fun a_4 =>
  hLoad (.int .i64) a_4 fun (v_5 : Int) =>
  hIf (decide (base_2 ≥ v_5))
    (R (.returned (.bool true)))
    (hNil p_1 fun a_6 =>
  hLoad (.int .i64) a_6 fun (v_7 : Int) =>
  hInt .i64 (v_7 - base_2) fun v_8 =>
  R (.returned (.bool (decide (n_3 > v_8)))))))
def ann81 : Ann := { loop := [], cut := [] }
theorem den81 (p_1 : Option Addr) (base_2 : Int) (n_3 : Int) (R : Ending → HP → Prop) : denF Tryd.prog ann81 Tryd.f81.ntmps Tryd.f81.results.toList code81 [(.pointer p_1), (.int .i64 base_2), (.int .i64 n_3)] R = F81 p_1 base_2 n_3 R := by kernel_rfl
theorem call81 : Callable Tryd.prog 81 := fun a w => Tryd.call81 a w
theorem F81_fn {p_1 : Option Addr} {base_2 : Int} {n_3 : Int} {R : Ending → HP → Prop} {m : HP} (h : F81 p_1 base_2 n_3 R m) : Does Tryd.prog 81 #[(.pointer p_1), (.int .i64 base_2), (.int .i64 n_3)] m R :=
  fn_of_den mixed (ann := ann81) Tryd.func81 call81 (c := code81) (by kernel_rfl) (by kernel_rfl) (args := [(.pointer p_1), (.int .i64 base_2), (.int .i64 n_3)]) (Nat.le_of_ble_eq_true (by kernel_rfl)) (.inl (by kernel_rfl)) (by rw [den81]; exact h)
/-! (*treadle/pages.Pages).renew -/
noncomputable def code61 : Code := (Tryd.f61.body).getD .skip
def F61_l7 (p_1 : Option Addr) (level_22 : Int) (v_25 : Int) (b_26 : Nat) (v_40 : Sl) (again_20 : (Int × Int × Unit) → HP → Prop) (t60_43 : Int) (again_42 : (Int × Unit) → HP → Prop) (R : Ending → HP → Prop) : HP → Prop :=
  hIf (decide (t60_43 < ((v_40.n : Nat) : Int)))
    (hIdx v_40.a v_40.n t60_43 4 fun a_44 =>
  hLoad (.int .i64) a_44 fun (v_45 : Int) =>
  hLoad (.int .i64) (a_44.add 1) fun (v_46 : Int) =>
  hLoad (.int .i64) (a_44.add 2) fun (v_47 : Int) =>
  hLoad (.int .i64) (a_44.add 3) fun (v_48 : Int) =>
  hNew #[(.int .i64 0), (.int .i64 0), (.int .i64 0), (.int .i64 0)] 131 fun b_49 =>
  hStore (.int .i64 v_45) ⟨b_49, 0, none⟩
    (hStore (.int .i64 v_46) ⟨b_49, 1, none⟩
    (hStore (.int .i64 v_47) ⟨b_49, 2, none⟩
    (hStore (.int .i64 v_48) ⟨b_49, 3, none⟩
    (hLoad (.int .i64) ⟨b_26, 0, none⟩ fun (v_50 : Int) =>
  hLoad (.int .i64) ⟨b_26, 1, none⟩ fun (v_51 : Int) =>
  hLoad (.int .i64) ⟨b_26, 2, none⟩ fun (v_52 : Int) =>
  hLoad (.int .i64) ⟨b_26, 3, none⟩ fun (v_53 : Int) =>
  hLoad (.int .i64) ⟨b_49, 0, none⟩ fun (v_54 : Int) =>
  hLoad (.int .i64) ⟨b_49, 1, none⟩ fun (v_55 : Int) =>
  hLoad (.int .i64) ⟨b_49, 2, none⟩ fun (v_56 : Int) =>
  hLoad (.int .i64) ⟨b_49, 3, none⟩ fun (v_57 : Int) =>
  hCall Tryd.prog 79 #[(.agg #[(.int .i64 v_50), (.int .i64 v_51), (.int .i64 v_52), (.int .i64 v_53)]), (.agg #[(.int .i64 v_54), (.int .i64 v_55), (.int .i64 v_56), (.int .i64 v_57)])] (fun ch => R (.panicked ch)) fun r_58 m => ∃ (r_59 : Int) (r_60 : Int) (r_61 : Int) (r_62 : Int), r_58 = (.agg #[(.int .i64 r_59), (.int .i64 r_60), (.int .i64 r_61), (.int .i64 r_62)]) ∧ (hStore (.int .i64 r_59) ⟨b_26, 0, none⟩
    (hStore (.int .i64 r_60) ⟨b_26, 1, none⟩
    (hStore (.int .i64 r_61) ⟨b_26, 2, none⟩
    (hStore (.int .i64 r_62) ⟨b_26, 3, none⟩
    (hInt .i64 (t60_43 + 1) fun v_63 =>
  again_42 (v_63, ())))))) m)))))
    (hNil p_1 fun a_64 =>
  hLoad .slice (a_64.add 2) fun (v_65 : Sl) =>
  hIdx v_65.a v_65.n level_22 1 fun a_66 =>
  hLoad .slice a_66 fun (v_67 : Sl) =>
  hLoad (.int .i64) ⟨b_26, 0, none⟩ fun (v_68 : Int) =>
  hLoad (.int .i64) ⟨b_26, 1, none⟩ fun (v_69 : Int) =>
  hLoad (.int .i64) ⟨b_26, 2, none⟩ fun (v_70 : Int) =>
  hLoad (.int .i64) ⟨b_26, 3, none⟩ fun (v_71 : Int) =>
  hIdx v_67.a v_67.n v_25 4 fun a_72 =>
  hStore (.int .i64 v_68) a_72
    (hStore (.int .i64 v_69) (a_72.add 1)
    (hStore (.int .i64 v_70) (a_72.add 2)
    (hStore (.int .i64 v_71) (a_72.add 3)
    (hInt .i64 (level_22 + 1) fun v_73 =>
  again_20 (v_25, v_73, ()))))))
def F61_l2 (p_1 : Option Addr) (i_21 : Int) (level_22 : Int) (again_20 : (Int × Int × Unit) → HP → Prop) (R : Ending → HP → Prop) : HP → Prop :=
  hNil p_1 fun a_23 =>
  hLoad .slice (a_23.add 2) fun (v_24 : Sl) =>
  hIf (decide (level_22 < ((v_24.n : Nat) : Int)))
    (hQuo .i64 i_21 8 fun v_25 =>
  hNew #[(.int .i64 0), (.int .i64 0), (.int .i64 0), (.int .i64 0)] 131 fun b_26 =>
  hNil p_1 fun a_27 =>
  hLoad .slice (a_27.add 2) fun (v_28 : Sl) =>
  hInt .i64 (level_22 - 1) fun v_29 =>
  hIdx v_28.a v_28.n v_29 1 fun a_30 =>
  hLoad .slice a_30 fun (v_31 : Sl) =>
  hInt .i64 (8 * v_25) fun v_32 =>
  hInt .i64 (8 * v_25) fun v_33 =>
  hInt .i64 (v_33 + 8) fun v_34 =>
  hNil p_1 fun a_35 =>
  hLoad .slice (a_35.add 2) fun (v_36 : Sl) =>
  hInt .i64 (level_22 - 1) fun v_37 =>
  hIdx v_36.a v_36.n v_37 1 fun a_38 =>
  hLoad .slice a_38 fun (v_39 : Sl) =>
  hCut v_31.a v_31.cap v_32 (if ((v_39.n : Nat) : Int) < v_34 then ((v_39.n : Nat) : Int) else v_34) 4 fun v_40 =>
  hLoop (α := Int × Unit) (0, ()) fun x_41 again_42 => hAll fun _ => F61_l7 p_1 level_22 v_25 b_26 v_40 again_20 x_41.1 again_42 R)
    (R (.returned (.tuple #[])))
def F61 (p_1 : Option Addr) (i_2 : Int) (R : Ending → HP → Prop) : HP → Prop :=
  hNil p_1 fun a_3 =>
  hLoad .slice (a_3.add 2) fun (v_4 : Sl) =>
  hIdx v_4.a v_4.n 0 1 fun a_5 =>
  hLoad .slice a_5 fun (v_6 : Sl) =>
  hNil p_1 fun a_7 =>
  hLoad .slice (a_7.add 1) fun (v_8 : Sl) =>
  hIdx v_8.a v_8.n i_2 1 fun a_9 =>
  hLoad (.int .u64) a_9 fun (v_10 : Int) =>
  hCall Tryd.prog 78 #[(.int .u64 v_10)] (fun ch => R (.panicked ch)) fun r_11 m => ∃ (r_12 : Int) (r_13 : Int) (r_14 : Int) (r_15 : Int), r_11 = (.agg #[(.int .i64 r_12), (.int .i64 r_13), (.int .i64 r_14), (.int .i64 r_15)]) ∧ (hLoad .slice (a_3.add 2) fun (v_16 : Sl) =>
  fun m => ((.slice v_16.a v_16.n v_16.cap) : Value) = (.slice v_4.a v_4.n v_4.cap) ∧ (hLoad .slice a_5 fun (v_17 : Sl) =>
  fun m => ((.slice v_17.a v_17.n v_17.cap) : Value) = (.slice v_6.a v_6.n v_6.cap) ∧ (hIdx v_6.a v_6.n i_2 4 fun a_18 =>
  hStore (.int .i64 r_12) a_18
    (hStore (.int .i64 r_13) (a_18.add 1)
    (hStore (.int .i64 r_14) (a_18.add 2)
    (hStore (.int .i64 r_15) (a_18.add 3)
    (hLoop (α := Int × Int × Unit) (i_2, 1, ()) fun x_19 again_20 => hAll fun _ => F61_l2 p_1 x_19.1 x_19.2.1 again_20 R))))) m) m) m
def ann61 : Ann := { loop := [(2, [(1, (Ty.int .i64)), (4, (Ty.int .i64))]), (7, [(60, (Ty.int .i64))])], cut := [] }
theorem den61 (p_1 : Option Addr) (i_2 : Int) (R : Ending → HP → Prop) : denF Tryd.prog ann61 Tryd.f61.ntmps Tryd.f61.results.toList code61 [(.pointer p_1), (.int .i64 i_2)] R = F61 p_1 i_2 R := by kernel_rfl
theorem call61 : Callable Tryd.prog 61 := fun a w => Tryd.call61 a w
theorem F61_fn {p_1 : Option Addr} {i_2 : Int} {R : Ending → HP → Prop} {m : HP} (h : F61 p_1 i_2 R m) : Does Tryd.prog 61 #[(.pointer p_1), (.int .i64 i_2)] m R :=
  fn_of_den mixed (ann := ann61) Tryd.func61 call61 (c := code61) (by kernel_rfl) (by kernel_rfl) (args := [(.pointer p_1), (.int .i64 i_2)]) (Nat.le_of_ble_eq_true (by kernel_rfl)) (.inl (by kernel_rfl)) (by rw [den61]; exact h)
/-! (*treadle/pages.Pages).first -/
noncomputable def code62 : Code := (Tryd.f62.body).getD .skip
def F62_j16 (t33_17 : Int) (again_15 : (Int × Int × Unit) → HP → Prop) (run_44 : Int) (R : Ending → HP → Prop) : HP → Prop :=
  hInt .i64 (t33_17 + 1) fun v_45 =>
  again_15 (run_44, v_45, ())
def F62_l6 (p_1 : Option Addr) (n_2 : Int) (v_13 : Sl) (run_16 : Int) (t33_17 : Int) (again_15 : (Int × Int × Unit) → HP → Prop) (R : Ending → HP → Prop) : HP → Prop :=
  hIf (decide (t33_17 < ((v_13.n : Nat) : Int)))
    (hLet (α := Int × Unit) (fun k_18 => hIdx v_13.a v_13.n t33_17 1 fun a_19 =>
  hLoad (.int .u64) a_19 fun (v_20 : Int) =>
  hNil p_1 fun a_21 =>
  hLoad .slice (a_21.add 2) fun (v_22 : Sl) =>
  hIdx v_22.a v_22.n 0 1 fun a_23 =>
  hLoad .slice a_23 fun (v_24 : Sl) =>
  hIdx v_24.a v_24.n t33_17 4 fun a_25 =>
  hLoad (.int .i64) a_25 fun (v_26 : Int) =>
  hLoad (.int .i64) (a_25.add 1) fun (v_27 : Int) =>
  hLoad (.int .i64) (a_25.add 2) fun (v_28 : Int) =>
  hLoad (.int .i64) (a_25.add 3) fun (v_29 : Int) =>
  hNew #[(.int .i64 0), (.int .i64 0), (.int .i64 0), (.int .i64 0)] 131 fun b_30 =>
  hStore (.int .i64 v_26) ⟨b_30, 0, none⟩
    (hStore (.int .i64 v_27) ⟨b_30, 1, none⟩
    (hStore (.int .i64 v_28) ⟨b_30, 2, none⟩
    (hStore (.int .i64 v_29) ⟨b_30, 3, none⟩
    (hLoad (.int .i64) ⟨b_30, 0, none⟩ fun (v_31 : Int) =>
  hInt .i64 (run_16 + v_31) fun v_32 =>
  hIf (decide (v_32 ≥ n_2))
    (hInt .i64 (t33_17 * 64) fun v_33 =>
  hInt .i64 (v_33 - run_16) fun v_34 =>
  R (.returned (.int .i64 v_34)))
    (hLoad (.int .i64) ⟨b_30, 1, none⟩ fun (v_35 : Int) =>
  hIf (decide (v_35 ≥ n_2))
    (hInt .i64 (t33_17 * 64) fun v_36 =>
  hCall Tryd.prog 80 #[(.int .u64 v_20), (.int .i64 n_2)] (fun ch => R (.panicked ch)) fun r_37 m => ∃ (v_38 : Int), r_37 = (.int .i64 v_38) ∧ (hInt .i64 (v_36 + v_38) fun v_39 =>
  R (.returned (.int .i64 v_39))) m)
    (hLoad (.int .i64) ⟨b_30, 0, none⟩ fun (v_40 : Int) =>
  hIf (v_40 == 64)
    (hInt .i64 (run_16 + 64) fun v_41 =>
  k_18 (v_41, ()))
    (hLoad (.int .i64) ⟨b_30, 2, none⟩ fun (v_42 : Int) =>
  k_18 (v_42, ())))))))))
    (fun x_43 => hAll fun _ => F62_j16 t33_17 again_15 x_43.1 R))
    (R (.returned (.int .i64 (-1))))
def F62 (p_1 : Option Addr) (n_2 : Int) (R : Ending → HP → Prop) : HP → Prop :=
  hNil p_1 fun a_3 =>
  hLoad .slice (a_3.add 2) fun (v_4 : Sl) =>
  hNil p_1 fun a_5 =>
  hLoad .slice (a_5.add 2) fun (v_6 : Sl) =>
  hInt .i64 (((v_6.n : Nat) : Int) - 1) fun v_7 =>
  hIdx v_4.a v_4.n v_7 1 fun a_8 =>
  hLoad .slice a_8 fun (v_9 : Sl) =>
  hIdx v_9.a v_9.n 0 4 fun a_10 =>
  hLoad (.int .i64) (a_10.add 1) fun (v_11 : Int) =>
  hIf (decide (v_11 < n_2))
    (R (.returned (.int .i64 (-1))))
    (hNil p_1 fun a_12 =>
  hLoad .slice (a_12.add 1) fun (v_13 : Sl) =>
  hLoop (α := Int × Int × Unit) (0, 0, ()) fun x_14 again_15 => hAll fun _ => F62_l6 p_1 n_2 v_13 x_14.1 x_14.2.1 again_15 R)
def ann62 : Ann := { loop := [(6, [(6, (Ty.int .i64)), (33, (Ty.int .i64))])], cut := [(16, [(6, (Ty.int .i64))])] }
theorem den62 (p_1 : Option Addr) (n_2 : Int) (R : Ending → HP → Prop) : denF Tryd.prog ann62 Tryd.f62.ntmps Tryd.f62.results.toList code62 [(.pointer p_1), (.int .i64 n_2)] R = F62 p_1 n_2 R := by kernel_rfl
theorem call62 : Callable Tryd.prog 62 := fun a w => Tryd.call62 a w
theorem F62_fn {p_1 : Option Addr} {n_2 : Int} {R : Ending → HP → Prop} {m : HP} (h : F62 p_1 n_2 R m) : Does Tryd.prog 62 #[(.pointer p_1), (.int .i64 n_2)] m R :=
  fn_of_den mixed (ann := ann62) Tryd.func62 call62 (c := code62) (by kernel_rfl) (by kernel_rfl) (args := [(.pointer p_1), (.int .i64 n_2)]) (Nat.le_of_ble_eq_true (by kernel_rfl)) (.inl (by kernel_rfl)) (by rw [den62]; exact h)
/-! (*treadle/pages.Pages).set -/
noncomputable def code63 : Code := (Tryd.f63.body).getD .skip
def F63_j8 (p_1 : Option Addr) (at_7 : Int) (v_9 : Int) (v_10 : Int) (v_13 : Int) (again_6 : (Int × Unit) → HP → Prop) (R : Ending → HP → Prop) : HP → Prop :=
  hCall Tryd.prog 61 #[(.pointer p_1), (.int .i64 v_9)] (fun ch => R (.panicked ch)) fun _ =>
  hInt .i64 ((if v_13 < 64 then v_13 else 64) - v_10) fun v_30 =>
  hInt .i64 (at_7 + v_30) fun v_31 =>
  again_6 (v_31, ())
def F63_l1 (p_1 : Option Addr) (base_2 : Int) (n_3 : Int) (used_4 : Bool) (at_7 : Int) (again_6 : (Int × Unit) → HP → Prop) (R : Ending → HP → Prop) : HP → Prop :=
  hInt .i64 (base_2 + n_3) fun v_8 =>
  hIf (decide (at_7 < v_8))
    (hQuo .i64 at_7 64 fun v_9 =>
  hRem at_7 64 fun v_10 =>
  hInt .i64 (v_10 + base_2) fun v_11 =>
  hInt .i64 (v_11 + n_3) fun v_12 =>
  hInt .i64 (v_12 - at_7) fun v_13 =>
  hShl .u64 18446744073709551615 v_10 fun v_14 =>
  hInt .i64 (64 - (if v_13 < 64 then v_13 else 64)) fun v_15 =>
  hShr .u64 18446744073709551615 v_15 fun v_16 =>
  hLet (α := Unit) (fun k_17 => hIf used_4
    (hNil p_1 fun a_18 =>
  hLoad .slice (a_18.add 1) fun (v_19 : Sl) =>
  hIdx v_19.a v_19.n v_9 1 fun a_20 =>
  hLoad (.int .u64) a_20 fun (v_21 : Int) =>
  hIdx v_19.a v_19.n v_9 1 fun a_22 =>
  hStore (.int .u64 (bitv .or .u64 v_21 (bitv .and .u64 v_14 v_16))) a_22
    (k_17 (())))
    (hNil p_1 fun a_23 =>
  hLoad .slice (a_23.add 1) fun (v_24 : Sl) =>
  hIdx v_24.a v_24.n v_9 1 fun a_25 =>
  hLoad (.int .u64) a_25 fun (v_26 : Int) =>
  hIdx v_24.a v_24.n v_9 1 fun a_27 =>
  hStore (.int .u64 (bitv .andNot .u64 v_26 (bitv .and .u64 v_14 v_16))) a_27
    (k_17 (()))))
    (fun x_28 => hAll fun _ => F63_j8 p_1 at_7 v_9 v_10 v_13 again_6 R))
    (R (.returned (.tuple #[])))
def F63 (p_1 : Option Addr) (base_2 : Int) (n_3 : Int) (used_4 : Bool) (R : Ending → HP → Prop) : HP → Prop :=
  hLoop (α := Int × Unit) (base_2, ()) fun x_5 again_6 => hAll fun _ => F63_l1 p_1 base_2 n_3 used_4 x_5.1 again_6 R
def ann63 : Ann := { loop := [(1, [(8, (Ty.int .i64))])], cut := [(8, [])] }
theorem den63 (p_1 : Option Addr) (base_2 : Int) (n_3 : Int) (used_4 : Bool) (R : Ending → HP → Prop) : denF Tryd.prog ann63 Tryd.f63.ntmps Tryd.f63.results.toList code63 [(.pointer p_1), (.int .i64 base_2), (.int .i64 n_3), (.bool used_4)] R = F63 p_1 base_2 n_3 used_4 R := by kernel_rfl
theorem call63 : Callable Tryd.prog 63 := fun a w => Tryd.call63 a w
theorem F63_fn {p_1 : Option Addr} {base_2 : Int} {n_3 : Int} {used_4 : Bool} {R : Ending → HP → Prop} {m : HP} (h : F63 p_1 base_2 n_3 used_4 R m) : Does Tryd.prog 63 #[(.pointer p_1), (.int .i64 base_2), (.int .i64 n_3), (.bool used_4)] m R :=
  fn_of_den mixed (ann := ann63) Tryd.func63 call63 (c := code63) (by kernel_rfl) (by kernel_rfl) (args := [(.pointer p_1), (.int .i64 base_2), (.int .i64 n_3), (.bool used_4)]) (Nat.le_of_ble_eq_true (by kernel_rfl)) (.inl (by kernel_rfl)) (by rw [den63]; exact h)
/-! (*treadle/pages.Pages).Used -/
noncomputable def code42 : Code := (Tryd.f42.body).getD .skip
def F42 (p_1 : Option Addr) (at_2 : Int) (R : Ending → HP → Prop) : HP → Prop :=
  hIf (Option.isNone p_1)
    (R (.returned (.bool true)))
    (hIf (decide (at_2 < 0))
    (R (.returned (.bool true)))
    (hNil p_1 fun a_3 =>
  hLoad (.int .i64) a_3 fun (v_4 : Int) =>
  hIf (decide (at_2 ≥ v_4))
    (R (.returned (.bool true)))
    (hNil p_1 fun a_5 =>
  hLoad .slice (a_5.add 1) fun (v_6 : Sl) =>
  hQuo .i64 at_2 64 fun v_7 =>
  hIdx v_6.a v_6.n v_7 1 fun a_8 =>
  hLoad (.int .u64) a_8 fun (v_9 : Int) =>
  hRem at_2 64 fun v_10 =>
  hShr .u64 v_9 v_10 fun v_11 =>
  R (.returned (.bool ((bitv .and .u64 v_11 1) == 1))))))
def ann42 : Ann := { loop := [], cut := [] }
theorem den42 (p_1 : Option Addr) (at_2 : Int) (R : Ending → HP → Prop) : denF Tryd.prog ann42 Tryd.f42.ntmps Tryd.f42.results.toList code42 [(.pointer p_1), (.int .i64 at_2)] R = F42 p_1 at_2 R := by kernel_rfl
theorem call42 : Callable Tryd.prog 42 := fun a w => Tryd.call42 a w
theorem F42_fn {p_1 : Option Addr} {at_2 : Int} {R : Ending → HP → Prop} {m : HP} (h : F42 p_1 at_2 R m) : Does Tryd.prog 42 #[(.pointer p_1), (.int .i64 at_2)] m R :=
  fn_of_den mixed (ann := ann42) Tryd.func42 call42 (c := code42) (by kernel_rfl) (by kernel_rfl) (args := [(.pointer p_1), (.int .i64 at_2)]) (Nat.le_of_ble_eq_true (by kernel_rfl)) (.inl (by kernel_rfl)) (by rw [den42]; exact h)
/-! (*treadle/pages.Pages).turn -/
noncomputable def code65 : Code := (Tryd.f65.body).getD .skip
def F65_l6 (p_1 : Option Addr) (base_2 : Int) (n_3 : Int) (used_4 : Bool) (at_9 : Int) (again_8 : (Int × Unit) → HP → Prop) (R : Ending → HP → Prop) : HP → Prop :=
  hInt .i64 (base_2 + n_3) fun v_10 =>
  hIf (decide (at_9 < v_10))
    (hCall Tryd.prog 42 #[(.pointer p_1), (.int .i64 at_9)] (fun ch => R (.panicked ch)) fun r_11 m => ∃ (v_12 : Bool), r_11 = (.bool v_12) ∧ (hIf (v_12 == used_4)
    (R (.returned (.int .i64 5)))
    (hInt .i64 (at_9 + 1) fun v_13 =>
  again_8 (v_13, ()))) m)
    (hCall Tryd.prog 63 #[(.pointer p_1), (.int .i64 base_2), (.int .i64 n_3), (.bool used_4)] (fun ch => R (.panicked ch)) fun _ =>
  R (.returned (.int .i64 0)))
def F65 (p_1 : Option Addr) (base_2 : Int) (n_3 : Int) (used_4 : Bool) (R : Ending → HP → Prop) : HP → Prop :=
  hIf (Option.isNone p_1)
    (R (.returned (.int .i64 5)))
    (hCall Tryd.prog 81 #[(.pointer p_1), (.int .i64 base_2), (.int .i64 n_3)] (fun ch => R (.panicked ch)) fun r_5 m => ∃ (v_6 : Bool), r_5 = (.bool v_6) ∧ (hIf v_6
    (R (.returned (.int .i64 1)))
    (hLoop (α := Int × Unit) (base_2, ()) fun x_7 again_8 => hAll fun _ => F65_l6 p_1 base_2 n_3 used_4 x_7.1 again_8 R)) m)
def ann65 : Ann := { loop := [(6, [(9, (Ty.int .i64))])], cut := [] }
theorem den65 (p_1 : Option Addr) (base_2 : Int) (n_3 : Int) (used_4 : Bool) (R : Ending → HP → Prop) : denF Tryd.prog ann65 Tryd.f65.ntmps Tryd.f65.results.toList code65 [(.pointer p_1), (.int .i64 base_2), (.int .i64 n_3), (.bool used_4)] R = F65 p_1 base_2 n_3 used_4 R := by kernel_rfl
theorem call65 : Callable Tryd.prog 65 := fun a w => Tryd.call65 a w
theorem F65_fn {p_1 : Option Addr} {base_2 : Int} {n_3 : Int} {used_4 : Bool} {R : Ending → HP → Prop} {m : HP} (h : F65 p_1 base_2 n_3 used_4 R m) : Does Tryd.prog 65 #[(.pointer p_1), (.int .i64 base_2), (.int .i64 n_3), (.bool used_4)] m R :=
  fn_of_den mixed (ann := ann65) Tryd.func65 call65 (c := code65) (by kernel_rfl) (by kernel_rfl) (args := [(.pointer p_1), (.int .i64 base_2), (.int .i64 n_3), (.bool used_4)]) (Nat.le_of_ble_eq_true (by kernel_rfl)) (.inl (by kernel_rfl)) (by rw [den65]; exact h)
/-! treadle/pages.New -/
noncomputable def code36 : Code := (Tryd.f36.body).getD .skip
def F36_l11 (b_6 : Nat) (v_32 : Sl) (t64_35 : Int) (again_34 : (Int × Unit) → HP → Prop) (R : Ending → HP → Prop) : HP → Prop :=
  hIf (decide (t64_35 < ((v_32.n : Nat) : Int)))
    (hCall Tryd.prog 61 #[(.pointer (some ⟨b_6, 0, none⟩)), (.int .i64 t64_35)] (fun ch => R (.panicked ch)) fun _ =>
  hInt .i64 (t64_35 + 1) fun v_37 =>
  again_34 (v_37, ()))
    (R (.returned (.tuple #[(.pointer (some ⟨b_6, 0, none⟩)), (.int .i64 0)])))
def F36_l8 (b_6 : Nat) (k_22 : Int) (again_21 : (Int × Unit) → HP → Prop) (R : Ending → HP → Prop) : HP → Prop :=
  hNil (some ⟨b_6, 0, none⟩) fun a_23 =>
  hLoad .slice (a_23.add 2) fun (v_24 : Sl) =>
  hMake 4 32 #[(.int .i64 0), (.int .i64 0), (.int .i64 0), (.int .i64 0)] 131 k_22 k_22 fun b_25 =>
  hLoad .slice (a_23.add 2) fun (v_26 : Sl) =>
  fun m => ((.slice v_26.a v_26.n v_26.cap) : Value) = (.slice v_24.a v_24.n v_24.cap) ∧ (hNew #[(.slice (some ⟨b_25, 0, none⟩) (Int.toNat k_22) (Int.toNat k_22))] 123 fun b_27 =>
  hLoad .slice (a_23.add 2) fun (v_28 : Sl) =>
  fun m => ((.slice v_28.a v_28.n v_28.cap) : Value) = (.slice v_24.a v_24.n v_24.cap) ∧ (hAppend 1 24 #[(.slice none 0 0)] 123 ⟨v_24.a, v_24.n, v_24.cap⟩ ⟨(some ⟨b_27, 0, none⟩), 1, 1⟩ fun v_29 =>
  hNil (some ⟨b_6, 0, none⟩) fun a_30 =>
  hStore (.slice v_29.a v_29.n v_29.cap) (a_30.add 2)
    (hIf (k_22 == 1)
    (hNil (some ⟨b_6, 0, none⟩) fun a_31 =>
  hLoad .slice (a_31.add 1) fun (v_32 : Sl) =>
  hLoop (α := Int × Unit) (0, ()) fun x_33 again_34 => hAll fun _ => F36_l11 b_6 v_32 x_33.1 again_34 R)
    (hInt .i64 (k_22 + 7) fun v_38 =>
  hQuo .i64 v_38 8 fun v_39 =>
  again_21 (v_39, ())))) m) m
def F36_j6 (b_6 : Nat) (R : Ending → HP → Prop) : HP → Prop :=
  hNil (some ⟨b_6, 0, none⟩) fun a_18 =>
  hLoad .slice (a_18.add 1) fun (v_19 : Sl) =>
  hLoop (α := Int × Unit) (((v_19.n : Nat) : Int), ()) fun x_20 again_21 => hAll fun _ => F36_l8 b_6 x_20.1 again_21 R
def F36 (n_1 : Int) (R : Ending → HP → Prop) : HP → Prop :=
  hIf (decide (n_1 < 1))
    (R (.returned (.tuple #[(.pointer none), (.int .i64 1)])))
    (hIf (decide (n_1 > 4096))
    (R (.returned (.tuple #[(.pointer none), (.int .i64 1)])))
    (hInt .i64 (n_1 + 64) fun v_2 =>
  hInt .i64 (v_2 - 1) fun v_3 =>
  hQuo .i64 v_3 64 fun v_4 =>
  hMake 1 8 #[(.int .u64 0)] 105 v_4 v_4 fun b_5 =>
  hNew #[(.int .i64 n_1), (.slice (some ⟨b_5, 0, none⟩) (Int.toNat v_4) (Int.toNat v_4)), (.slice none 0 0)] 122 fun b_6 =>
  hLet (α := Unit) (fun k_7 => hRem n_1 64 fun v_8 =>
  hIf (v_8 != 0)
    (hNil (some ⟨b_6, 0, none⟩) fun a_9 =>
  hLoad .slice (a_9.add 1) fun (v_10 : Sl) =>
  hNil (some ⟨b_6, 0, none⟩) fun a_11 =>
  hLoad .slice (a_11.add 1) fun (v_12 : Sl) =>
  hInt .i64 (((v_12.n : Nat) : Int) - 1) fun v_13 =>
  hRem n_1 64 fun v_14 =>
  hShl .u64 18446744073709551615 v_14 fun v_15 =>
  hIdx v_10.a v_10.n v_13 1 fun a_16 =>
  hStore (.int .u64 v_15) a_16
    (k_7 (())))
    (k_7 (())))
    (fun x_17 => hAll fun _ => F36_j6 b_6 R)))
def ann36 : Ann := { loop := [(8, [(5, (Ty.int .i64))]), (11, [(64, (Ty.int .i64))])], cut := [(6, [])] }
theorem den36 (n_1 : Int) (R : Ending → HP → Prop) : denF Tryd.prog ann36 Tryd.f36.ntmps Tryd.f36.results.toList code36 [(.int .i64 n_1)] R = F36 n_1 R := by kernel_rfl
theorem call36 : Callable Tryd.prog 36 := fun a w => Tryd.call36 a w
theorem F36_fn {n_1 : Int} {R : Ending → HP → Prop} {m : HP} (h : F36 n_1 R m) : Does Tryd.prog 36 #[(.int .i64 n_1)] m R :=
  fn_of_den mixed (ann := ann36) Tryd.func36 call36 (c := code36) (by kernel_rfl) (by kernel_rfl) (args := [(.int .i64 n_1)]) (Nat.le_of_ble_eq_true (by kernel_rfl)) (.inl (by kernel_rfl)) (by rw [den36]; exact h)
/-! (*treadle/pages.Pages).Alloc -/
noncomputable def code38 : Code := (Tryd.f38.body).getD .skip
def F38 (p_1 : Option Addr) (n_2 : Int) (R : Ending → HP → Prop) : HP → Prop :=
  hIf (Option.isNone p_1)
    (R (.returned (.tuple #[(.int .i64 0), (.int .i64 5)])))
    (hIf (decide (n_2 < 1))
    (R (.returned (.tuple #[(.int .i64 0), (.int .i64 1)])))
    (hCall Tryd.prog 62 #[(.pointer p_1), (.int .i64 n_2)] (fun ch => R (.panicked ch)) fun r_3 m => ∃ (v_4 : Int), r_3 = (.int .i64 v_4) ∧ (hIf (decide (v_4 < 0))
    (R (.returned (.tuple #[(.int .i64 0), (.int .i64 3)])))
    (hCall Tryd.prog 63 #[(.pointer p_1), (.int .i64 v_4), (.int .i64 n_2), (.bool true)] (fun ch => R (.panicked ch)) fun _ =>
  R (.returned (.tuple #[(.int .i64 v_4), (.int .i64 0)])))) m))
def ann38 : Ann := { loop := [], cut := [] }
theorem den38 (p_1 : Option Addr) (n_2 : Int) (R : Ending → HP → Prop) : denF Tryd.prog ann38 Tryd.f38.ntmps Tryd.f38.results.toList code38 [(.pointer p_1), (.int .i64 n_2)] R = F38 p_1 n_2 R := by kernel_rfl
theorem call38 : Callable Tryd.prog 38 := fun a w => Tryd.call38 a w
theorem F38_fn {p_1 : Option Addr} {n_2 : Int} {R : Ending → HP → Prop} {m : HP} (h : F38 p_1 n_2 R m) : Does Tryd.prog 38 #[(.pointer p_1), (.int .i64 n_2)] m R :=
  fn_of_den mixed (ann := ann38) Tryd.func38 call38 (c := code38) (by kernel_rfl) (by kernel_rfl) (args := [(.pointer p_1), (.int .i64 n_2)]) (Nat.le_of_ble_eq_true (by kernel_rfl)) (.inl (by kernel_rfl)) (by rw [den38]; exact h)
/-! (*treadle/pages.Pages).Free -/
noncomputable def code40 : Code := (Tryd.f40.body).getD .skip
def F40 (p_1 : Option Addr) (base_2 : Int) (n_3 : Int) (R : Ending → HP → Prop) : HP → Prop :=
  hCall Tryd.prog 65 #[(.pointer p_1), (.int .i64 base_2), (.int .i64 n_3), (.bool false)] (fun ch => R (.panicked ch)) fun r_4 m => ∃ (v_5 : Int), r_4 = (.int .i64 v_5) ∧ (R (.returned (.int .i64 v_5))) m
def ann40 : Ann := { loop := [], cut := [] }
theorem den40 (p_1 : Option Addr) (base_2 : Int) (n_3 : Int) (R : Ending → HP → Prop) : denF Tryd.prog ann40 Tryd.f40.ntmps Tryd.f40.results.toList code40 [(.pointer p_1), (.int .i64 base_2), (.int .i64 n_3)] R = F40 p_1 base_2 n_3 R := by kernel_rfl
theorem call40 : Callable Tryd.prog 40 := fun a w => Tryd.call40 a w
theorem F40_fn {p_1 : Option Addr} {base_2 : Int} {n_3 : Int} {R : Ending → HP → Prop} {m : HP} (h : F40 p_1 base_2 n_3 R m) : Does Tryd.prog 40 #[(.pointer p_1), (.int .i64 base_2), (.int .i64 n_3)] m R :=
  fn_of_den mixed (ann := ann40) Tryd.func40 call40 (c := code40) (by kernel_rfl) (by kernel_rfl) (args := [(.pointer p_1), (.int .i64 base_2), (.int .i64 n_3)]) (Nat.le_of_ble_eq_true (by kernel_rfl)) (.inl (by kernel_rfl)) (by rw [den40]; exact h)
/-! (*treadle/pages.Pages).Runs -/
noncomputable def code66 : Code := (Tryd.f66.body).getD .skip
def F66 (p_1 : Option Addr) (R : Ending → HP → Prop) : HP → Prop :=
  hNew #[(.pointer p_1)] 80 fun b_2 =>
  R (.returned (.func (.func 82) #[] #[(.pointer (some ⟨b_2, 0, none⟩))]))
def ann66 : Ann := { loop := [], cut := [] }
theorem den66 (p_1 : Option Addr) (R : Ending → HP → Prop) : denF Tryd.prog ann66 Tryd.f66.ntmps Tryd.f66.results.toList code66 [(.pointer p_1)] R = F66 p_1 R := by kernel_rfl
theorem call66 : Callable Tryd.prog 66 := fun a w => Tryd.call66 a w
theorem F66_fn {p_1 : Option Addr} {R : Ending → HP → Prop} {m : HP} (h : F66 p_1 R m) : Does Tryd.prog 66 #[(.pointer p_1)] m R :=
  fn_of_den mixed (ann := ann66) Tryd.func66 call66 (c := code66) (by kernel_rfl) (by kernel_rfl) (args := [(.pointer p_1)]) (Nat.le_of_ble_eq_true (by kernel_rfl)) (.inl (by kernel_rfl)) (by rw [den66]; exact h)
/-! (*treadle/pages.Pages).Runs$1 -/
noncomputable def code82 : Code := (Tryd.f82.body).getD .skip
def F82_l5 (l : Nat) (c0_1 : Addr) (at_5 : Int) (again_4 : (Int × Unit) → HP → Prop) (n_11 : Int) (again_10 : (Int × Unit) → HP → Prop) (R : Ending → HP → Prop) : HP → Prop :=
  hLoad .ptr c0_1 fun (v_12 : Option Addr) =>
  hInt .i64 (at_5 + n_11) fun v_13 =>
  hCall Tryd.prog 42 #[(.pointer v_12), (.int .i64 v_13)] (fun ch => R (.panicked ch)) fun r_14 m => ∃ (v_15 : Bool), r_14 = (.bool v_15) ∧ (hIf (!v_15)
    (hInt .i64 (n_11 + 1) fun v_16 =>
  again_10 (v_16, ()))
    (hIf (decide (n_11 > 0))
    (hYield Tryd.prog l #[(.int .i64 at_5), (.int .i64 n_11)] (fun ch => R (.panicked ch)) fun r_17 m => ∃ (v_18 : Bool), r_17 = (.bool v_18) ∧ (hIf (!v_18)
    (R (.returned (.tuple #[])))
    (hInt .i64 (at_5 + n_11) fun v_19 =>
  hInt .i64 (v_19 + 1) fun v_20 =>
  again_4 (v_20, ()))) m)
    (hInt .i64 (at_5 + n_11) fun v_21 =>
  hInt .i64 (v_21 + 1) fun v_22 =>
  again_4 (v_22, ())))) m
def F82_l2 (l : Nat) (c0_1 : Addr) (at_5 : Int) (again_4 : (Int × Unit) → HP → Prop) (R : Ending → HP → Prop) : HP → Prop :=
  hLoad .ptr c0_1 fun (v_6 : Option Addr) =>
  hNil v_6 fun a_7 =>
  hLoad (.int .i64) a_7 fun (v_8 : Int) =>
  hIf (decide (at_5 < v_8))
    (hLoop (α := Int × Unit) (0, ()) fun x_9 again_10 => hAll fun _ => F82_l5 l c0_1 at_5 again_4 x_9.1 again_10 R)
    (R (.returned (.tuple #[])))
def F82 (l : Nat) (c0_1 : Addr) (R : Ending → HP → Prop) : HP → Prop :=
  hLoad .ptr c0_1 fun (v_2 : Option Addr) =>
  hIf (Option.isNone v_2)
    (R (.returned (.tuple #[])))
    (hLoop (α := Int × Unit) (0, ()) fun x_3 again_4 => hAll fun _ => F82_l2 l c0_1 x_3.1 again_4 R)
def ann82 : Ann := { loop := [(2, [(3, (Ty.int .i64))]), (5, [(4, (Ty.int .i64))])], cut := [] }
theorem den82 (l : Nat) (c0_1 : Addr) (R : Ending → HP → Prop) : denF Tryd.prog ann82 Tryd.f82.ntmps Tryd.f82.results.toList code82 [(.func (.yield l) #[] #[]), (.pointer (some c0_1))] R = F82 l c0_1 R := by kernel_rfl
theorem call82 : Callable Tryd.prog 82 := fun a w => Tryd.call82 a w
theorem F82_fn {l : Nat} {c0_1 : Addr} {R : Ending → HP → Prop} {m : HP} (h : F82 l c0_1 R m) : Does Tryd.prog 82 #[(.func (.yield l) #[] #[]), (.pointer (some c0_1))] m R :=
  fn_of_den mixed (ann := ann82) Tryd.func82 call82 (c := code82) (by kernel_rfl) (by kernel_rfl) (args := [(.func (.yield l) #[] #[]), (.pointer (some c0_1))]) (Nat.le_of_ble_eq_true (by kernel_rfl)) (.inl (by kernel_rfl)) (by rw [den82]; exact h)
/-! (*treadle/pages.Pages).Counts -/
noncomputable def code43 : Code := (Tryd.f43.body).getD .skip
def F43 (p_1 : Option Addr) (R : Ending → HP → Prop) : HP → Prop :=
  hIf (Option.isNone p_1)
    (R (.returned (.tuple #[(.int .i64 0), (.int .i64 0)])))
    (hNew #[(.int .i64 0)] 3 fun b_2 =>
  hStore (.int .i64 0) ⟨b_2, 0, none⟩
    (hCall Tryd.prog 66 #[(.pointer p_1)] (fun ch => R (.panicked ch)) fun r_3 m => ∃ (v_4 : Value), r_3 = v_4 ∧ (hRange Tryd.prog 32 v_4 [(4, (.pointer (some ⟨b_2, 0, none⟩)))] (rangeAt 0 code43) (fun r_5 =>
  hLoad (.int .i64) ⟨b_2, 0, none⟩ fun (v_17 : Int) =>
  hNil p_1 fun a_18 =>
  hLoad .slice (a_18.add 2) fun (v_19 : Sl) =>
  hNil p_1 fun a_20 =>
  hLoad .slice (a_20.add 2) fun (v_21 : Sl) =>
  hInt .i64 (((v_21.n : Nat) : Int) - 1) fun v_22 =>
  hIdx v_19.a v_19.n v_22 1 fun a_23 =>
  hLoad .slice a_23 fun (v_24 : Sl) =>
  hIdx v_24.a v_24.n 0 4 fun a_25 =>
  hLoad (.int .i64) (a_25.add 1) fun (v_26 : Int) =>
  fun m => ∃ m', m = pt r_5 (.deferred (some [])) + m' ∧ (R (.returned (.tuple #[(.int .i64 v_17), (.int .i64 v_26)]))) m')
   (fun r_5 =>
  fun m => ∃ m', m = pt r_5 (.deferred (some [])) + m' ∧ (R (.returned (.tuple #[(.int .i64 0), (.int .i64 0)]))) m')
   (fun i_6 r_5 =>
  hPick (i_6 == 0)
    (hLoad (.int .i64) ⟨b_2, 0, none⟩ fun (v_7 : Int) =>
  hNil p_1 fun a_8 =>
  hLoad .slice (a_8.add 2) fun (v_9 : Sl) =>
  hNil p_1 fun a_10 =>
  hLoad .slice (a_10.add 2) fun (v_11 : Sl) =>
  hInt .i64 (((v_11.n : Nat) : Int) - 1) fun v_12 =>
  hIdx v_9.a v_9.n v_12 1 fun a_13 =>
  hLoad .slice a_13 fun (v_14 : Sl) =>
  hIdx v_14.a v_14.n 0 4 fun a_15 =>
  hLoad (.int .i64) (a_15.add 1) fun (v_16 : Int) =>
  fun m => ∃ m', m = pt r_5 (.deferred (some [])) + m' ∧ (R (.returned (.tuple #[(.int .i64 v_7), (.int .i64 v_16)]))) m')
    (no))) m))
def ann43 : Ann := { loop := [], cut := [], range := [(6, [4])] }
theorem den43 (p_1 : Option Addr) (R : Ending → HP → Prop) : denF Tryd.prog ann43 Tryd.f43.ntmps Tryd.f43.results.toList code43 [(.pointer p_1)] R = F43 p_1 R := by kernel_rfl
theorem call43 : Callable Tryd.prog 43 := fun a w => Tryd.call43 a w
theorem F43_fn {p_1 : Option Addr} {R : Ending → HP → Prop} {m : HP} (hR : ∀ ch m, ¬ R (.panicked ch) m) (h : F43 p_1 R m) : Does Tryd.prog 43 #[(.pointer p_1)] m R :=
  fn_of_den mixed (ann := ann43) Tryd.func43 call43 (c := code43) (by kernel_rfl) (by kernel_rfl) (args := [(.pointer p_1)]) (Nat.le_of_ble_eq_true (by kernel_rfl)) (.inr hR) (by rw [den43]; exact h)
def F43_r0 (a_27 : Addr) (y_28 : Value) (y_29 : Int) (l : Nat) (rc : Loop) (R : Ending → HP → Prop) : HP → Prop :=
  hAll fun _ =>
  hRec l rc (rcBusy rc) (
  hLoad (.int .i64) a_27 fun (v_30 : Int) =>
  hInt .i64 (v_30 + y_29) fun v_31 =>
  hStore (.int .i64 v_31) a_27
    (hRec l (rcBusy rc) (rcNext rc) (R (.returned (.bool true)))))
theorem round43_0 (a_27 : Addr) (y_28 : Value) (y_29 : Int) (l : Nat) (rc : Loop) (R : Ending → HP → Prop) : denRound Tryd.prog ann43 32 [(4, (.pointer (some a_27)))] (rangeAt 0 code43) l rc [y_28, (.int .i64 y_29)] R = F43_r0 a_27 y_28 y_29 l rc R := by kernel_rfl
theorem F43_y0 {a_27 : Addr} {y_28 : Value} {y_29 : Int} {l : Nat} {rc : Loop} {R : Ending → HP → Prop} {m m0 : HP} {rc0 : Loop} (hl : IsLoop 32 [(4, (.pointer (some a_27)))] (rangeAt 0 code43) rc0) (hrc : rc = { rc0 with state := .ready, pending := none }) (hm : m = pt l (.loop rc) + m0) (h : F43_r0 a_27 y_28 y_29 l rc R m) : HYield Tryd.prog l #[y_28, (.int .i64 y_29)] m R :=
  yield_of_den mixed (ann := ann43) (args := [y_28, (.int .i64 y_29)]) hl hrc (by kernel_rfl) hm (by rw [round43_0]; exact h)
end Go.Proofs.YtolfcdjbchdkgaaDoor
/- Words of 64 bits as the model's integers. Own work; nothing of any program. -/
namespace Go.Hp
open Go

/-- A word as the model has it. -/
def W (x : BitVec 64) : Int := (x.toNat : Int)
theorem W_inj {x y : BitVec 64} : W x = W y ↔ x = y := by
  unfold W; rw [Int.natCast_inj]; exact ⟨BitVec.eq_of_toNat_eq, fun h => by rw [h]⟩
theorem W_lit (n : Nat) (h : n < 18446744073709551616) : (n : Int) = W (BitVec.ofNat 64 n) := by
  unfold W; rw [BitVec.toNat_ofNat, Nat.mod_eq_of_lt (by simpa using h)]
theorem W_nonneg (x : BitVec 64) : 0 ≤ W x := Int.natCast_nonneg _
theorem W_lt (x : BitVec 64) : W x < 18446744073709551616 := by unfold W; have := x.isLt; omega
theorem ofInt_W (x : BitVec 64) : BitVec.ofInt 64 (W x) = x := by
  unfold W; apply BitVec.eq_of_toNat_eq; simp
theorem wrapN {n : Nat} : IntKind.u64.wrap (n : Int) = ((n % 18446744073709551616 : Nat) : Int) := by rw [wrap_u64]; omega
theorem bitv_and (x y : BitVec 64) : bitv .and .u64 (W x) (W y) = W (x &&& y) := by
  have e : bitv .and .u64 (W x) (W y) = IntKind.u64.wrap ((BitVec.ofInt 64 (W x) &&& BitVec.ofInt 64 (W y)).toNat : Nat) := by rfl
  rw [e, ofInt_W, ofInt_W, wrapN, Nat.mod_eq_of_lt (x &&& y).isLt]; rfl
theorem bitv_or (x y : BitVec 64) : bitv .or .u64 (W x) (W y) = W (x ||| y) := by
  have e : bitv .or .u64 (W x) (W y) = IntKind.u64.wrap ((BitVec.ofInt 64 (W x) ||| BitVec.ofInt 64 (W y)).toNat : Nat) := by rfl
  rw [e, ofInt_W, ofInt_W, wrapN, Nat.mod_eq_of_lt (x ||| y).isLt]; rfl
theorem bitv_xor (x y : BitVec 64) : bitv .xor .u64 (W x) (W y) = W (x ^^^ y) := by
  have e : bitv .xor .u64 (W x) (W y) = IntKind.u64.wrap ((BitVec.ofInt 64 (W x) ^^^ BitVec.ofInt 64 (W y)).toNat : Nat) := by rfl
  rw [e, ofInt_W, ofInt_W, wrapN, Nat.mod_eq_of_lt (x ^^^ y).isLt]; rfl
theorem bitv_andNot (x y : BitVec 64) : bitv .andNot .u64 (W x) (W y) = W (x &&& ~~~y) := by
  have e : bitv .andNot .u64 (W x) (W y) = IntKind.u64.wrap ((BitVec.ofInt 64 (W x) &&& ~~~BitVec.ofInt 64 (W y)).toNat : Nat) := by rfl
  rw [e, ofInt_W, ofInt_W, wrapN, Nat.mod_eq_of_lt (x &&& ~~~y).isLt]; rfl
theorem maxW : IntKind.max .u64 = W (BitVec.allOnes 64) := by decide
theorem bitv_not (x : BitVec 64) : bitv .xor .u64 (IntKind.max .u64) (W x) = W (~~~x) := by
  rw [maxW, bitv_xor, BitVec.allOnes_xor]
section
variable {m : HP}
theorem hInt_negW {x : BitVec 64} {K : Int → HP → Prop} (hk : K (W (-x)) m) : hInt .u64 (0 - W x) K m := by
  unfold hInt
  have : IntKind.u64.wrap (0 - W x) = W (-x) := by
    rw [wrap_u64]; unfold W; rw [BitVec.toNat_neg]; have := x.isLt; omega
  rw [this]; exact hk
theorem hInt_addW {x y : BitVec 64} {K : Int → HP → Prop} (hk : K (W (x + y)) m) : hInt .u64 (W x + W y) K m := by
  unfold hInt
  have : IntKind.u64.wrap (W x + W y) = W (x + y) := by
    rw [wrap_u64]; unfold W; rw [BitVec.toNat_add]; have := x.isLt; omega
  rw [this]; exact hk
theorem hInt_mulW {x y : BitVec 64} {K : Int → HP → Prop} (hk : K (W (x * y)) m) : hInt .u64 (W x * W y) K m := by
  unfold hInt
  have : IntKind.u64.wrap (W x * W y) = W (x * y) := by
    rw [wrap_u64]; unfold W; rw [BitVec.toNat_mul]; omega
  rw [this]; exact hk
theorem hShr_W {x : BitVec 64} {s : Int} {K : Int → HP → Prop} (h0 : 0 ≤ s) (hk : K (W (x >>> s.toNat)) m) : hShr .u64 (W x) s K m := by
  refine ⟨h0, ?_⟩
  have e : (W x).fdiv (2 ^ min s.toNat IntKind.u64.bits) = W (x >>> s.toNat) := by
    unfold W
    rw [BitVec.toNat_ushiftRight, Nat.shiftRight_eq_div_pow]
    have h2 : (2 : Int) ^ min s.toNat IntKind.u64.bits = ((2 ^ min s.toNat 64 : Nat) : Int) := by simp [IntKind.bits]
    rw [h2, Int.fdiv_eq_ediv_of_nonneg _ (Int.natCast_nonneg _), ← Int.natCast_ediv]
    congr 1
    rcases Nat.le_total s.toNat 64 with h | h
    · rw [Nat.min_eq_left h]
    · rw [Nat.min_eq_right h, Nat.div_eq_of_lt x.isLt, Nat.div_eq_of_lt]
      exact Nat.lt_of_lt_of_le x.isLt (Nat.pow_le_pow_right (by omega) h)
  rw [e]; exact hk
theorem hShl_W {x : BitVec 64} {s : Int} {K : Int → HP → Prop} (h0 : 0 ≤ s) (hk : K (W (x <<< s.toNat)) m) : hShl .u64 (W x) s K m := by
  refine ⟨h0, ?_⟩
  have e : IntKind.u64.wrap (W x * 2 ^ min s.toNat IntKind.u64.bits) = W (x <<< s.toNat) := by
    unfold W
    have h2 : (2 : Int) ^ min s.toNat IntKind.u64.bits = ((2 ^ min s.toNat 64 : Nat) : Int) := by simp [IntKind.bits]
    rw [h2, ← Int.natCast_mul, wrapN, BitVec.toNat_shiftLeft, Nat.shiftLeft_eq]
    congr 1
    rcases Nat.le_total s.toNat 64 with h | h
    · rw [Nat.min_eq_left h]
    · rw [Nat.min_eq_right h]
      have h64 : (18446744073709551616 : Nat) = 2 ^ 64 := by decide
      rw [h64]
      obtain ⟨d, hd⟩ := Nat.exists_eq_add_of_le h
      rw [hd, Nat.pow_add, ← Nat.mul_assoc]
      rw [Nat.mul_mod_left, Nat.mul_right_comm, Nat.mul_mod_left]
  rw [e]; exact hk
theorem hIf_eqW {x y : BitVec 64} {A B : HP → Prop} (h1 : x = y → A m) (h2 : x ≠ y → B m) : hIf (W x == W y) A B m := hIf_eq (fun h => h1 (W_inj.1 h)) (fun h => h2 fun e => h (W_inj.2 e))
theorem hIf_neW {x y : BitVec 64} {A B : HP → Prop} (h1 : x ≠ y → A m) (h2 : x = y → B m) : hIf (W x != W y) A B m := hIf_ne (fun h => h1 fun e => h (W_inj.2 e)) (fun h => h2 (W_inj.1 h))
theorem hInt_i64W {x : BitVec 64} {K : Int → HP → Prop} (h : x.toNat < 9223372036854775808) (hk : K (x.toNat : Int) m) : hInt .i64 (W x) K m := hInt_i64 (by have := W_nonneg x; omega) (by unfold W; omega) hk
end
theorem hStore1_0 {m : HP} {v : Value} {b : Nat} {x0 : Value} {T : TypeId} {r : HP} {K : HP → Prop} [h : Has b m (.cells #[x0] T (0, 0)) r] (hk : K (pt b (.cells #[v] T (0, 0)) + r)) : hStore v ⟨b, 0, none⟩ K m := hStore_at (c := #[x0]) (by simp) hk
theorem hStore2_0 {m : HP} {v : Value} {b : Nat} {x0 x1 : Value} {T : TypeId} {r : HP} {K : HP → Prop} [h : Has b m (.cells #[x0, x1] T (0, 0)) r] (hk : K (pt b (.cells #[v, x1] T (0, 0)) + r)) : hStore v ⟨b, 0, none⟩ K m := hStore_at (c := #[x0, x1]) (by simp) hk
theorem hStore2_1 {m : HP} {v : Value} {b : Nat} {x0 x1 : Value} {T : TypeId} {r : HP} {K : HP → Prop} [h : Has b m (.cells #[x0, x1] T (0, 0)) r] (hk : K (pt b (.cells #[x0, v] T (0, 0)) + r)) : hStore v ⟨b, 1, none⟩ K m := hStore_at (c := #[x0, x1]) (by simp) hk
theorem hStore3_0 {m : HP} {v : Value} {b : Nat} {x0 x1 x2 : Value} {T : TypeId} {r : HP} {K : HP → Prop} [h : Has b m (.cells #[x0, x1, x2] T (0, 0)) r] (hk : K (pt b (.cells #[v, x1, x2] T (0, 0)) + r)) : hStore v ⟨b, 0, none⟩ K m := hStore_at (c := #[x0, x1, x2]) (by simp) hk
theorem hStore3_1 {m : HP} {v : Value} {b : Nat} {x0 x1 x2 : Value} {T : TypeId} {r : HP} {K : HP → Prop} [h : Has b m (.cells #[x0, x1, x2] T (0, 0)) r] (hk : K (pt b (.cells #[x0, v, x2] T (0, 0)) + r)) : hStore v ⟨b, 1, none⟩ K m := hStore_at (c := #[x0, x1, x2]) (by simp) hk
theorem hStore3_2 {m : HP} {v : Value} {b : Nat} {x0 x1 x2 : Value} {T : TypeId} {r : HP} {K : HP → Prop} [h : Has b m (.cells #[x0, x1, x2] T (0, 0)) r] (hk : K (pt b (.cells #[x0, x1, v] T (0, 0)) + r)) : hStore v ⟨b, 2, none⟩ K m := hStore_at (c := #[x0, x1, x2]) (by simp) hk
theorem hStore4_0 {m : HP} {v : Value} {b : Nat} {x0 x1 x2 x3 : Value} {T : TypeId} {r : HP} {K : HP → Prop} [h : Has b m (.cells #[x0, x1, x2, x3] T (0, 0)) r] (hk : K (pt b (.cells #[v, x1, x2, x3] T (0, 0)) + r)) : hStore v ⟨b, 0, none⟩ K m := hStore_at (c := #[x0, x1, x2, x3]) (by simp) hk
theorem hStore4_1 {m : HP} {v : Value} {b : Nat} {x0 x1 x2 x3 : Value} {T : TypeId} {r : HP} {K : HP → Prop} [h : Has b m (.cells #[x0, x1, x2, x3] T (0, 0)) r] (hk : K (pt b (.cells #[x0, v, x2, x3] T (0, 0)) + r)) : hStore v ⟨b, 1, none⟩ K m := hStore_at (c := #[x0, x1, x2, x3]) (by simp) hk
theorem hStore4_2 {m : HP} {v : Value} {b : Nat} {x0 x1 x2 x3 : Value} {T : TypeId} {r : HP} {K : HP → Prop} [h : Has b m (.cells #[x0, x1, x2, x3] T (0, 0)) r] (hk : K (pt b (.cells #[x0, x1, v, x3] T (0, 0)) + r)) : hStore v ⟨b, 2, none⟩ K m := hStore_at (c := #[x0, x1, x2, x3]) (by simp) hk
theorem hStore4_3 {m : HP} {v : Value} {b : Nat} {x0 x1 x2 x3 : Value} {T : TypeId} {r : HP} {K : HP → Prop} [h : Has b m (.cells #[x0, x1, x2, x3] T (0, 0)) r] (hk : K (pt b (.cells #[x0, x1, x2, v] T (0, 0)) + r)) : hStore v ⟨b, 3, none⟩ K m := hStore_at (c := #[x0, x1, x2, x3]) (by simp) hk
theorem hStore5_0 {m : HP} {v : Value} {b : Nat} {x0 x1 x2 x3 x4 : Value} {T : TypeId} {r : HP} {K : HP → Prop} [h : Has b m (.cells #[x0, x1, x2, x3, x4] T (0, 0)) r] (hk : K (pt b (.cells #[v, x1, x2, x3, x4] T (0, 0)) + r)) : hStore v ⟨b, 0, none⟩ K m := hStore_at (c := #[x0, x1, x2, x3, x4]) (by simp) hk
theorem hStore5_1 {m : HP} {v : Value} {b : Nat} {x0 x1 x2 x3 x4 : Value} {T : TypeId} {r : HP} {K : HP → Prop} [h : Has b m (.cells #[x0, x1, x2, x3, x4] T (0, 0)) r] (hk : K (pt b (.cells #[x0, v, x2, x3, x4] T (0, 0)) + r)) : hStore v ⟨b, 1, none⟩ K m := hStore_at (c := #[x0, x1, x2, x3, x4]) (by simp) hk
theorem hStore5_2 {m : HP} {v : Value} {b : Nat} {x0 x1 x2 x3 x4 : Value} {T : TypeId} {r : HP} {K : HP → Prop} [h : Has b m (.cells #[x0, x1, x2, x3, x4] T (0, 0)) r] (hk : K (pt b (.cells #[x0, x1, v, x3, x4] T (0, 0)) + r)) : hStore v ⟨b, 2, none⟩ K m := hStore_at (c := #[x0, x1, x2, x3, x4]) (by simp) hk
theorem hStore5_3 {m : HP} {v : Value} {b : Nat} {x0 x1 x2 x3 x4 : Value} {T : TypeId} {r : HP} {K : HP → Prop} [h : Has b m (.cells #[x0, x1, x2, x3, x4] T (0, 0)) r] (hk : K (pt b (.cells #[x0, x1, x2, v, x4] T (0, 0)) + r)) : hStore v ⟨b, 3, none⟩ K m := hStore_at (c := #[x0, x1, x2, x3, x4]) (by simp) hk
theorem hStore5_4 {m : HP} {v : Value} {b : Nat} {x0 x1 x2 x3 x4 : Value} {T : TypeId} {r : HP} {K : HP → Prop} [h : Has b m (.cells #[x0, x1, x2, x3, x4] T (0, 0)) r] (hk : K (pt b (.cells #[x0, x1, x2, x3, v] T (0, 0)) + r)) : hStore v ⟨b, 4, none⟩ K m := hStore_at (c := #[x0, x1, x2, x3, x4]) (by simp) hk
theorem hStore6_0 {m : HP} {v : Value} {b : Nat} {x0 x1 x2 x3 x4 x5 : Value} {T : TypeId} {r : HP} {K : HP → Prop} [h : Has b m (.cells #[x0, x1, x2, x3, x4, x5] T (0, 0)) r] (hk : K (pt b (.cells #[v, x1, x2, x3, x4, x5] T (0, 0)) + r)) : hStore v ⟨b, 0, none⟩ K m := hStore_at (c := #[x0, x1, x2, x3, x4, x5]) (by simp) hk
theorem hStore6_1 {m : HP} {v : Value} {b : Nat} {x0 x1 x2 x3 x4 x5 : Value} {T : TypeId} {r : HP} {K : HP → Prop} [h : Has b m (.cells #[x0, x1, x2, x3, x4, x5] T (0, 0)) r] (hk : K (pt b (.cells #[x0, v, x2, x3, x4, x5] T (0, 0)) + r)) : hStore v ⟨b, 1, none⟩ K m := hStore_at (c := #[x0, x1, x2, x3, x4, x5]) (by simp) hk
theorem hStore6_2 {m : HP} {v : Value} {b : Nat} {x0 x1 x2 x3 x4 x5 : Value} {T : TypeId} {r : HP} {K : HP → Prop} [h : Has b m (.cells #[x0, x1, x2, x3, x4, x5] T (0, 0)) r] (hk : K (pt b (.cells #[x0, x1, v, x3, x4, x5] T (0, 0)) + r)) : hStore v ⟨b, 2, none⟩ K m := hStore_at (c := #[x0, x1, x2, x3, x4, x5]) (by simp) hk
theorem hStore6_3 {m : HP} {v : Value} {b : Nat} {x0 x1 x2 x3 x4 x5 : Value} {T : TypeId} {r : HP} {K : HP → Prop} [h : Has b m (.cells #[x0, x1, x2, x3, x4, x5] T (0, 0)) r] (hk : K (pt b (.cells #[x0, x1, x2, v, x4, x5] T (0, 0)) + r)) : hStore v ⟨b, 3, none⟩ K m := hStore_at (c := #[x0, x1, x2, x3, x4, x5]) (by simp) hk
theorem hStore6_4 {m : HP} {v : Value} {b : Nat} {x0 x1 x2 x3 x4 x5 : Value} {T : TypeId} {r : HP} {K : HP → Prop} [h : Has b m (.cells #[x0, x1, x2, x3, x4, x5] T (0, 0)) r] (hk : K (pt b (.cells #[x0, x1, x2, x3, v, x5] T (0, 0)) + r)) : hStore v ⟨b, 4, none⟩ K m := hStore_at (c := #[x0, x1, x2, x3, x4, x5]) (by simp) hk
theorem hStore6_5 {m : HP} {v : Value} {b : Nat} {x0 x1 x2 x3 x4 x5 : Value} {T : TypeId} {r : HP} {K : HP → Prop} [h : Has b m (.cells #[x0, x1, x2, x3, x4, x5] T (0, 0)) r] (hk : K (pt b (.cells #[x0, x1, x2, x3, x4, v] T (0, 0)) + r)) : hStore v ⟨b, 5, none⟩ K m := hStore_at (c := #[x0, x1, x2, x3, x4, x5]) (by simp) hk
theorem hCut_lt {m : HP} {b o cap size : Nat} {lo hi : Int} {K : Sl → HP → Prop} (h0 : 0 ≤ lo) (h1 : lo ≤ hi) (h2 : hi ≤ cap) (h3 : lo < cap)
    (hk : K ⟨some ⟨b, o + lo.toNat * size, none⟩, (hi - lo).toNat, (cap - lo).toNat⟩ m) : hCut (some ⟨b, o, none⟩) cap lo hi size K m :=
  hCut_of h0 h1 h2 (by rw [if_neg (by omega)]; exact hk)
theorem HYield.up {P : Program} {l : Nat} {args : Array Value} {m : HP} {R R' : Ending → HP → Prop} (h : HYield P l args m R) (hr : ∀ e m', R e m' → ∃ m'', Over m'' m' ∧ R' e m'') : HYield P l args m R' := by
  intro w hw
  obtain ⟨f, tmps, assign, body, h1, h2⟩ := h w hw
  exact ⟨f, tmps, assign, body, h1, fun n => (h2 n).mono fun e w' ⟨m', g1, g2⟩ => by
    obtain ⟨m'', g3, g4⟩ := hr e m' g2
    exact ⟨m'', g1.over g3, g4⟩⟩
theorem hYield_of {P : Program} {l : Nat} {args : Array Value} {m : HP} {K : Value → HP → Prop} {X : List PanicEntry → HP → Prop} {R : Ending → HP → Prop} (hy : HYield P l args m R) (hk : ∀ e m', R e m' → ∃ m'', Over m'' m' ∧ retX K X e m'') : hYield P l args X K m := hy.up hk
theorem hRec_of {l : Nat} {rc rc' : Loop} {m r : HP} {K : HP → Prop} [h : Has l m (.loop rc) r] (hk : K (pt l (.loop rc') + r)) : hRec l rc rc' K m := ⟨r, h.eq, hk⟩
theorem IsLoop.next {N : Nat} {vals : List (Nat × Value)} {c : Code} {rc : Loop} (h : IsLoop N vals c rc) : rcNext rc = rc := by
  obtain ⟨h1, h2, _⟩ := h
  cases rc; simp only at h1 h2; subst h1 h2; rfl
/-- A range whose function comes to its end without a jump. -/
theorem hRange_end {P : Program} {N : Nat} {f : FuncId} {fs cs : Array Value} {vals : List (Nat × Value)} {c : Code} {Kn Kr : Nat → HP → Prop} {Ke : Nat → Nat → HP → Prop} {m : HP} (M : HP)
    (hd : ∀ l r rc0, IsLoop N vals c rc0 → Does P f ⟨fs.toList ++ [.func (.yield l) #[] #[]] ++ cs.toList⟩ (pt l (.loop rc0) + (pt r (.deferred (some [])) + m)) fun e m3 => (∃ v, e = .returned v) ∧ Over (pt l (.loop (rcNext rc0)) + (pt r (.deferred (some [])) + M)) m3)
    (hk : ∀ l r rc, Kn r (pt l (.loop rc) + (pt r (.deferred (some [])) + M))) : hRange P N (.func (.func f) fs cs) vals c Kn Kr Ke m := by
  refine ⟨f, fs, cs, rfl, fun l r rc0 hl => ?_⟩
  refine (hd l r rc0 hl).up ?_
  rintro e m3 ⟨hv, ho⟩
  refine ⟨_, ho, hv, rcNext rc0, _, rfl, rfl, ?_⟩
  exact hk _ _ _
theorem gone {r : Nat} {o : Obj} {m x : HP} {K : HP → Prop} [h : Has r m o x] (hk : K x) : ∃ m', m = pt r o + m' ∧ K m' := ⟨x, h.eq, hk⟩
/-- One row written, cell by cell. -/
theorem rows_set4 {α : Type} {f : α → List Value} (hf : ∀ x, (f x).length = 4) {l : List α} {i o : Nat} {x s : α} {v0 v1 v2 v3 : Value} (hx : l[i]? = some x) (ho : o = i * 4) (hs : f s = [v0, v1, v2, v3]) :
    ((((rows f l).setIfInBounds o v0).setIfInBounds (o + 1) v1).setIfInBounds (o + 2) v2).setIfInBounds (o + 3) v3 = rows f (l.set i s) := by
  have key : ∀ (l : List α) (i : Nat), l[i]? = some x → ((((l.flatMap f).set (i * 4) v0).set (i * 4 + 1) v1).set (i * 4 + 2) v2).set (i * 4 + 3) v3 = (l.set i s).flatMap f := by
    intro l
    induction l with
    | nil => intro i h; simp at h
    | cons y l ih =>
      intro i h
      cases i with
      | zero =>
        simp only [List.getElem?_cons_zero, Option.some.injEq] at h; subst h
        have := hf y
        simp only [List.flatMap_cons, List.set_cons_zero, hs]
        match hfy : f y, this with
        | [a, b, c, d], _ => simp
      | succ i =>
        simp only [List.getElem?_cons_succ] at h
        simp only [List.flatMap_cons, List.set_cons_succ]
        have e := hf y
        rw [List.set_append_right _ _ (by omega), List.set_append_right _ _ (by omega), List.set_append_right _ _ (by omega), List.set_append_right _ _ (by omega)]
        rw [e, show (i + 1) * 4 - 4 = i * 4 by omega, show (i + 1) * 4 + 1 - 4 = i * 4 + 1 by omega, show (i + 1) * 4 + 2 - 4 = i * 4 + 2 by omega, show (i + 1) * 4 + 3 - 4 = i * 4 + 3 by omega, ih i h]
  subst ho
  simp only [rows, List.setIfInBounds_toArray]
  rw [key l i hx]
theorem hIf_eqW0 {m : HP} {x : BitVec 64} {A B : HP → Prop} (h1 : x = 0#64 → A m) (h2 : x ≠ 0#64 → B m) : hIf (W x == 0) A B m := by
  have e : (0 : Int) = W 0#64 := W_lit 0 (by decide)
  rw [e]; exact hIf_eqW h1 h2
theorem hIf_neW0 {m : HP} {x : BitVec 64} {A B : HP → Prop} (h1 : x ≠ 0#64 → A m) (h2 : x = 0#64 → B m) : hIf (W x != 0) A B m := by
  have e : (0 : Int) = W 0#64 := W_lit 0 (by decide)
  rw [e]; exact hIf_neW h1 h2
theorem ret.eq {v v' : Value} {M m' : HP} (h : v' = v) (ho : Over M m') : ret v M (.returned v') m' := by subst h; exact ⟨rfl, ho⟩
theorem agg4 {k : IntKind} {a b c d a' b' c' d' : Int} (h1 : a = a') (h2 : b = b') (h3 : c = c') (h4 : d = d') : Value.agg #[.int k a, .int k b, .int k c, .int k d] = Value.agg #[.int k a', .int k b', .int k c', .int k d'] := by subst h1 h2 h3 h4; rfl
theorem agg3 {k : IntKind} {a b c a' b' c' : Int} (h1 : a = a') (h2 : b = b') (h3 : c = c') : Value.agg #[.int k a, .int k b, .int k c] = Value.agg #[.int k a', .int k b', .int k c'] := by subst h1 h2 h3; rfl
theorem int_eq {k : IntKind} {a a' : Int} (h : a = a') : Value.int k a = Value.int k a' := by rw [h]
end Go.Hp
/- Contracts: math/bits. Own work. -/
namespace Go.Proofs.YtolfcdjbchdkgaaDoor
open Go Go.Hp
set_option maxRecDepth 100000

/-- What the table holds. -/
def deB : List Nat := [0, 1, 56, 2, 57, 49, 28, 3, 61, 58, 42, 50, 38, 29, 17, 4, 62, 47, 59, 36, 45, 43, 51, 22, 53, 39, 33, 30, 24, 18, 12, 5, 63, 55, 48, 27, 60, 41, 37, 16, 46, 35, 44, 21, 52, 32, 23, 11, 54, 26, 40, 15, 34, 20, 31, 10, 25, 14, 19, 9, 13, 8, 7, 6]
def deBc : Array Value := (deB.map fun n : Nat => Value.int .u8 (n : Int)).toArray

/-- The lowest bit that is set; 64: none. -/
def tz (x : BitVec 64) : Nat := ((List.range 64).find? fun i => x.getLsbD i).getD 64
theorem tz_le (x : BitVec 64) : tz x ≤ 64 := by
  unfold tz
  cases h : (List.range 64).find? fun i => x.getLsbD i with
  | none => simp
  | some i => have := List.mem_of_find?_eq_some h; simp at this ⊢; omega
theorem tz_low {x : BitVec 64} {i : Nat} (h : i < tz x) : x.getLsbD i = false := by
  unfold tz at h
  cases hf : (List.range 64).find? fun i => x.getLsbD i with
  | none =>
    rw [hf] at h; simp at h
    have := List.find?_eq_none.1 hf i (by simpa using h)
    simpa using this
  | some j =>
    rw [hf] at h; simp at h
    rw [List.find?_range_eq_some] at hf
    simpa using hf.2.2 i h
theorem tz_bit {x : BitVec 64} (h : tz x < 64) : x.getLsbD (tz x) = true := by
  unfold tz at h ⊢
  cases hf : (List.range 64).find? fun i => x.getLsbD i with
  | none => rw [hf] at h; simp at h
  | some j => have := List.find?_some hf; simpa using this
theorem tz_zero (x : BitVec 64) : tz x = 64 ↔ x = 0#64 := by
  constructor
  · intro h
    apply BitVec.eq_of_getLsbD_eq
    intro i hi
    rw [tz_low (by omega)]; simp
  · rintro rfl; decide
theorem low_bit {x : BitVec 64} (h : tz x < 64) : x &&& -x = BitVec.twoPow 64 (tz x) := by
  apply BitVec.eq_of_getLsbD_eq
  intro i hi
  rw [BitVec.getLsbD_and, BitVec.getLsbD_neg, BitVec.getLsbD_twoPow]
  rcases Nat.lt_trichotomy i (tz x) with h1 | h1 | h1
  · rw [tz_low h1]; simp; omega
  · subst h1
    rw [tz_bit h]
    have : decide (∃ j, j < tz x ∧ x.getLsbD j = true) = false := by
      rw [decide_eq_false_iff_not]; rintro ⟨j, hj, h2⟩; rw [tz_low hj] at h2; cases h2
    simp [this, h]
  · have : decide (∃ j, j < i ∧ x.getLsbD j = true) = true := by
      rw [decide_eq_true_eq]; exact ⟨tz x, h1, tz_bit h⟩
    simp [this, hi]; omega
theorem deB_all : ((List.range 64).all fun t => deB[2 ^ t * 285870213051353865 % 18446744073709551616 / 288230376151711744]? == some t) = true := by kernel_rfl
theorem deB_ok {t : Nat} (ht : t < 64) : deB[((BitVec.twoPow 64 t * 285870213051353865#64) >>> 58).toNat]? = some t := by
  have := List.all_eq_true.1 deB_all t (by simpa using ht)
  have e : ((BitVec.twoPow 64 t * 285870213051353865#64) >>> 58).toNat = 2 ^ t * 285870213051353865 % 18446744073709551616 / 288230376151711744 := by
    rw [BitVec.toNat_ushiftRight, BitVec.toNat_mul, BitVec.toNat_twoPow, Nat.shiftRight_eq_div_pow]
    simp only [BitVec.toNat_ofNat]
    rw [Nat.mod_eq_of_lt (a := 2 ^ t) (Nat.pow_lt_pow_right (by omega) ht)]
  rw [e]; simpa using this
theorem shr58_lt (x : BitVec 64) : (x >>> 58).toNat < 64 := by
  rw [BitVec.toNat_ushiftRight, Nat.shiftRight_eq_div_pow]; have := x.isLt; omega

theorem deBc_get {i v : Nat} (h : deB[i]? = some v) : deBc[i]? = some (.int .u8 (v : Int)) := by
  unfold deBc; rw [List.getElem?_toArray, List.getElem?_map, h]; rfl
theorem idxW (y : BitVec 64) : 0 + (W y).toNat * 1 = y.toNat := by unfold W; omega
theorem c0 : (0 : Int) = W 0#64 := W_lit 0 (by decide)
theorem cDe : (285870213051353865 : Int) = W 285870213051353865#64 := W_lit 285870213051353865 (by decide)
theorem c58 : (58 : Int).toNat = 58 := rfl

theorem tz_does (x : BitVec 64) {m r : HP} {T : TypeId} {fr : Nat × Nat} [Has 0 m (.cells deBc T fr) r] : Does Tryd.prog 51 #[.int .u64 (W x)] m (ret (.int .i64 (tz x : Nat)) m) := by
  refine F51_fn ?_
  unfold F51
  rw [c0, cDe]
  refine hIf_eqW (fun h => ?_) (fun h => ?_)
  · rw [(tz_zero x).2 h]; exact ⟨rfl, Over.refl _⟩
  · have hlt : tz x < 64 := by have := tz_le x; have := mt (tz_zero x).1 h; omega
    refine hInt_negW ?_
    rw [bitv_and, low_bit hlt]
    refine hInt_mulW ?_
    refine hShr_W (by decide) ?_
    rw [c58]
    have hd := deB_ok hlt
    have hlt2 : W ((BitVec.twoPow 64 (tz x) * 285870213051353865#64) >>> 58) < (64 : Nat) := Int.ofNat_lt.2 (shr58_lt _)
    refine hIdx_of (W_nonneg _) hlt2 ?_
    refine hLoad_int (x := (tz x : Nat)) ?_ ?_
    · rw [idxW]; exact deBc_get hd
    · refine hInt_i64 (by omega) (by omega) ?_
      exact ⟨rfl, Over.refl _⟩

/-! ### Len64, LeadingZeros64 -/
/-- n bits hold v, and no fewer. -/
def IsLen (v n : Nat) : Prop := v < 2 ^ n ∧ (0 < n → 2 ^ (n - 1) ≤ v)
theorem IsLen.pos {v n : Nat} (h : IsLen v n) (hv : 0 < v) : 0 < n := by
  rcases Nat.eq_zero_or_pos n with rfl | h'
  · have := h.1; omega
  · exact h'
theorem IsLen.shift {v n k : Nat} (h : IsLen (v / 2 ^ k) n) (hv : 2 ^ k ≤ v) : IsLen v (k + n) := by
  have hp : 0 < v / 2 ^ k := Nat.div_pos hv (Nat.two_pow_pos k)
  have hn := h.pos hp
  constructor
  · rw [Nat.pow_add, Nat.mul_comm]; exact (Nat.div_lt_iff_lt_mul (Nat.two_pow_pos k)).1 h.1
  · intro _
    rw [show k + n - 1 = (n - 1) + k by omega, Nat.pow_add]
    exact (Nat.le_div_iff_mul_le (Nat.two_pow_pos k)).1 (h.2 hn)
def len8 : ByteArray := {data := #[0, 1, 2, 2, 3, 3, 3, 3, 4, 4, 4, 4, 4, 4, 4, 4, 5, 5, 5, 5, 5, 5, 5, 5, 5, 5, 5, 5, 5, 5, 5, 5, 6, 6, 6, 6, 6, 6, 6, 6, 6, 6, 6, 6, 6, 6, 6, 6, 6, 6, 6, 6, 6, 6, 6, 6, 6, 6, 6, 6, 6, 6, 6, 6, 7, 7, 7, 7, 7, 7, 7, 7, 7, 7, 7, 7, 7, 7, 7, 7, 7, 7, 7, 7, 7, 7, 7, 7, 7, 7, 7, 7, 7, 7, 7, 7, 7, 7, 7, 7, 7, 7, 7, 7, 7, 7, 7, 7, 7, 7, 7, 7, 7, 7, 7, 7, 7, 7, 7, 7, 7, 7, 7, 7, 7, 7, 7, 7, 8, 8, 8, 8, 8, 8, 8, 8, 8, 8, 8, 8, 8, 8, 8, 8, 8, 8, 8, 8, 8, 8, 8, 8, 8, 8, 8, 8, 8, 8, 8, 8, 8, 8, 8, 8, 8, 8, 8, 8, 8, 8, 8, 8, 8, 8, 8, 8, 8, 8, 8, 8, 8, 8, 8, 8, 8, 8, 8, 8, 8, 8, 8, 8, 8, 8, 8, 8, 8, 8, 8, 8, 8, 8, 8, 8, 8, 8, 8, 8, 8, 8, 8, 8, 8, 8, 8, 8, 8, 8, 8, 8, 8, 8, 8, 8, 8, 8, 8, 8, 8, 8, 8, 8, 8, 8, 8, 8, 8, 8, 8, 8, 8, 8, 8, 8, 8, 8, 8, 8, 8, 8, 8, 8, 8, 8, 8, 8]}
def lenOk (v : Nat) : Bool := match len8.data[v]? with | some b => decide (v < 2 ^ b.toNat) && (b.toNat == 0 || decide (2 ^ (b.toNat - 1) ≤ v)) && decide (b.toNat ≤ 8) | none => false
theorem len8_all : ((List.range 256).all lenOk) = true := by kernel_rfl
theorem len8_get {v : Nat} (h : v < 256) : ∃ b, len8[v]? = some b ∧ IsLen v b.toNat ∧ b.toNat ≤ 8 := by
  have := List.all_eq_true.1 len8_all v (by simpa using h)
  unfold lenOk at this
  have hs : 256 ≤ len8.data.size := Nat.le_of_ble_eq_true (by kernel_rfl)
  have hg : len8.data[v]? = some (len8.data[v]'(by omega)) := Array.getElem?_eq_getElem _
  rw [hg] at this
  simp only [Bool.and_eq_true, decide_eq_true_eq, Bool.or_eq_true, beq_iff_eq] at this
  refine ⟨len8.data[v]'(by omega), ?_, ⟨this.1.1, fun h => this.1.2.resolve_left (by omega)⟩, this.2⟩
  rw [getElem?_pos len8 v (by show v < len8.data.size; omega)]
  rfl

theorem wrap_u8 {x : Int} (h0 : 0 ≤ x) (h1 : x < 256) : IntKind.u8.wrap x = x := by
  simp only [IntKind.wrap, IntKind.bits, IntKind.signed]
  have : (2 : Int) ^ 8 = 256 := by decide
  simp [this, Int.emod_eq_of_lt h0 h1]
theorem hInt_u8 {m : HP} {x : Int} {K : Int → HP → Prop} (h0 : 0 ≤ x) (h1 : x < 256) (hk : K x m) : hInt .u8 x K m := by unfold hInt; rw [wrap_u8 h0 h1]; exact hk
theorem hByte_of {m : HP} {s : ByteArray} {i : Int} {b : UInt8} {K : Int → HP → Prop} (h0 : 0 ≤ i) (hb : s[i.toNat]? = some b) (hk : K b.toNat m) : hByte s i K m := ⟨h0, b, hb, hk⟩
theorem shr_nat (y : BitVec 64) (k : Nat) : (y >>> k).toNat = y.toNat / 2 ^ k := by rw [BitVec.toNat_ushiftRight, Nat.shiftRight_eq_div_pow]

theorem len_does (x : BitVec 64) (m : HP) : Does Tryd.prog 89 #[.int .u64 (W x)] m fun e m' => ∃ n : Nat, IsLen x.toNat n ∧ n ≤ 64 ∧ ret (.int .i64 n) m e m' := by
  refine F89_fn ?_
  unfold F89
  have hx := x.isLt
  refine hLet_of (fun s m' => m' = m ∧ ∃ (y : BitVec 64) (n : Nat), s = (W y, (n : Int), ()) ∧ y.toNat < 2 ^ 32 ∧ n ≤ 32 ∧ ∀ l, IsLen y.toNat l → IsLen x.toNat (n + l)) ?_ ?_
  · refine hIf_dec (fun h => ?_) (fun h => ?_)
    · refine hShr_W (by decide) ⟨rfl, x >>> 32, 32, rfl, ?_, by omega, fun l hl => ?_⟩
      · rw [shr_nat]; omega
      · rw [shr_nat] at hl; exact hl.shift (by unfold W at h; omega)
    · exact ⟨rfl, x, 0, rfl, by unfold W at h; omega, by omega, fun l hl => by simpa using hl⟩
  rintro s m' ⟨rfl, y, n, rfl, hy, hn, hl⟩
  refine hAll_of fun _ => ?_
  unfold F89_j4
  dsimp only
  refine hLet_of (fun s m'' => m'' = m' ∧ ∃ (y : BitVec 64) (n : Nat), s = (W y, (n : Int), ()) ∧ y.toNat < 2 ^ 16 ∧ n ≤ 48 ∧ ∀ l, IsLen y.toNat l → IsLen x.toNat (n + l)) ?_ ?_
  · refine hIf_dec (fun h => ?_) (fun h => ?_)
    · refine hShr_W (by decide) (hInt_i64 (by omega) (by omega) ⟨rfl, y >>> 16, n + 16, rfl, ?_, by omega, fun l hl' => ?_⟩)
      · rw [shr_nat]; omega
      · rw [shr_nat] at hl'; have := hl _ (hl'.shift (by unfold W at h; omega)); rwa [Nat.add_assoc]
    · exact ⟨rfl, y, n, rfl, by unfold W at h; omega, by omega, hl⟩
  rintro s m'' ⟨rfl, y, n, rfl, hy, hn, hl⟩
  refine hAll_of fun _ => ?_
  unfold F89_j7
  dsimp only
  refine hLet_of (fun s m' => m' = m'' ∧ ∃ (y : BitVec 64) (n : Nat), s = (W y, (n : Int), ()) ∧ y.toNat < 2 ^ 8 ∧ n ≤ 56 ∧ ∀ l, IsLen y.toNat l → IsLen x.toNat (n + l)) ?_ ?_
  · refine hIf_dec (fun h => ?_) (fun h => ?_)
    · refine hShr_W (by decide) (hInt_i64 (by omega) (by omega) ⟨rfl, y >>> 8, n + 8, rfl, ?_, by omega, fun l hl' => ?_⟩)
      · rw [shr_nat]; omega
      · rw [shr_nat] at hl'; have := hl _ (hl'.shift (by unfold W at h; omega)); rwa [Nat.add_assoc]
    · exact ⟨rfl, y, n, rfl, by unfold W at h; omega, by omega, hl⟩
  rintro s m' ⟨rfl, y, n, rfl, hy, hn, hl⟩
  refine hAll_of fun _ => ?_
  unfold F89_j10
  dsimp only
  obtain ⟨b, hb1, hb2, hb3⟩ := len8_get (v := y.toNat) (by omega)
  refine hInt_u8 (W_nonneg _) (by unfold W; omega) ?_
  refine hByte_of (W_nonneg _) hb1 ?_
  refine hInt_i64 (by omega) (by omega) (hInt_i64 (by omega) (by omega) ?_)
  exact ⟨n + b.toNat, hl _ hb2, by omega, rfl, Over.refl _⟩

/-- How many of the upper bits are not set. -/
def IsLz (x : BitVec 64) (t : Nat) : Prop := t ≤ 64 ∧ (∀ i, 64 - t ≤ i → i < 64 → x.getLsbD i = false) ∧ (t < 64 → x.getLsbD (63 - t) = true)
theorem IsLz.of_len {x : BitVec 64} {n : Nat} (h : IsLen x.toNat n) (hn : n ≤ 64) : IsLz x (64 - n) := by
  refine ⟨by omega, fun i hi _ => ?_, fun ht => ?_⟩
  · rw [BitVec.getLsbD]; exact Nat.testBit_lt_two_pow (Nat.lt_of_lt_of_le h.1 (Nat.pow_le_pow_right (by omega) (by omega)))
  · have hp : 0 < n := by omega
    have := h.2 hp
    rw [BitVec.getLsbD, show 63 - (64 - n) = n - 1 by omega]
    rw [Nat.testBit_eq_decide_div_mod_eq, decide_eq_true_eq]
    have h1 := h.1
    have e : 2 ^ n = 2 * 2 ^ (n - 1) := by rw [← Nat.pow_succ']; congr 1; omega
    have : x.toNat / 2 ^ (n - 1) = 1 := by
      apply Nat.div_eq_of_lt_le <;> omega
    rw [this]
theorem IsLz.uniq {x : BitVec 64} {t t' : Nat} (h : IsLz x t) (h' : IsLz x t') : t = t' := by
  rcases Nat.lt_trichotomy t t' with h1 | h1 | h1
  · have := h.2.2 (by have := h'.1; omega); rw [h'.2.1 _ (by omega) (by omega)] at this; cases this
  · exact h1
  · have := h'.2.2 (by have := h.1; omega); rw [h.2.1 _ (by omega) (by omega)] at this; cases this

theorem lz_does (x : BitVec 64) (m : HP) : Does Tryd.prog 88 #[.int .u64 (W x)] m fun e m' => ∃ t : Nat, IsLz x t ∧ ret (.int .i64 t) m e m' := by
  refine F88_fn ?_
  unfold F88
  refine hCall_of (len_does x m) ?_
  rintro e m' ⟨n, hn, hle, rfl, ho⟩
  refine ⟨m, ho, _, rfl, hInt_i64 (by omega) (by omega) ⟨64 - n, IsLz.of_len hn hle, ?_, Over.refl _⟩⟩
  rw [show (64 : Int) - (n : Int) = ((64 - n : Nat) : Int) by omega]

end Go.Proofs.YtolfcdjbchdkgaaDoor
/- Pages: the sums. Own work. -/
namespace Go.Proofs.YtolfcdjbchdkgaaDoor
open Go Go.Hp
set_option maxRecDepth 100000
attribute [local irreducible] hLoad hStore hNew hInt hQuo hRem hShl hShr hIf hNil hIdx hCut hElem hByte hAppend hMake hCall hYield hGet hPut hDel hNewMap hLoop hLet hAll hRange hRec hEq hCmp bitv W Does HYield

/-- What is told of a row of pages. -/
structure Sum where
  start : Nat
  most : Nat
  fin : Nat
  all : Nat

def sumC (s : Sum) : List Value := [.int .i64 (s.start : Int), .int .i64 (s.most : Int), .int .i64 (s.fin : Int), .int .i64 (s.all : Int)]
theorem sumC_len (s : Sum) : (sumC s).length = 4 := rfl

/-- No page of these is used. -/
def Free (U : Nat → Bool) (lo hi : Nat) : Prop := ∀ p, lo ≤ p → p < hi → U p = false

structure IsSum (U : Nat → Bool) (lo hi : Nat) (s : Sum) : Prop where
  le : lo ≤ hi
  all : s.all = hi - lo
  start_le : s.start ≤ s.all
  start : Free U lo (lo + s.start)
  start_end : s.start < s.all → U (lo + s.start) = true
  fin_le : s.fin ≤ s.all
  fin : Free U (hi - s.fin) hi
  fin_end : s.fin < s.all → U (hi - s.fin - 1) = true
  most : ∀ a n, lo ≤ a → a + n ≤ hi → Free U a (a + n) → n ≤ s.most
  most_at : ∃ a, lo ≤ a ∧ a + s.most ≤ hi ∧ Free U a (a + s.most)

def Sum.zero : Sum := ⟨0, 0, 0, 0⟩
theorem IsSum.zero (U : Nat → Bool) (lo : Nat) : IsSum U lo lo .zero where
  le := by simp
  all := by simp [Sum.zero]
  start_le := by simp [Sum.zero]
  start := by intro p h1 h2; simp [Sum.zero] at h2; omega
  start_end := by simp [Sum.zero]
  fin_le := by simp [Sum.zero]
  fin := by intro p h1 h2; simp [Sum.zero] at h1; omega
  fin_end := by simp [Sum.zero]
  most := by intro a n h1 h2 _; simp [Sum.zero]; omega
  most_at := ⟨lo, by simp [Sum.zero], by simp [Sum.zero], by intro p h1 h2; simp [Sum.zero] at h2; omega⟩

def Sum.both (a b : Sum) : Sum :=
  ⟨if a.start = a.all then a.start + b.start else a.start, max (max a.most b.most) (a.fin + b.start), if b.fin = b.all then b.fin + a.fin else b.fin, a.all + b.all⟩

theorem IsSum.both {U : Nat → Bool} {lo mid hi : Nat} {a b : Sum} (ha : IsSum U lo mid a) (hb : IsSum U mid hi b) : IsSum U lo hi (a.both b) where
  le := by have := ha.le; have := hb.le; omega
  all := by have := ha.le; have := hb.le; have := ha.all; have := hb.all; simp only [Sum.both]; omega
  start_le := by have := ha.start_le; have := hb.start_le; simp only [Sum.both]; split <;> omega
  start := by
    intro p h1 h2
    simp only [Sum.both] at h2
    have := ha.le; have := ha.all
    split at h2
    · rename_i e
      rcases Nat.lt_or_ge p mid with h | h
      · exact ha.start p h1 (by omega)
      · exact hb.start p h (by omega)
    · exact ha.start p h1 h2
  start_end := by
    intro h
    simp only [Sum.both] at h ⊢
    have := ha.le; have := ha.all; have := ha.start_le
    split at h
    · rename_i e
      rw [if_pos e]
      have := hb.start_end (by omega)
      rwa [show lo + (a.start + b.start) = mid + b.start by omega]
    · rename_i e; rw [if_neg e]; exact ha.start_end (by omega)
  fin_le := by have := ha.fin_le; have := hb.fin_le; simp only [Sum.both]; split <;> omega
  fin := by
    intro p h1 h2
    simp only [Sum.both] at h1
    have := hb.le; have := hb.all
    split at h1
    · rename_i e
      rcases Nat.lt_or_ge p mid with h | h
      · exact ha.fin p (by omega) h
      · exact hb.fin p (by omega) h2
    · exact hb.fin p h1 h2
  fin_end := by
    intro h
    simp only [Sum.both] at h ⊢
    have := hb.le; have := hb.all; have := hb.fin_le; have := ha.le; have := ha.all
    split at h
    · rename_i e
      rw [if_pos e]
      have := ha.fin_end (by omega)
      rwa [show hi - (b.fin + a.fin) - 1 = mid - a.fin - 1 by omega]
    · rename_i e; rw [if_neg e]; exact hb.fin_end (by omega)
  most := by
    intro x n h1 h2 hf
    simp only [Sum.both]
    have := ha.le; have := ha.all; have := hb.le; have := hb.all
    rcases Nat.le_total (x + n) mid with h | h
    · have := ha.most x n h1 h hf; omega
    · rcases Nat.le_total mid x with h' | h'
      · have := hb.most x n h' h2 hf; omega
      · -- across
        have h3 : mid - x ≤ a.fin := by
          rcases Nat.lt_or_ge a.fin (mid - x) with hlt | hge
          · have := ha.fin_end (by omega)
            rw [hf _ (by omega) (by omega)] at this; cases this
          · exact hge
        have h4 : x + n - mid ≤ b.start := by
          rcases Nat.lt_or_ge b.start (x + n - mid) with hlt | hge
          · have := hb.start_end (by omega)
            rw [hf _ (by omega) (by omega)] at this; cases this
          · exact hge
        omega
  most_at := by
    simp only [Sum.both]
    have := ha.le; have := ha.all; have := hb.le; have := hb.all; have := ha.fin_le; have := hb.start_le
    obtain ⟨x, hx1, hx2, hx3⟩ := ha.most_at
    obtain ⟨y, hy1, hy2, hy3⟩ := hb.most_at
    rcases Nat.le_total (max a.most b.most) (a.fin + b.start) with h | h
    · rw [Nat.max_eq_right h]
      refine ⟨mid - a.fin, by omega, by omega, fun p h1 h2 => ?_⟩
      rcases Nat.lt_or_ge p mid with h' | h'
      · exact ha.fin p h1 h'
      · exact hb.start p h' (by omega)
    · rw [Nat.max_eq_left h]
      rcases Nat.le_total a.most b.most with h' | h'
      · rw [Nat.max_eq_right h']; exact ⟨y, by omega, hy2, hy3⟩
      · rw [Nat.max_eq_left h']; exact ⟨x, hx1, by omega, hx3⟩

theorem imax (a b : Nat) : (if (b : Int) > (a : Int) then (b : Int) else (a : Int)) = ((max a b : Nat) : Int) := by split <;> omega
/-! ### both -/
theorem both_does (a b : Sum) (ha : a.start ≤ 4096 ∧ a.most ≤ 4096 ∧ a.fin ≤ 4096 ∧ a.all ≤ 4096) (hb : b.start ≤ 4096 ∧ b.most ≤ 4096 ∧ b.fin ≤ 4096 ∧ b.all ≤ 4096) (m : HP) :
    Does Tryd.prog 79 #[.agg (sumC a).toArray, .agg (sumC b).toArray] m (ret (.agg (sumC (a.both b)).toArray) m) := by
  refine F79_fn ?_
  unfold F79
  refine hNew_of fun b9 => hNew_of fun b10 => hNew_of fun b11 => ?_
  repeat' first
    | refine hLoad_int (by rfl) ?_
    | refine hStore4_0 ?_
    | refine hStore4_1 ?_
    | refine hStore4_2 ?_
    | refine hStore4_3 ?_
    | refine hNew_of fun _ => ?_
    | refine hInt_i64 (by omega) (by omega) ?_
    | refine hLet_strong ?_
    | refine hAll_of fun _ => ?_
    | refine hIf_eq (fun h => ?_) (fun h => ?_)
    | unfold F79_j4
    | unfold F79_j6
  all_goals
    refine ret.eq (agg4 ?_ ?_ ?_ ?_) (Over.of _ _)
    all_goals
      simp only [Sum.both, imax]
      repeat' split
      all_goals omega

theorem IsSum.congr {U U' : Nat → Bool} {lo hi : Nat} {s : Sum} (h : IsSum U lo hi s) (e : ∀ p, lo ≤ p → p < hi → U' p = U p) : IsSum U' lo hi s where
  le := h.le
  all := h.all
  start_le := h.start_le
  start := fun p h1 h2 => by have := h.all; have := h.start_le; have := h.le; rw [e p h1 (by omega)]; exact h.start p h1 h2
  start_end := fun hl => by have := h.all; have := h.le; rw [e _ (by omega) (by omega)]; exact h.start_end hl
  fin_le := h.fin_le
  fin := fun p h1 h2 => by have := h.all; have := h.fin_le; have := h.le; rw [e p (by omega) h2]; exact h.fin p h1 h2
  fin_end := fun hl => by have := h.all; have := h.le; rw [e _ (by omega) (by omega)]; exact h.fin_end hl
  most := fun a n h1 h2 hf => h.most a n h1 h2 fun p h3 h4 => by rw [← e p (by omega) (by omega)]; exact hf p h3 h4
  most_at := by
    obtain ⟨a, h1, h2, h3⟩ := h.most_at
    exact ⟨a, h1, h2, fun p h4 h5 => by rw [e p (by omega) (by omega)]; exact h3 p h4 h5⟩

/-- The same, further on. -/
theorem IsSum.shift {U U' : Nat → Bool} {n k : Nat} {s : Sum} (h : IsSum U 0 n s) (e : ∀ i, i < n → U' (k + i) = U i) : IsSum U' k (k + n) s where
  le := by omega
  all := by rw [h.all]; omega
  start_le := h.start_le
  start := fun p h1 h2 => by
    have := h.all; have := h.start_le
    rw [show p = k + (p - k) by omega, e _ (by omega)]; exact h.start _ (by omega) (by omega)
  start_end := fun hl => by have := h.all; rw [e _ (by omega)]; have := h.start_end hl; rwa [Nat.zero_add] at this
  fin_le := h.fin_le
  fin := fun p h1 h2 => by
    have := h.all; have := h.fin_le
    rw [show p = k + (p - k) by omega, e _ (by omega)]; exact h.fin _ (by omega) (by omega)
  fin_end := fun hl => by have := h.all; have := h.fin_end hl; rw [show k + n - s.fin - 1 = k + (n - s.fin - 1) by omega, e _ (by omega)]; exact this
  most := fun a l h1 h2 hf => h.most (a - k) l (by omega) (by omega) fun p h3 h4 => by rw [← e p (by omega)]; exact hf _ (by omega) (by omega)
  most_at := by
    obtain ⟨a, h1, h2, h3⟩ := h.most_at
    refine ⟨k + a, by omega, by omega, fun p h4 h5 => ?_⟩
    rw [show p = k + (p - k) by omega, e _ (by omega)]; exact h3 _ (by omega) (by omega)

/-! ### of -/
/-- After k rounds: where more than k free pages begin. -/
def RunsOf (w f : BitVec 64) (k : Nat) : Prop := ∀ p, p < 64 → (f.getLsbD p = true ↔ p + k < 64 ∧ ∀ j, j ≤ k → w.getLsbD (p + j) = false)
theorem RunsOf.first (w : BitVec 64) : RunsOf w (~~~w) 0 := by
  intro p hp
  simp only [BitVec.getLsbD_not, Bool.and_eq_true, decide_eq_true_eq, Bool.not_eq_true', Nat.add_zero]
  refine ⟨fun h => ⟨hp, fun j hj => ?_⟩, fun h => ⟨hp, ?_⟩⟩
  · obtain rfl : j = 0 := by omega
    simpa using h.2
  · have := h.2 0 (by omega); simpa using this
theorem RunsOf.next {w f : BitVec 64} {k : Nat} (h : RunsOf w f k) : RunsOf w (f &&& f >>> 1) (k + 1) := by
  intro p hp
  rw [BitVec.getLsbD_and, BitVec.getLsbD_ushiftRight, Bool.and_eq_true, h p hp]
  constructor
  · rintro ⟨⟨h1, h2⟩, h3⟩
    have h4 : 1 + p < 64 := by
      rcases Nat.lt_or_ge (1 + p) 64 with h | h
      · exact h
      · rw [BitVec.getLsbD_of_ge _ _ h] at h3; cases h3
    obtain ⟨h5, h6⟩ := (h _ h4).1 h3
    refine ⟨by omega, fun j hj => ?_⟩
    rcases Nat.eq_zero_or_pos j with rfl | hj0
    · exact h2 0 (by omega)
    · have := h6 (j - 1) (by omega); rwa [show 1 + p + (j - 1) = p + j by omega] at this
  · rintro ⟨h1, h2⟩
    refine ⟨⟨by omega, fun j hj => h2 j (by omega)⟩, ?_⟩
    rw [h _ (by omega)]
    refine ⟨by omega, fun j hj => ?_⟩
    have := h2 (j + 1) (by omega); rwa [show 1 + p + j = p + (j + 1) by omega]

theorem of_sum {w f : BitVec 64} {k e : Nat} (hr : RunsOf w f k) (hf : f = 0#64) (ha : ∃ a, a + k ≤ 64 ∧ Free w.getLsbD a (a + k)) (he : IsLz w e) : IsSum w.getLsbD 0 64 ⟨tz w, k, e, 64⟩ where
  le := by omega
  all := rfl
  start_le := tz_le w
  start := fun p _ h2 => tz_low (by simpa using h2)
  start_end := fun h => by simpa using tz_bit h
  fin_le := he.1
  fin := fun p h1 h2 => he.2.1 p h1 h2
  fin_end := fun h => by have := he.2.2 h; simp only; rwa [show 64 - e - 1 = 63 - e by omega]
  most := fun a n _ h2 hfr => by
    simp only
    rcases Nat.lt_or_ge k n with hlt | hge
    · have := (hr a (by omega)).2 ⟨by omega, fun j hj => hfr _ (by omega) (by omega)⟩
      rw [hf] at this; simp at this
    · exact hge
  most_at := by obtain ⟨a, h1, h2⟩ := ha; exact ⟨a, by omega, h1, h2⟩

theorem of_does (w : BitVec 64) {m r : HP} {T : TypeId} {fr : Nat × Nat} [Has 0 m (.cells deBc T fr) r] :
    Does Tryd.prog 78 #[.int .u64 (W w)] m fun e m' => ∃ s, IsSum w.getLsbD 0 64 s ∧ ret (.agg (sumC s).toArray) m e m' := by
  refine F78_fn ?_
  unfold F78
  refine hNew_of fun b2 => ?_
  refine hCall_ret (tz_does w) ⟨_, rfl, ?_⟩
  refine hCall_of (lz_does w _) ?_
  rintro e m' ⟨z, hz, rfl, ho⟩
  refine ⟨_, ho, _, rfl, ?_⟩
  have hz' := hz.1
  have ht' := tz_le w
  refine hNew_of fun b7 => ?_
  refine hStore4_0 (hStore4_1 (hStore4_2 (hStore4_3 ?_)))
  rw [bitv_not]
  refine hLoop_of (fun n x m' => ∃ (k : Nat) (f : BitVec 64), n = 64 - k ∧ x = (W f, ()) ∧ RunsOf w f k ∧ (∃ a, a + k ≤ 64 ∧ Free w.getLsbD a (a + k)) ∧
    m' = pt b7 (.cells #[.int .i64 (tz w : Nat), .int .i64 (k : Nat), .int .i64 (z : Nat), .int .i64 64] 131 (0, 0)) + (pt b2 (.cells #[.int .i64 0, .int .i64 0, .int .i64 0, .int .i64 0] 131 (0, 0)) + m)) ?_ ?_
  · exact ⟨64, 0, ~~~w, rfl, rfl, RunsOf.first w, ⟨0, by omega, fun p h1 h2 => by omega⟩, rfl⟩
  rintro n x m' ⟨k, f, rfl, rfl, hr, ⟨a, ha1, ha2⟩, rfl⟩
  refine hAll_of fun _ => ?_
  unfold F78_l3
  dsimp only
  refine hIf_neW0 (fun h => ?_) (fun h => ?_)
  · have hp : ∃ p, p < 64 ∧ f.getLsbD p = true := by
      rcases Classical.em (∃ p, p < 64 ∧ f.getLsbD p = true) with h' | h'
      · exact h'
      · exact absurd (BitVec.eq_of_getLsbD_eq fun i hi => by
          rcases hb : f.getLsbD i with _ | _
          · simp
          · exact absurd ⟨i, hi, hb⟩ h') h
    obtain ⟨p, hp1, hp2⟩ := hp
    have h3 := (hr p hp1).1 hp2
    refine hLoad_int (by rfl) (hInt_i64 (by omega) (by omega) (hStore4_1 (hShr_W (by decide) ?_)))
    rw [bitv_and]
    refine ⟨63 - k, by omega, k + 1, _, by omega, rfl, hr.next, ⟨p, by omega, fun q h4 h5 => ?_⟩, ?_⟩
    · have := h3.2 (q - p) (by omega); rwa [show p + (q - p) = q by omega] at this
    · rfl
  · repeat' first
      | refine hLoad_int (by rfl) ?_
      | refine hStore4_0 ?_
      | refine hStore4_1 ?_
      | refine hStore4_2 ?_
      | refine hStore4_3 ?_
    exact ⟨⟨tz w, k, z, 64⟩, of_sum hr h ⟨a, ha1, ha2⟩ hz, ret.mk (Over.of _ _)⟩

/-! ### within -/
theorem within_does (w : BitVec 64) (n : Nat) (hn : 1 ≤ n ∧ n ≤ 4096) {m r : HP} {T : TypeId} {fr : Nat × Nat} [Has 0 m (.cells deBc T fr) r] :
    Does Tryd.prog 80 #[.int .u64 (W w), .int .i64 n] m fun e m' => ∃ f, RunsOf w f (n - 1) ∧ ret (.int .i64 (tz f : Nat)) m e m' := by
  refine F80_fn ?_
  unfold F80
  refine hInt_i64 (by omega) (by omega) ?_
  rw [bitv_not]
  refine hLoop_of (fun c x m' => ∃ (k : Nat) (f : BitVec 64), c = n - 1 - k ∧ x = (W f, (k : Int), ()) ∧ k ≤ n - 1 ∧ RunsOf w f k ∧ m' = m) ?_ ?_
  · exact ⟨n - 1, 0, ~~~w, rfl, rfl, by omega, RunsOf.first w, rfl⟩
  rintro c x m' ⟨k, f, rfl, rfl, hk, hr, rfl⟩
  refine hAll_of fun _ => ?_
  unfold F80_l3
  dsimp only
  refine hIf_dec (fun h => ?_) (fun h => ?_)
  · refine hShr_W (by decide) (hInt_i64 (by omega) (by omega) ?_)
    rw [bitv_and]
    exact ⟨_, by omega, k + 1, _, rfl, rfl, by omega, hr.next, rfl⟩
  · refine hCall_ret (tz_does f) ⟨_, rfl, ?_⟩
    obtain rfl : k = n - 1 := by omega
    exact ⟨f, hr, rfl, Over.refl _⟩

end Go.Proofs.YtolfcdjbchdkgaaDoor
/- Pages: the layout in memory, Used, outside, renew. Own work. -/
namespace Go.Proofs.YtolfcdjbchdkgaaDoor
open Go Go.Hp
set_option maxRecDepth 100000
attribute [local irreducible] hLoad hStore hNew hInt hQuo hRem hShl hShr hIf hNil hIdx hCut hElem hByte hAppend hMake hCall hYield hGet hPut hDel hNewMap hLoop hLet hAll hRange hRec hEq hCmp bitv W Does HYield

/-! ### The levels -/
def foldS (l : List Sum) : Sum := l.foldl Sum.both .zero
def group (l : List Sum) (i : Nat) : List Sum := (l.drop (8 * i)).take 8
def groups (l : List Sum) : List Sum := (List.range ((l.length + 7) / 8)).map fun i => foldS (group l i)
def it : Nat → List Sum → List Sum
  | 0, l => l
  | j + 1, l => groups (it j l)
def levels (k : Nat) (l : List Sum) : List (List Sum) := (List.range k).map fun j => it j l
theorem groups_len (l : List Sum) : (groups l).length = (l.length + 7) / 8 := by simp [groups]
theorem groups_get (l : List Sum) (i : Nat) (h : i < (l.length + 7) / 8) : (groups l)[i]? = some (foldS (group l i)) := by
  simp [groups, h]
theorem group_set (l : List Sum) (i j : Nat) (s : Sum) (h : j ≠ i / 8) : group (l.set i s) j = group l j := by
  unfold group
  apply List.ext_getElem?
  intro k
  simp only [List.getElem?_take, List.getElem?_drop, List.getElem?_set]
  split
  · rw [if_neg (by omega)]
  · rfl
theorem groups_set (l : List Sum) (i : Nat) (s : Sum) : groups (l.set i s) = (groups l).set (i / 8) (foldS (group (l.set i s) (i / 8))) := by
  apply List.ext_getElem?
  intro j
  rw [List.getElem?_set]
  by_cases hj : j < (l.length + 7) / 8
  · rw [groups_get _ _ (by simpa using hj), groups_len]
    by_cases e : i / 8 = j
    · rw [if_pos e, e, if_pos hj]
    · rw [if_neg e, groups_get _ _ hj, group_set _ _ _ _ (Ne.symm e)]
  · rw [List.getElem?_eq_none (by rw [groups_len]; simpa using hj), groups_len]
    split
    · rename_i e; rw [if_neg (by omega)]
    · rw [List.getElem?_eq_none (by rw [groups_len]; simpa using hj)]
theorem it_len_set (j : Nat) (l : List Sum) (i : Nat) (s : Sum) : ∃ v, it j (l.set i s) = (it j l).set (i / 8 ^ j) v := by
  induction j with
  | zero => exact ⟨s, by simp [it]⟩
  | succ j ih =>
    obtain ⟨v, hv⟩ := ih
    refine ⟨foldS (group ((it j l).set (i / 8 ^ j) v) (i / 8 ^ j / 8)), ?_⟩
    simp only [it]
    rw [hv, groups_set, Nat.div_div_eq_div_mul, ← Nat.pow_succ]
theorem it_len {j : Nat} {l l' : List Sum} (h : l.length = l'.length) : (it j l).length = (it j l').length := by
  induction j with
  | zero => exact h
  | succ j ih => simp only [it, groups_len, ih]

/-! ### No sum is too great -/
def Sum.ok (s : Sum) : Prop := s.start ≤ s.all ∧ s.most ≤ s.all ∧ s.fin ≤ s.all
def tot (l : List Sum) : Nat := (l.map (·.all)).sum
theorem Sum.ok.both {a b : Sum} (ha : a.ok) (hb : b.ok) : (a.both b).ok := by
  obtain ⟨h1, h2, h3⟩ := ha; obtain ⟨h4, h5, h6⟩ := hb
  refine ⟨?_, ?_, ?_⟩ <;> simp only [Sum.both] <;> (try split) <;> omega
theorem foldl_ok {l : List Sum} : ∀ {z : Sum}, z.ok → (∀ s ∈ l, s.ok) → (l.foldl Sum.both z).ok ∧ (l.foldl Sum.both z).all = z.all + tot l := by
  induction l with
  | nil => intro z hz _; exact ⟨hz, by simp [tot]⟩
  | cons s l ih =>
    intro z hz h
    obtain ⟨h1, h2⟩ := ih (z := z.both s) (hz.both (h s (by simp))) (fun x hx => h x (by simp [hx]))
    refine ⟨h1, ?_⟩
    simp only [List.foldl_cons]
    rw [h2]; simp [tot, Sum.both]; omega
theorem Sum.ok.zero : Sum.zero.ok := by simp [Sum.ok, Sum.zero]
theorem tot_append (a b : List Sum) : tot (a ++ b) = tot a + tot b := by simp [tot]
theorem tot_le_of_sublist {a b : List Sum} (h : List.Sublist a b) : tot a ≤ tot b := by
  induction h with
  | slnil => exact Nat.le_refl _
  | cons x _ ih => simp [tot] at *; omega
  | cons_cons x _ ih => simp [tot] at *; omega
theorem mem_tot {l : List Sum} {s : Sum} (h : s ∈ l) : s.all ≤ tot l := by
  have := tot_le_of_sublist (List.singleton_sublist.2 h)
  simpa [tot] using this
theorem groups_ok {l : List Sum} (h : ∀ s ∈ l, s.ok) : (∀ s ∈ groups l, s.ok) ∧ ∀ s ∈ groups l, s.all ≤ tot l := by
  have key : ∀ s ∈ groups l, ∃ i, s = foldS (group l i) := fun s hs => by
    simp only [groups, List.mem_map] at hs; obtain ⟨i, _, rfl⟩ := hs; exact ⟨i, rfl⟩
  constructor
  · intro s hs
    obtain ⟨i, rfl⟩ := key s hs
    exact (foldl_ok .zero fun x hx => h x ((List.take_sublist _ _).mem hx |> (List.drop_sublist _ _).mem)).1
  · intro s hs
    obtain ⟨i, rfl⟩ := key s hs
    have := (foldl_ok (l := group l i) .zero fun x hx => h x ((List.take_sublist _ _).mem hx |> (List.drop_sublist _ _).mem)).2
    unfold foldS
    rw [this]
    have h2 : tot (group l i) ≤ tot l := tot_le_of_sublist ((List.take_sublist _ _).trans (List.drop_sublist _ _))
    simp [Sum.zero]; exact h2
theorem drop_groups (l : List Sum) (i : Nat) : tot (l.drop (8 * i)) = tot (group l i) + tot (l.drop (8 * (i + 1))) := by
  unfold group
  have : l.drop (8 * (i + 1)) = (l.drop (8 * i)).drop 8 := by rw [List.drop_drop]; congr 1
  rw [this, ← tot_append, List.take_append_drop]
theorem tot_groups {l : List Sum} (h : ∀ s ∈ l, s.ok) : tot (groups l) = tot l := by
  have hf : ∀ i, (foldS (group l i)).all = tot (group l i) := fun i => by
    have := (foldl_ok (l := group l i) .zero fun x hx => h x ((List.take_sublist _ _).mem hx |> (List.drop_sublist _ _).mem)).2
    unfold foldS; rw [this]; simp [Sum.zero]
  have key : ∀ n, tot ((List.range n).map fun i => foldS (group l i)) + tot (l.drop (8 * n)) = tot l := by
    intro n
    induction n with
    | zero => simp [tot]
    | succ n ih =>
      rw [List.range_succ, List.map_append, tot_append]
      have h1 := drop_groups l n
      have h2 : tot (List.map (fun i => foldS (group l i)) [n]) = tot (group l n) := by simp [tot, hf]
      rw [h2]; omega
  have := key ((l.length + 7) / 8)
  unfold groups
  have hd : l.drop (8 * ((l.length + 7) / 8)) = [] := List.drop_eq_nil_of_le (by omega)
  rw [hd] at this; simpa [tot] using this
theorem it_ok {l : List Sum} (h : ∀ s ∈ l, s.ok) (j : Nat) : (∀ s ∈ it j l, s.ok) ∧ tot (it j l) = tot l := by
  induction j with
  | zero => exact ⟨h, rfl⟩
  | succ j ih => exact ⟨(groups_ok ih.1).1, (tot_groups ih.1).trans ih.2⟩
theorem Sum.ok.bound {s : Sum} {l : List Sum} (h : s.ok) (hm : s ∈ l) {B : Nat} (hb : tot l ≤ B) : s.start ≤ B ∧ s.most ≤ B ∧ s.fin ≤ B ∧ s.all ≤ B := by
  have := mem_tot hm; obtain ⟨h1, h2, h3⟩ := h; omega

end Go.Proofs.YtolfcdjbchdkgaaDoor
/- Pages: the layout in memory; Used, outside, renew. Own work. -/
namespace Go.Proofs.YtolfcdjbchdkgaaDoor
open Go Go.Hp
set_option maxRecDepth 100000
attribute [local irreducible] hLoad hStore hNew hInt hQuo hRem hShl hShr hIf hNil hIdx hCut hElem hByte hAppend hMake hCall hYield hGet hPut hDel hNewMap hLoop hLet hAll hRange hRec hEq hCmp bitv W Does HYield

/-- Where a map of pages lies. -/
structure PL where
  p : Nat
  ub : Nat
  sb : Nat
  bs : List Nat
  sc : Array Value
  scap : Nat

def wordC (w : BitVec 64) : List Value := [.int .u64 (W w)]
theorem wordC_len (w : BitVec 64) : (wordC w).length = 1 := rfl

def lvH : List Nat → List (List Sum) → HP
  | b :: bs, l :: ls => pt b (.cells (rows sumC l) 131 (0, 0)) + lvH bs ls
  | _, _ => 0

theorem lvH_get : ∀ {bs : List Nat} {ls : List (List Sum)} {j b : Nat} {l : List Sum}, bs[j]? = some b → ls[j]? = some l →
    ∃ r, lvH bs ls = pt b (.cells (rows sumC l) 131 (0, 0)) + r ∧ ∀ l', lvH bs (ls.set j l') = pt b (.cells (rows sumC l') 131 (0, 0)) + r
  | [], _, j, b, l, h, _ => by simp at h
  | _ :: _, [], j, b, l, _, h => by simp at h
  | b0 :: bs, l0 :: ls, 0, b, l, h1, h2 => by
    simp only [List.getElem?_cons_zero, Option.some.injEq] at h1 h2; subst h1 h2
    exact ⟨lvH bs ls, rfl, fun l' => rfl⟩
  | b0 :: bs, l0 :: ls, j + 1, b, l, h1, h2 => by
    simp only [List.getElem?_cons_succ] at h1 h2
    obtain ⟨r, h3, h4⟩ := lvH_get h1 h2
    refine ⟨pt b0 (.cells (rows sumC l0) 131 (0, 0)) + r, ?_, fun l' => ?_⟩
    · simp only [lvH, h3]; rw [HP.add_left_comm]
    · simp only [List.set_cons_succ, lvH, h4]; rw [HP.add_left_comm]

def hdC (L : PL) (n : Nat) (us : List (BitVec 64)) (k : Nat) : Array Value :=
  #[.int .i64 (n : Int), .slice (some ⟨L.ub, 0, none⟩) us.length us.length, .slice (some ⟨L.sb, 0, none⟩) k L.scap]

/-- A map of pages. -/
def pagesH (L : PL) (n : Nat) (us : List (BitVec 64)) (ls : List (List Sum)) : HP :=
  pt L.p (.cells (hdC L n us ls.length) 122 (0, 0)) + (pt L.ub (.cells (rows wordC us) 105 (0, 0)) + (pt L.sb (.cells L.sc 123 (0, 0)) + lvH L.bs ls))
def restP (L : PL) (us : List (BitVec 64)) (ls : List (List Sum)) : HP := pt L.ub (.cells (rows wordC us) 105 (0, 0)) + (pt L.sb (.cells L.sc 123 (0, 0)) + lvH L.bs ls)
def restU (L : PL) (n : Nat) (us : List (BitVec 64)) (ls : List (List Sum)) : HP := pt L.p (.cells (hdC L n us ls.length) 122 (0, 0)) + (pt L.sb (.cells L.sc 123 (0, 0)) + lvH L.bs ls)
def restS (L : PL) (n : Nat) (us : List (BitVec 64)) (ls : List (List Sum)) : HP := pt L.p (.cells (hdC L n us ls.length) 122 (0, 0)) + (pt L.ub (.cells (rows wordC us) 105 (0, 0)) + lvH L.bs ls)
instance pagesP (L : PL) (n : Nat) (us : List (BitVec 64)) (ls : List (List Sum)) : Has L.p (pagesH L n us ls) (.cells (hdC L n us ls.length) 122 (0, 0)) (restP L us ls) := ⟨rfl⟩
instance pagesU (L : PL) (n : Nat) (us : List (BitVec 64)) (ls : List (List Sum)) : Has L.ub (pagesH L n us ls) (.cells (rows wordC us) 105 (0, 0)) (restU L n us ls) := ⟨by unfold pagesH restU; ac_rfl⟩
instance pagesS (L : PL) (n : Nat) (us : List (BitVec 64)) (ls : List (List Sum)) : Has L.sb (pagesH L n us ls) (.cells L.sc 123 (0, 0)) (restS L n us ls) := ⟨by unfold pagesH restS; ac_rfl⟩
theorem pages_putU (L : PL) (n : Nat) (us us' : List (BitVec 64)) (ls : List (List Sum)) (h : us'.length = us.length) : pt L.ub (.cells (rows wordC us') 105 (0, 0)) + restU L n us ls = pagesH L n us' ls := by
  unfold pagesH restU hdC; rw [h]; ac_rfl
/-- A level of it. -/
theorem pages_level (L : PL) (n : Nat) (us : List (BitVec 64)) (ls : List (List Sum)) {j b : Nat} {l : List Sum} (h1 : L.bs[j]? = some b) (h2 : ls[j]? = some l) :
    ∃ r, Has b (pagesH L n us ls) (.cells (rows sumC l) 131 (0, 0)) r ∧ ∀ l', pt b (.cells (rows sumC l') 131 (0, 0)) + r = pagesH L n us (ls.set j l') := by
  obtain ⟨r, h3, h4⟩ := lvH_get h1 h2
  refine ⟨pt L.p (.cells (hdC L n us ls.length) 122 (0, 0)) + (pt L.ub (.cells (rows wordC us) 105 (0, 0)) + (pt L.sb (.cells L.sc 123 (0, 0)) + r)), ⟨?_⟩, fun l' => ?_⟩
  · unfold pagesH; rw [h3]; ac_rfl
  · unfold pagesH; rw [h4, List.length_set]; ac_rfl

/-- The slices of the levels stand in the block of the sums. -/
def PLok (L : PL) (k : Nat) (len : Nat → Nat) : Prop := L.bs.length = k ∧ ∀ j b, L.bs[j]? = some b → L.sc[j]? = some (Value.slice (some ⟨b, 0, none⟩) (len j) (len j))

/-- Is a page used? What there isn't, is. -/
def Us (us : List (BitVec 64)) (p : Nat) : Bool := match us[p / 64]? with | some w => w.getLsbD (p % 64) | none => true

theorem rowsW {us : List (BitVec 64)} {i o : Nat} {w : BitVec 64} (ho : o = i * 1) (h : us[i]? = some w) : (rows wordC us)[o]? = some (.int .u64 (W w)) := by
  rw [rows_get wordC_len (i := i) (j := 0) (by omega) (by omega) h]; rfl

theorem and1 (w : BitVec 64) (k : Nat) : (W (w >>> k &&& 1#64) == 1) = w.getLsbD k := by
  have e : (1 : Int) = W 1#64 := W_lit 1 (by decide)
  have e2 : (w >>> k &&& 1#64) = if w.getLsbD k then 1#64 else 0#64 := by
    apply BitVec.eq_of_getLsbD_eq
    intro i hi
    rw [BitVec.getLsbD_and, BitVec.getLsbD_ushiftRight]
    rcases i with _ | i
    · cases h : w.getLsbD k <;> simp [h]
    · have : (1#64).getLsbD (i + 1) = false := by simp [BitVec.getLsbD_one]
      rw [this]; split <;> simp [BitVec.getLsbD_one]
  rw [e2]
  cases w.getLsbD k <;> simp only [if_true, if_false, Bool.false_eq_true] <;> rw [e]
  · rw [beq_eq_false_iff_ne]; intro h; have := W_inj.1 h; revert this; decide
  · simp

/-! ### Used -/
theorem used_nil (at_ : Int) (m : HP) : Does Tryd.prog 42 #[.pointer none, .int .i64 at_] m (ret (.bool true) m) := by
  refine F42_fn ?_
  unfold F42
  exact hIf_true rfl ⟨rfl, Over.refl _⟩

/-- Is a page used: of an integer. -/
def usedI (n : Nat) (us : List (BitVec 64)) (at_ : Int) : Bool := decide (at_ < 0) || decide ((n : Int) ≤ at_) || Us us at_.toNat

theorem used_does (L : PL) {n : Nat} {us : List (BitVec 64)} {ls : List (List Sum)} (hn : n ≤ 64 * us.length) (hn' : n ≤ 4096) (at_ : Int) {m r : HP} [hs : Sub (pagesH L n us ls) m r] :
    Does Tryd.prog 42 #[.pointer (some ⟨L.p, 0, none⟩), .int .i64 at_] m (ret (.bool (usedI n us at_)) m) := by
  rw [hs.eq]
  refine F42_fn ?_
  unfold F42 usedI
  refine hIf_false rfl ?_
  refine hIf_dec (fun h => ?_) (fun h => ?_)
  · simp only [h, decide_true, Bool.true_or]; exact ⟨rfl, Over.refl _⟩
  refine hNil_some (hLoad_int (by rfl) ?_)
  refine hIf_dec (fun h' => ?_) (fun h' => ?_)
  · have h' : (n : Int) ≤ at_ := h'
    simp only [h', decide_true, Bool.or_true, Bool.true_or]; exact ⟨rfl, Over.refl _⟩
  have h'' : ¬ (n : Int) ≤ at_ := h'
  simp only [h, h'', decide_false, Bool.false_or]
  obtain ⟨a, rfl⟩ := Int.eq_ofNat_of_zero_le (a := at_) (by omega)
  have hlt : a / 64 < us.length := by omega
  refine hNil_some (hLoad_add (hLoad_slice (by rfl) ?_))
  dsimp only
  refine hQuo_pos (by omega) (by omega) (by omega) (hIdx_of (by omega) (by omega) ?_)
  have hg : us[a / 64]? = some us[a / 64] := List.getElem?_eq_getElem hlt
  refine hLoad_int (rowsW (by omega) hg) (hRem_pos (by omega) (by omega) (hShr_W (by omega) ?_))
  have e1 : (1 : Int) = W 1#64 := W_lit 1 (by decide)
  refine ret.eq ?_ (Over.refl _)
  rw [e1, bitv_and, ← e1, and1]
  unfold Us
  rw [Int.toNat_natCast, hg, show ((a : Int) % 64).toNat = a % 64 by omega]

/-! ### outside -/
theorem outside_does (L : PL) {n : Nat} {us : List (BitVec 64)} {ls : List (List Sum)} (hn' : n ≤ 4096) (base k : Int) {m r : HP} [hs : Sub (pagesH L n us ls) m r] :
    Does Tryd.prog 81 #[.pointer (some ⟨L.p, 0, none⟩), .int .i64 base, .int .i64 k] m (ret (.bool (decide (base < 0 ∨ k < 1 ∨ base ≥ n ∨ k > n - base))) m) := by
  rw [hs.eq]
  refine F81_fn ?_
  unfold F81
  refine hIf_dec (fun h => ret.eq (by simp [h]) (Over.refl _)) (fun h => ?_)
  refine hIf_dec (fun h => ret.eq (by simp [h]) (Over.refl _)) (fun h => ?_)
  refine hNil_some (hLoad_int (by rfl) ?_)
  refine hIf_dec (fun h => ret.eq (by simp [h]) (Over.refl _)) (fun h => ?_)
  refine hNil_some (hLoad_int (by rfl) (hInt_i64 (by omega) (by omega) ?_))
  refine ret.eq ?_ (Over.refl _)
  congr 1
  simp only [decide_eq_decide]
  omega

end Go.Proofs.YtolfcdjbchdkgaaDoor
