/- Rules for walking through the printed predicates. Own work; nothing of any program. -/
import Derived.Test.YtolfcdjbchdkgaaDoorH12
namespace Go.Hp
open Go

/-! ### Parts of a heaplet -/
/-- m is X and the rest r, found by instances. -/
class Sub (X m : HP) (r : outParam HP) : Prop where
  eq : m = X + r
instance Sub.zero (m : HP) : Sub 0 m m := ⟨by simp⟩
instance (priority := high) Sub.refl (m : HP) : Sub m m 0 := ⟨by simp⟩
instance Sub.atom (b : Nat) (o : Obj) (m r : HP) [h : Has b m o r] : Sub (pt b o) m r := ⟨h.eq⟩
instance (priority := low) Sub.both (A B m r r' : HP) [h1 : Sub A m r] [h2 : Sub B r r'] : Sub (A + B) m r' := ⟨by rw [h1.eq, h2.eq, HP.add_assoc]⟩
instance (priority := high) Sub.head (X y : HP) : Sub X (X + y) y := ⟨rfl⟩
instance Sub.last (X y : HP) : Sub X (y + X) y := ⟨HP.add_comm _ _⟩
instance (priority := low) Sub.inl (X a b r : HP) [h : Sub X a r] : Sub X (a + b) (r + b) := ⟨by rw [h.eq, HP.add_assoc]⟩
instance (priority := low) Sub.inr (X a b r : HP) [h : Sub X b r] : Sub X (a + b) (a + r) := ⟨by rw [h.eq, HP.add_left_comm]⟩

theorem Sub.ex (X m : HP) {r : HP} [h : Sub X m r] : ∃ g, m = X + g := ⟨r, h.eq⟩

/-- m holds M and more. -/
def Over (M m : HP) : Prop := ∃ g, m = M + g
theorem Over.refl (m : HP) : Over m m := ⟨0, by simp⟩
theorem Over.of (M m : HP) {r : HP} [h : Sub M m r] : Over M m := ⟨r, h.eq⟩
theorem Over.trans {a b c : HP} (h1 : Over a b) (h2 : Over b c) : Over a c := by
  obtain ⟨g, rfl⟩ := h1; obtain ⟨k, rfl⟩ := h2; exact ⟨g + k, HP.add_assoc _ _ _⟩
theorem Over.trans' {a b c : HP} (h1 : Over b c) (e : a = b) : Over a c := by rw [e]; exact h1
theorem Over.left (a b : HP) : Over a (a + b) := ⟨b, rfl⟩
theorem Over.right (a b : HP) : Over b (a + b) := ⟨a, HP.add_comm _ _⟩
theorem Over.add {a b : HP} (h : Over a b) (c : HP) : Over (a + c) (b + c) := by
  obtain ⟨g, rfl⟩ := h; exact ⟨g, by rw [HP.add_assoc, HP.add_assoc, HP.add_comm g c]⟩

/-- The function returned this, and this is left, at least. -/
def ret (v : Value) (M : HP) : Ending → HP → Prop := fun e m' => e = .returned v ∧ Over M m'
theorem ret.mk {v : Value} {M m' : HP} (h : Over M m') : ret v M (.returned v) m' := ⟨rfl, h⟩
theorem ret.of {v : Value} (M m' : HP) {r : HP} [h : Sub M m' r] : ret v M (.returned v) m' := ⟨rfl, r, h.eq⟩

theorem Holds.over {w : World} {M m : HP} (h : Holds w m) (ho : Over M m) : Holds w M := by obtain ⟨g, rfl⟩ := ho; exact h.left

theorem Does.up {P : Program} {f : FuncId} {args : Array Value} {m : HP} {R R' : Ending → HP → Prop} (h : Does P f args m R) (hr : ∀ e m', R e m' → ∃ m'', Over m'' m' ∧ R' e m'') : Does P f args m R' :=
  ⟨h.1, fun w hw => (h.2 w hw).mono fun e w' ⟨m', h1, h2⟩ => by
    obtain ⟨m'', h3, h4⟩ := hr e m' h2
    exact ⟨m'', h1.over h3, h4⟩⟩
/-- From a greater heaplet. -/
theorem Does.from {P : Program} {f : FuncId} {args : Array Value} {m m0 : HP} {R : Ending → HP → Prop} (h : Does P f args m0 R) (ho : Over m0 m) : Does P f args m R :=
  ⟨h.1, fun w hw => h.2 w (hw.over ho)⟩

section rules
variable {P : Program} {m : HP}
theorem hCall_of {f : FuncId} {args : Array Value} {K : Value → HP → Prop} {X : List PanicEntry → HP → Prop} {R : Ending → HP → Prop} (hd : Does P f args m R) (hk : ∀ e m', R e m' → ∃ m'', Over m'' m' ∧ retX K X e m'') : hCall P f args X K m := hd.up hk
theorem hCall_ret {f : FuncId} {args : Array Value} {K : Value → HP → Prop} {X : List PanicEntry → HP → Prop} {v : Value} {M : HP} (hd : Does P f args m (ret v M)) (hk : K v M) : hCall P f args X K m :=
  hd.up fun e m' ⟨he, ho⟩ => ⟨M, ho, by subst he; exact hk⟩
theorem hCall_post {f : FuncId} {args : Array Value} {K : Value → HP → Prop} {X : List PanicEntry → HP → Prop} {S : Value → HP → Prop} (hd : Does P f args m fun e m' => ∃ v m'', e = .returned v ∧ Over m'' m' ∧ S v m'') (hk : ∀ v m', S v m' → K v m') : hCall P f args X K m :=
  hd.up fun e m' ⟨v, m'', he, ho, hs⟩ => ⟨m'', ho, by subst he; exact hk v m'' hs⟩

theorem hNil_some {a : Addr} {K : Addr → HP → Prop} (h : K a m) : hNil (some a) K m := ⟨a, rfl, h⟩

theorem hLoad_at {t : Ty} {b o : Nat} {c : Array Value} {T : TypeId} {fr : Nat × Nat} {r : HP} {K : t.T → HP → Prop} [h : Has b m (.cells c T fr) r] {x : t.T} (hc : c[o]? = some (t.val x)) (hk : K x m) : hLoad t ⟨b, o, none⟩ K m :=
  ⟨x, ⟨c, T, fr, r, h.eq, rfl, hc⟩, hk⟩
theorem add_eq (b o n : Nat) : Addr.add ⟨b, o, none⟩ n = ⟨b, o + n, none⟩ := by simp [Addr.add_lit]
theorem hLoad_add {t : Ty} {b o n : Nat} {K : t.T → HP → Prop} (h : hLoad t ⟨b, o + n, none⟩ K m) : hLoad t (Addr.add ⟨b, o, none⟩ n) K m := by rw [add_eq]; exact h
theorem hStore_add {v : Value} {b o n : Nat} {K : HP → Prop} (h : hStore v ⟨b, o + n, none⟩ K m) : hStore v (Addr.add ⟨b, o, none⟩ n) K m := by rw [add_eq]; exact h
theorem hLoad_int {k : IntKind} {b o : Nat} {c : Array Value} {T : TypeId} {fr : Nat × Nat} {r : HP} {K : Int → HP → Prop} [Has b m (.cells c T fr) r] {x : Int} (hc : c[o]? = some (.int k x)) (hk : K x m) : hLoad (.int k) ⟨b, o, none⟩ K m := hLoad_at hc hk
theorem hLoad_bool {b o : Nat} {c : Array Value} {T : TypeId} {fr : Nat × Nat} {r : HP} {K : Bool → HP → Prop} [Has b m (.cells c T fr) r] {x : Bool} (hc : c[o]? = some (.bool x)) (hk : K x m) : hLoad .bool ⟨b, o, none⟩ K m := hLoad_at hc hk
theorem hLoad_ptr {b o : Nat} {c : Array Value} {T : TypeId} {fr : Nat × Nat} {r : HP} {K : Option Addr → HP → Prop} [Has b m (.cells c T fr) r] {x : Option Addr} (hc : c[o]? = some (.pointer x)) (hk : K x m) : hLoad .ptr ⟨b, o, none⟩ K m := hLoad_at hc hk
theorem hLoad_slice {b o : Nat} {c : Array Value} {T : TypeId} {fr : Nat × Nat} {r : HP} {K : Sl → HP → Prop} [Has b m (.cells c T fr) r] {a : Option Addr} {n cp : Nat} (hc : c[o]? = some (.slice a n cp)) (hk : K ⟨a, n, cp⟩ m) : hLoad .slice ⟨b, o, none⟩ K m := hLoad_at (t := .slice) (x := ⟨a, n, cp⟩) hc hk
theorem hLoad_map {b o : Nat} {c : Array Value} {T : TypeId} {fr : Nat × Nat} {r : HP} {K : Option Nat → HP → Prop} [Has b m (.cells c T fr) r] {x : Option Nat} (hc : c[o]? = some (.map x)) (hk : K x m) : hLoad .map ⟨b, o, none⟩ K m := hLoad_at hc hk
theorem hLoad_any {b o : Nat} {c : Array Value} {T : TypeId} {fr : Nat × Nat} {r : HP} {K : Value → HP → Prop} [Has b m (.cells c T fr) r] {x : Value} (hc : c[o]? = some x) (hk : K x m) : hLoad .any ⟨b, o, none⟩ K m := hLoad_at (t := .any) hc hk

theorem hStore_at {v : Value} {b o : Nat} {c : Array Value} {T : TypeId} {r : HP} {K : HP → Prop} [h : Has b m (.cells c T (0, 0)) r] (ho : o < c.size) (hk : K (pt b (.cells (c.setIfInBounds o v) T (0, 0)) + r)) : hStore v ⟨b, o, none⟩ K m :=
  ⟨c, T, (0, 0), r, h.eq, rfl, ho, by simp, hk⟩

theorem hNew_of {c : Array Value} {T : TypeId} {K : Nat → HP → Prop} (h : ∀ b, K b (pt b (.cells c T (0, 0)) + m)) : hNew c T K m := h
theorem hInt_i64 {x : Int} {K : Int → HP → Prop} (h0 : -9223372036854775808 ≤ x) (h1 : x ≤ 9223372036854775807) (hk : K x m) : hInt .i64 x K m := by
  unfold hInt; rw [wrap_i64 h0 h1]; exact hk
theorem wrap_u64 {x : Int} : IntKind.u64.wrap x = x % 18446744073709551616 := by
  simp only [IntKind.wrap, IntKind.bits, IntKind.signed]
  have : (2 : Int) ^ 64 = 18446744073709551616 := by decide
  simp [this]
theorem hInt_u64 {x : Int} {K : Int → HP → Prop} (h0 : 0 ≤ x) (h1 : x < 18446744073709551616) (hk : K x m) : hInt .u64 x K m := by
  unfold hInt; rw [wrap_u64, Int.emod_eq_of_lt h0 h1]; exact hk
theorem hIf_true {c : Bool} {A B : HP → Prop} (h : c = true) (hk : A m) : hIf c A B m := ⟨fun _ => hk, fun h' => by rw [h] at h'; cases h'⟩
theorem hIf_false {c : Bool} {A B : HP → Prop} (h : c = false) (hk : B m) : hIf c A B m := ⟨fun h' => (by rw [h] at h'; cases h'), fun _ => hk⟩
theorem hIf_pos {p : Prop} [Decidable p] {A B : HP → Prop} (h : p) (hk : A m) : hIf (decide p) A B m := hIf_true (by simpa using h) hk
theorem hIf_neg {p : Prop} [Decidable p] {A B : HP → Prop} (h : ¬ p) (hk : B m) : hIf (decide p) A B m := hIf_false (by simpa using h) hk
theorem hIf_dec {p : Prop} [Decidable p] {A B : HP → Prop} (h1 : p → A m) (h2 : ¬ p → B m) : hIf (decide p) A B m := ⟨fun h => h1 (of_decide_eq_true h), fun h => h2 (of_decide_eq_false h)⟩
theorem hIf_eq {x y : Int} {A B : HP → Prop} (h1 : x = y → A m) (h2 : x ≠ y → B m) : hIf (x == y) A B m := ⟨fun h => h1 (by simpa using h), fun h => h2 (by simpa using h)⟩
theorem hIf_ne {x y : Int} {A B : HP → Prop} (h1 : x ≠ y → A m) (h2 : x = y → B m) : hIf (x != y) A B m := ⟨fun h => h1 (by simpa using h), fun h => h2 (by simpa using h)⟩
theorem hIf_eqT {x y : Int} {A B : HP → Prop} (h : x = y) (hk : A m) : hIf (x == y) A B m := hIf_true (by simpa using h) hk
theorem hIf_eqF {x y : Int} {A B : HP → Prop} (h : x ≠ y) (hk : B m) : hIf (x == y) A B m := hIf_false (by simpa using h) hk
theorem hIf_neT {x y : Int} {A B : HP → Prop} (h : x ≠ y) (hk : A m) : hIf (x != y) A B m := hIf_true (by simpa using h) hk
theorem hIf_neF {x y : Int} {A B : HP → Prop} (h : x = y) (hk : B m) : hIf (x != y) A B m := hIf_false (by simpa using h) hk
theorem hIf_split {c : Bool} {A B : HP → Prop} (h1 : c = true → A m) (h2 : c = false → B m) : hIf c A B m := ⟨h1, h2⟩
theorem hIf_not {c : Bool} {A B : HP → Prop} (h : hIf c B A m) : hIf (!c) A B m := ⟨fun hc => h.2 (by simpa using hc), fun hc => h.1 (by simpa using hc)⟩
theorem hIdx_of {b o n size : Nat} {i : Int} {K : Addr → HP → Prop} (h0 : 0 ≤ i) (h1 : i < n) (hk : K ⟨b, o + i.toNat * size, none⟩ m) : hIdx (some ⟨b, o, none⟩) n i size K m :=
  ⟨_, rfl, h0, h1, by rw [add_eq]; exact hk⟩
theorem tdiv_pos {a b : Int} (ha : 0 ≤ a) : a.tdiv b = a / b := Int.tdiv_eq_ediv_of_nonneg ha
theorem tmod_pos {a b : Int} (ha : 0 ≤ a) : a.tmod b = a % b := Int.tmod_eq_emod_of_nonneg ha
theorem hQuo_pos {a b : Int} {K : Int → HP → Prop} (ha : 0 ≤ a) (ha' : a ≤ 9223372036854775807) (hb : 0 < b) (hk : K (a / b) m) : hQuo .i64 a b K m := by
  refine ⟨by omega, ?_⟩
  rw [tdiv_pos ha, wrap_i64]
  · exact hk
  · have := Int.ediv_nonneg ha (Int.le_of_lt hb); omega
  · have := Int.ediv_le_self b ha; omega
theorem hRem_pos {a b : Int} {K : Int → HP → Prop} (ha : 0 ≤ a) (hb : 0 < b) (hk : K (a % b) m) : hRem a b K m := by
  refine ⟨by omega, ?_⟩
  rw [tmod_pos ha]; exact hk
theorem hCut_of {b o cap size : Nat} {lo hi : Int} {K : Sl → HP → Prop} (h0 : 0 ≤ lo) (h1 : lo ≤ hi) (h2 : hi ≤ cap)
    (hk : K ⟨some ⟨b, if (cap : Int) = lo then o else o + lo.toNat * size, none⟩, (hi - lo).toNat, (cap - lo).toNat⟩ m) : hCut (some ⟨b, o, none⟩) cap lo hi size K m := by
  refine ⟨h0, h1, h2, ?_⟩
  simp only [Option.map_some, add_eq]
  by_cases e : (cap : Int) = lo
  · rw [if_pos e] at hk ⊢; exact hk
  · rw [if_neg e] at hk ⊢; exact hk
theorem hMake_of {size bytes : Nat} {zero : Array Value} {e : TypeId} {l c : Int} {K : Nat → HP → Prop} (h0 : 0 ≤ l) (h1 : l ≤ c) (h2 : c ≤ 281474976710656) (h3 : bytes * c ≤ 281474976710656)
    (hk : ∀ b, K b (pt b (.cells (makeCells zero (c.toNat * size)) e (0, 0)) + m)) : hMake size bytes zero e l c K m :=
  ⟨h0, h1, by simpa using h2, by simpa using h3, hk⟩
theorem hLoop_of {α : Type} {x0 : α} {body : α → (α → HP → Prop) → HP → Prop} (I : Nat → α → HP → Prop) (h0 : ∃ k, I k x0 m) (hs : ∀ k x m, I k x m → body x (fun x' m' => ∃ k', k' < k ∧ I k' x' m') m) : hLoop x0 body m := ⟨I, h0, hs⟩
theorem hAll_of {f : (Nat → EV) → HP → Prop} (h : ∀ s, f s m) : hAll f m := fun s _ => h s
theorem hLet_of {α : Type} {A : (α → HP → Prop) → HP → Prop} {k : α → HP → Prop} (J : α → HP → Prop) (h1 : A J m) (h2 : ∀ x m, J x m → k x m) : hLet A k m := ⟨J, h2, h1⟩
/-- The cut's state is what the first part hands on. -/
theorem hLet_strong {α : Type} {A : (α → HP → Prop) → HP → Prop} {k : α → HP → Prop} (h : A k m) : hLet A k m := ⟨k, fun _ _ h => h, h⟩
theorem hElem_int {k : IntKind} {cs : Array Value} {i : Int} {n : Nat} {K : Int → HP → Prop} {x : Int} (h0 : 0 ≤ i) (h1 : i < n) (hc : cs[i.toNat]? = some (.int k x)) (hk : K x m) : hElem (.int k) cs i n K m := ⟨h0, h1, x, hc, hk⟩
end rules

/-! ### Arrays of rows -/
/-- Cells laid out row by row. -/
def rows {α : Type} (f : α → List Value) (l : List α) : Array Value := (l.flatMap f).toArray
theorem flatMap_get {α : Type} {f : α → List Value} {sz : Nat} (hf : ∀ x, (f x).length = sz) : ∀ {l : List α} {i j : Nat}, j < sz → (l.flatMap f)[i * sz + j]? = (l[i]?).bind fun x => (f x)[j]?
  | [], i, j, _ => by simp
  | x :: l, 0, j, hj => by
    simp only [List.flatMap_cons, Nat.zero_mul, Nat.zero_add]
    rw [List.getElem?_append_left (by rw [hf]; exact hj)]; rfl
  | x :: l, i + 1, j, hj => by
    simp only [List.flatMap_cons]
    rw [List.getElem?_append_right (by rw [hf, Nat.add_mul]; omega), hf, show (i + 1) * sz + j - sz = i * sz + j by rw [Nat.add_mul]; omega, flatMap_get hf hj]
    simp
theorem flatMap_len {α : Type} {f : α → List Value} {sz : Nat} (hf : ∀ x, (f x).length = sz) (l : List α) : (l.flatMap f).length = l.length * sz := by
  induction l with
  | nil => simp
  | cons x l ih => simp only [List.flatMap_cons, List.length_append, ih, hf, List.length_cons, Nat.add_mul]; omega
theorem rows_size {α : Type} {f : α → List Value} {sz : Nat} (hf : ∀ x, (f x).length = sz) (l : List α) : (rows f l).size = l.length * sz := by simp [rows, flatMap_len hf]
theorem rows_get {α : Type} {f : α → List Value} {sz : Nat} (hf : ∀ x, (f x).length = sz) {l : List α} {o i j : Nat} {x : α} (hj : j < sz) (ho : o = i * sz + j) (hx : l[i]? = some x) : (rows f l)[o]? = (f x)[j]? := by
  subst ho
  simp only [rows, List.getElem?_toArray]
  rw [flatMap_get hf hj, hx]; rfl
theorem flatMap_set {α : Type} {f : α → List Value} {sz : Nat} (hf : ∀ x, (f x).length = sz) {v : Value} : ∀ {l : List α} {i j : Nat} {x x' : α}, j < sz → l[i]? = some x → f x' = (f x).set j v → (l.flatMap f).set (i * sz + j) v = (l.set i x').flatMap f
  | [], i, j, x, x', _, hx, _ => by simp at hx
  | y :: l, 0, j, x, x', hj, hx, hv => by
    simp only [List.getElem?_cons_zero, Option.some.injEq] at hx; subst hx
    simp only [List.flatMap_cons, Nat.zero_mul, Nat.zero_add, List.set_cons_zero]
    rw [List.set_append_left _ _ (by rw [hf]; exact hj), hv]
  | y :: l, i + 1, j, x, x', hj, hx, hv => by
    simp only [List.getElem?_cons_succ] at hx
    simp only [List.flatMap_cons, List.set_cons_succ]
    rw [List.set_append_right _ _ (by rw [hf, Nat.add_mul]; omega), hf, show (i + 1) * sz + j - sz = i * sz + j by rw [Nat.add_mul]; omega, flatMap_set hf hj hx hv]
theorem rows_set {α : Type} {f : α → List Value} {sz : Nat} (hf : ∀ x, (f x).length = sz) {v : Value} {l : List α} {o i j : Nat} {x x' : α} (hj : j < sz) (ho : o = i * sz + j) (hx : l[i]? = some x) (hv : f x' = (f x).set j v) : (rows f l).setIfInBounds o v = rows f (l.set i x') := by
  subst ho
  simp only [rows, List.setIfInBounds_toArray]
  rw [flatMap_set hf hj hx hv]
theorem rows_make {α : Type} {f : α → List Value} {z : α} (h : 0 < (f z).length) (n : Nat) : makeCells (f z).toArray (n * (f z).length) = rows f (List.replicate n z) := by
  apply Array.ext'
  simp only [makeCells, rows, Array.toList_map, Array.toList_range]
  apply List.ext_getElem?
  intro i
  have hf : ∀ x ∈ List.replicate n z, (f x).length = (f z).length := fun x hx => by rw [(List.mem_replicate.1 hx).2]
  by_cases hi : i < n * (f z).length
  · rw [List.getElem?_map, List.getElem?_range hi]
    have e : (List.replicate n z).flatMap f = (List.replicate n z).flatMap fun _ => f z := by
      rw [List.flatMap_def, List.flatMap_def]; congr 1; apply List.map_congr_left; intro x hx; rw [(List.mem_replicate.1 hx).2]
    rw [e]
    have hd := Nat.div_add_mod i (f z).length
    have hm := Nat.mod_lt i h
    have hq : i / (f z).length < n := Nat.div_lt_of_lt_mul (by rw [Nat.mul_comm]; exact hi)
    have hi' : i = i / (f z).length * (f z).length + i % (f z).length := by rw [Nat.mul_comm]; omega
    conv => rhs; rw [hi']
    rw [flatMap_get (f := fun _ : α => f z) (sz := (f z).length) (fun _ => rfl) hm]
    simp only [List.getElem?_replicate, hq, if_true, Option.bind_some, Option.map_some, List.size_toArray]
    rw [List.getElem?_eq_getElem hm]
    simp [List.getElem!_toArray, hm]
  · rw [List.getElem?_eq_none (by simp; omega), List.getElem?_eq_none]
    rw [List.flatMap_def, List.length_flatten]
    simp; omega

end Go.Hp
