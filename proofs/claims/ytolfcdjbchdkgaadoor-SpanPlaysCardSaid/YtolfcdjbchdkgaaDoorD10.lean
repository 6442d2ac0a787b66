/- Spans: the layout, New, Alloc, Find, Free, Counts. Own work. -/
import Derived.Test.YtolfcdjbchdkgaaDoorP3
import Derived.Test.YtolfcdjbchdkgaaDoorD9
namespace Go.Proofs.YtolfcdjbchdkgaaDoor
open Go Go.Hp
set_option maxRecDepth 100000
attribute [local irreducible] hLoad hStore hNew hInt hQuo hRem hShl hShr hIf hNil hIdx hCut hElem hByte hAppend hMake hCall hYield hGet hPut hDel hNewMap hLoop hLet hAll hRange hRec hEq hCmp bitv W Does HYield

structure Sp where
  base : Nat
  pages : Nat
  tag : Int
def Sp.zero : Sp := ⟨0, 0, 0⟩
def spC (s : Sp) : List Value := [.int .i64 (s.base : Int), .int .i64 (s.pages : Int), .int .i64 s.tag]
theorem spC_len (s : Sp) : (spC s).length = 3 := rfl
def natC (x : Nat) : List Value := [.int .i64 (x : Int)]
theorem natC_len (x : Nat) : (natC x).length = 1 := rfl
def Sp.val (s : Sp) : Value := .agg #[.int .i64 (s.base : Int), .int .i64 (s.pages : Int), .int .i64 s.tag]
def Sp.has (s : Sp) (p : Nat) : Prop := s.base ≤ p ∧ p < s.base + s.pages

structure LOk (n : Nat) (l : List Sp) : Prop where
  pos : ∀ s ∈ l, 1 ≤ s.pages ∧ s.base + s.pages ≤ n
  sorted : l.Pairwise fun s t => s.base + s.pages ≤ t.base
theorem LOk.apart {n : Nat} {l : List Sp} (h : LOk n l) {s t : Sp} (hs : s ∈ l) (ht : t ∈ l) {p : Nat} (h1 : s.has p) (h2 : t.has p) : s = t := by
  have := h.sorted
  rcases List.mem_iff_getElem.1 hs with ⟨i, hi, rfl⟩
  rcases List.mem_iff_getElem.1 ht with ⟨j, hj, rfl⟩
  rw [List.pairwise_iff_getElem] at this
  obtain ⟨a1, a2⟩ := h1; obtain ⟨b1, b2⟩ := h2
  rcases Nat.lt_trichotomy i j with h3 | h3 | h3
  · have := this i j hi hj h3; omega
  · subst h3; rfl
  · have := this j i hj hi h3; omega

/-- Used pages: those of spans; what there isn't, is. -/
def UL (n : Nat) (l : List Sp) (p : Nat) : Bool := decide (n ≤ p) || l.any fun s => decide (s.base ≤ p ∧ p < s.base + s.pages)
theorem UL_iff {n : Nat} {l : List Sp} {p : Nat} : UL n l p = true ↔ n ≤ p ∨ ∃ s ∈ l, s.has p := by
  unfold UL Sp.has; simp

/-- A span in its place in the list. -/
def insS (s : Sp) : List Sp → List Sp
  | [] => [s]
  | t :: l => if s.base < t.base then s :: t :: l else t :: insS s l
theorem mem_insS {s t : Sp} {l : List Sp} : t ∈ insS s l ↔ t = s ∨ t ∈ l := by
  induction l with
  | nil => simp [insS]
  | cons u l ih =>
    simp only [insS]
    split
    · simp
    · simp only [List.mem_cons, ih]
      constructor
      · rintro (h | h | h) <;> simp [h]
      · rintro (h | h | h) <;> simp [h]
theorem LOk.ins {n : Nat} {l : List Sp} (h : LOk n l) {s : Sp} (h1 : 1 ≤ s.pages) (h2 : s.base + s.pages ≤ n) (hf : ∀ p, s.has p → ∀ t ∈ l, ¬ t.has p) : LOk n (insS s l) := by
  refine ⟨fun t ht => ?_, ?_⟩
  · rcases mem_insS.1 ht with rfl | ht
    · exact ⟨h1, h2⟩
    · exact h.pos t ht
  · have hs := h.sorted
    have hp := fun t ht => (h.pos t ht).1
    clear h
    induction l with
    | nil => simp [insS]
    | cons t l ih =>
      simp only [insS]
      have ht := hp t (by simp)
      have apart : s.base + s.pages ≤ t.base ∨ t.base + t.pages ≤ s.base := by
        rcases Nat.lt_or_ge t.base (s.base + s.pages) with h3 | h3
        · rcases Nat.lt_or_ge s.base (t.base + t.pages) with h4 | h4
          · rcases Nat.le_total s.base t.base with h5 | h5
            · exact absurd ⟨Nat.le_refl _, by omega⟩ (hf t.base ⟨h5, by omega⟩ t (by simp))
            · exact absurd ⟨h5, by omega⟩ (hf s.base ⟨Nat.le_refl _, by omega⟩ t (by simp))
          · exact .inr h4
        · exact .inl h3
      have hs' := List.pairwise_cons.1 hs
      split
      · rename_i hlt
        refine List.pairwise_cons.2 ⟨fun u hu => ?_, hs⟩
        rcases List.mem_cons.1 hu with rfl | hu
        · omega
        · have := hs'.1 u hu; omega
      · rename_i hge
        refine List.pairwise_cons.2 ⟨fun u hu => ?_, ih (fun p h3 u hu => hf p h3 u (by simp [hu])) hs'.2 (fun u hu => hp u (by simp [hu]))⟩
        rcases mem_insS.1 hu with rfl | hu
        · omega
        · exact hs'.1 u hu
theorem UL_ins {n : Nat} {l : List Sp} {s : Sp} (p : Nat) : UL n (insS s l) p = if s.base ≤ p ∧ p < s.base + s.pages then true else UL n l p := by
  rw [Bool.eq_iff_iff]
  split
  · rename_i h
    simp only [iff_true]
    exact UL_iff.2 (.inr ⟨s, mem_insS.2 (.inl rfl), h⟩)
  · rename_i h
    rw [UL_iff, UL_iff]
    constructor
    · rintro (h1 | ⟨t, ht, h2⟩)
      · exact .inl h1
      · rcases mem_insS.1 ht with rfl | ht
        · exact absurd h2 h
        · exact .inr ⟨t, ht, h2⟩
    · rintro (h1 | ⟨t, ht, h2⟩)
      · exact .inl h1
      · exact .inr ⟨t, mem_insS.2 (.inr ht), h2⟩

/-- Without the span that begins here. -/
def delS (b : Nat) (l : List Sp) : List Sp := l.filter fun s => s.base != b
theorem mem_delS {b : Nat} {t : Sp} {l : List Sp} : t ∈ delS b l ↔ t ∈ l ∧ t.base ≠ b := by simp [delS]
theorem LOk.del {n : Nat} {l : List Sp} (h : LOk n l) (b : Nat) : LOk n (delS b l) :=
  ⟨fun s hs => h.pos s (mem_delS.1 hs).1, h.sorted.sublist List.filter_sublist⟩
theorem UL_del {n : Nat} {l : List Sp} (h : LOk n l) {s : Sp} (hs : s ∈ l) (p : Nat) : UL n (delS s.base l) p = if s.base ≤ p ∧ p < s.base + s.pages then false else UL n l p := by
  have hp := h.pos s hs
  rw [Bool.eq_iff_iff]
  split
  · rename_i h1
    simp only [Bool.false_eq_true, iff_false]
    intro h2
    rcases UL_iff.1 h2 with h3 | ⟨t, ht, h3⟩
    · omega
    · obtain ⟨h4, h5⟩ := mem_delS.1 ht
      exact h5 (congrArg Sp.base (h.apart h4 hs h3 h1))
  · rename_i h1
    rw [UL_iff, UL_iff]
    constructor
    · rintro (h2 | ⟨t, ht, h2⟩)
      · exact .inl h2
      · exact .inr ⟨t, (mem_delS.1 ht).1, h2⟩
    · rintro (h2 | ⟨t, ht, h2⟩)
      · exact .inl h2
      · refine .inr ⟨t, mem_delS.2 ⟨ht, fun e => ?_⟩, h2⟩
        have := h.pos t ht
        have : t = s := h.apart ht hs (p := s.base) ⟨by omega, by omega⟩ ⟨by omega, by omega⟩
        subst this; exact h1 h2

/-! ### The layout -/
structure TL where
  t : Nat
  sb : Nat
  ob : Nat
  L : PL

structure SGood (T : TL) (n : Nat) (l : List Sp) (us : List (BitVec 64)) (l0 : List Sum) (k : Nat) (S : List Sp) (O : List Nat) : Prop where
  g : PGood T.L n us l0 k
  slen : S.length = n
  olen : O.length = n
  ok : LOk n l
  used : Us us = UL n l
  at_ : ∀ s ∈ l, S[s.base]? = some s ∧ ∀ p, s.has p → O[p]? = some s.base
  none_ : ∀ p, p < n → (∀ s ∈ l, s.base ≠ p) → S[p]? = some Sp.zero

def thC (T : TL) (n : Nat) : Array Value := #[.pointer (some ⟨T.L.p, 0, none⟩), .slice (some ⟨T.sb, 0, none⟩) n n, .slice (some ⟨T.ob, 0, none⟩) n n]
def spanX (T : TL) (n : Nat) (us : List (BitVec 64)) (ls : List (List Sum)) (S : List Sp) (O : List Nat) : HP :=
  pt T.t (.cells (thC T n) 84 (0, 0)) + (pt T.sb (.cells (rows spC S) 34 (0, 0)) + (pt T.ob (.cells (rows natC O) 3 (0, 0)) + pagesH T.L n us ls))
/-- A table of spans: what it holds. -/
def SpanAt (T : TL) (n : Nat) (l : List Sp) (X : HP) : Prop := ∃ us l0 k S O, SGood T n l us l0 k S O ∧ X = spanX T n us (levels k l0) S O

theorem rowsSp {S : List Sp} {i j o : Nat} {s : Sp} (hj : j < 3) (ho : o = i * 3 + j) (h : S[i]? = some s) : (rows spC S)[o]? = (spC s)[j]? := rows_get spC_len hj ho h
theorem rowsN {O : List Nat} {i o : Nat} {x : Nat} (ho : o = i * 1) (h : O[i]? = some x) : (rows natC O)[o]? = some (.int .i64 (x : Int)) := by
  rw [rows_get natC_len (i := i) (j := 0) (by omega) (by omega) h]; rfl
theorem rowsN_set {O : List Nat} {i o x y : Nat} (ho : o = i * 1) (h : O[i]? = some x) : (rows natC O).setIfInBounds o (.int .i64 (y : Int)) = rows natC (O.set i y) :=
  rows_set (j := 0) natC_len (by omega) (by omega) h rfl
theorem rows_set3 {α : Type} {f : α → List Value} (hf : ∀ x, (f x).length = 3) {l : List α} {i o : Nat} {x s : α} {v0 v1 v2 : Value} (hx : l[i]? = some x) (ho : o = i * 3) (hs : f s = [v0, v1, v2]) :
    (((rows f l).setIfInBounds o v0).setIfInBounds (o + 1) v1).setIfInBounds (o + 2) v2 = rows f (l.set i s) := by
  have key : ∀ (l : List α) (i : Nat), l[i]? = some x → (((l.flatMap f).set (i * 3) v0).set (i * 3 + 1) v1).set (i * 3 + 2) v2 = (l.set i s).flatMap f := by
    intro l
    induction l with
    | nil => intro i h; simp at h
    | cons y l ih =>
      intro i h
      cases i with
      | zero =>
        simp only [List.getElem?_cons_zero, Option.some.injEq] at h; subst h
        have := hf y
        simp only [List.flatMap_cons, List.set_cons_zero, hs]
        match hfy : f y, this with
        | [a, b, c], _ => simp
      | succ i =>
        simp only [List.getElem?_cons_succ] at h
        simp only [List.flatMap_cons, List.set_cons_succ]
        have e := hf y
        rw [List.set_append_right _ _ (by omega), List.set_append_right _ _ (by omega), List.set_append_right _ _ (by omega)]
        rw [e, show (i + 1) * 3 - 3 = i * 3 by omega, show (i + 1) * 3 + 1 - 3 = i * 3 + 1 by omega, show (i + 1) * 3 + 2 - 3 = i * 3 + 2 by omega, ih i h]
  subst ho
  simp only [rows, List.setIfInBounds_toArray]
  rw [key l i hx]

/-! ### Find -/
/-- The span in which a page lies. -/
def findS (l : List Sp) (p : Int) : Option Sp := l.find? fun s => decide ((s.base : Int) ≤ p ∧ p < s.base + s.pages)
theorem findS_mem {l : List Sp} {p : Int} {s : Sp} (h : findS l p = some s) : s ∈ l ∧ (s.base : Int) ≤ p ∧ p < s.base + s.pages := by
  have h1 := List.mem_of_find?_eq_some h
  have h2 := List.find?_some h
  simp only [decide_eq_true_eq] at h2
  exact ⟨h1, h2⟩
theorem findS_eq {n : Nat} {l : List Sp} (h : LOk n l) {p : Nat} {s : Sp} (hs : s ∈ l) (hp : s.has p) : findS l (p : Int) = some s := by
  cases hf : findS l (p : Int) with
  | none =>
    have := List.find?_eq_none.1 hf s hs
    simp only [decide_eq_true_eq] at this
    obtain ⟨h1, h2⟩ := hp
    exact absurd ⟨by omega, by omega⟩ this
  | some t =>
    obtain ⟨h1, h2, h3⟩ := findS_mem hf
    rw [h.apart h1 hs ⟨by omega, by omega⟩ hp]
theorem findS_none {n : Nat} {l : List Sp} (h : LOk n l) {p : Int} (hp : p < 0 ∨ (n : Int) ≤ p ∨ UL n l p.toNat = false) : findS l p = none := by
  cases hf : findS l p with
  | none => rfl
  | some s =>
    obtain ⟨h1, h2, h3⟩ := findS_mem hf
    have := h.pos s h1
    rcases hp with hp | hp | hp
    · omega
    · omega
    · have : UL n l p.toNat = true := UL_iff.2 (.inr ⟨s, h1, by omega, by omega⟩)
      rw [hp] at this; cases this

/-- What Find answers. -/
def foundV (o : Option Sp) : Value := .tuple #[(o.getD Sp.zero).val, .bool o.isSome]

theorem sfind_does {T : TL} {n : Nat} {l : List Sp} {X : HP} (h : SpanAt T n l X) (page : Int) {m r : HP} [hs : Sub X m r] :
    Does Tryd.prog 15 #[.pointer (some ⟨T.t, 0, none⟩), .int .i64 page] m (ret (foundV (findS l page)) (X + r)) := by
  obtain ⟨us, l0, k, S, O, G, rfl⟩ := h
  have hnle := G.g.nle
  have hol := G.olen
  have hsl := G.slen
  rw [hs.eq]
  refine F15_fn ?_
  unfold F15
  refine hNew_of fun b3 => hIf_false rfl (hIf_dec (fun h1 => ?_) (fun h1 => ?_))
  · rw [findS_none G.ok (.inl h1)]
    repeat' first
      | refine hStore3_0 ?_
      | refine hStore3_1 ?_
      | refine hStore3_2 ?_
      | refine hLoad_int (by rfl) ?_
    exact ret.mk (Over.of _ _)
  unfold spanX
  refine hNil_some (hLoad_add (hLoad_slice (by rfl) ?_))
  dsimp only
  refine hIf_dec (fun h2 => ?_) (fun h2 => ?_)
  · rw [findS_none G.ok (.inr (.inl h2))]
    repeat' first
      | refine hStore3_0 ?_
      | refine hStore3_1 ?_
      | refine hStore3_2 ?_
      | refine hLoad_int (by rfl) ?_
    exact ret.mk (Over.of _ _)
  obtain ⟨p, rfl⟩ := Int.eq_ofNat_of_zero_le (a := page) (by omega)
  refine hNil_some (hLoad_ptr (by rfl) ?_)
  refine hCall_ret (used_does T.L (n := n) (us := us) (ls := levels k l0) G.g.le64 hnle _) ⟨_, rfl, ?_⟩
  rw [usedI_nat (by omega), G.used]
  refine hIf_not (hIf_split (fun h3 => ?_) (fun h3 => ?_))
  · rcases UL_iff.1 h3 with h4 | ⟨s, hs1, hs2⟩
    · omega
    obtain ⟨h5, h6⟩ := G.at_ s hs1
    have h7 := h6 p hs2
    have hpos := G.ok.pos s hs1
    rw [findS_eq G.ok hs1 hs2]
    refine hNil_some (hLoad_add (hLoad_slice (by rfl) (hNil_some (hLoad_add (hLoad_slice (by rfl) ?_)))))
    dsimp only
    refine hIdx_of (by omega) (by omega) ?_
    refine hLoad_int (rowsN (i := p) (by omega) h7) ?_
    refine hIdx_of (by omega) (by omega) ?_
    have e0 : 0 + (s.base : Int).toNat * 3 = s.base * 3 := by omega
    rw [e0]
    refine hLoad_int (rowsSp (j := 0) (by omega) (by omega) h5) ?_
    refine hLoad_add (hLoad_int (rowsSp (j := 1) (by omega) (by omega) h5) ?_)
    refine hLoad_add (hLoad_int (rowsSp (j := 2) (by omega) (by omega) h5) ?_)
    repeat' first
      | refine hStore3_0 ?_
      | refine hStore3_1 ?_
      | refine hStore3_2 ?_
      | refine hLoad_int (by rfl) ?_
    exact ret.mk (Over.of _ _)
  · rw [findS_none G.ok (.inr (.inr (by simpa using h3)))]
    repeat' first
      | refine hStore3_0 ?_
      | refine hStore3_1 ?_
      | refine hStore3_2 ?_
      | refine hLoad_int (by rfl) ?_
    exact ret.mk (Over.of _ _)

end Go.Proofs.YtolfcdjbchdkgaaDoor
