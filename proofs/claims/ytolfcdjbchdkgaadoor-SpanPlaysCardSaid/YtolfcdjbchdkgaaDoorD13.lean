/- The document's spans (treadleref05). Own work. -/
import Derived.Test.YtolfcdjbchdkgaaDoorD12
namespace Go.Proofs.YtolfcdjbchdkgaaDoor
open Go Go.Hp
set_option maxRecDepth 100000
attribute [local irreducible] hLoad hStore hNew hInt hQuo hRem hShl hShr hIf hNil hIdx hCut hElem hByte hAppend hMake hCall hYield hGet hPut hDel hNewMap hLoop hLet hAll hRange hRec hEq hCmp bitv W Does HYield

structure RL where
  t : Nat
  p : Nat
  ub : Nat

def refX (R : RL) (B : List Bool) (s : Sl) (Hl : HP) : HP := pt R.t (.cells #[.pointer (some ⟨R.p, 0, none⟩), .slice s.a s.n s.cap] 48 (0, 0)) + (rpH R.p R.ub B + Hl)
structure RGood (n : Nat) (l : List Sp) (B : List Bool) (s : Sl) (Hl : HP) : Prop where
  blen : B.length = n
  nle : n ≤ 4096
  ok : LOk n l
  used : UB B = UL n l
  own : Own 34 3 spC l s Hl
/-- The document's table: what it holds. -/
def RefAt (R : RL) (n : Nat) (l : List Sp) (X : HP) : Prop := ∃ B s Hl, RGood n l B s Hl ∧ X = refX R B s Hl

theorem LOk.len {n : Nat} {l : List Sp} (h : LOk n l) : l.length ≤ n := by
  have key : ∀ (l : List Sp) (lo : Nat), (∀ s ∈ l, 1 ≤ s.pages ∧ s.base + s.pages ≤ n ∧ lo ≤ s.base) → l.Pairwise (fun s t => s.base + s.pages ≤ t.base) → l.length + lo ≤ n ∨ l = [] := by
    intro l
    induction l with
    | nil => intro lo _ _; exact .inr rfl
    | cons s l ih =>
      intro lo h1 h2
      have hs := h1 s (by simp)
      have h3 := List.pairwise_cons.1 h2
      rcases ih (s.base + s.pages) (fun t ht => ⟨(h1 t (by simp [ht])).1, (h1 t (by simp [ht])).2.1, h3.1 t ht⟩) h3.2 with h4 | h4
      · left; simp only [List.length_cons]; omega
      · left; subst h4; simp only [List.length_cons, List.length_nil]; omega
  rcases key l 0 (fun s hs => ⟨(h.pos s hs).1, (h.pos s hs).2, by omega⟩) h.sorted with h1 | h1
  · omega
  · subst h1; simp

theorem rtnew_does (n : Int) {m : HP} :
    Does Tryd.prog 9 #[.int .i64 n] m fun e m' => (¬ (1 ≤ n ∧ n ≤ 4096) ∧ ret (.tuple #[.pointer none, .int .i64 1]) m e m') ∨
      ∃ (R : RL) (X : HP), (1 ≤ n ∧ n ≤ 4096) ∧ RefAt R n.toNat [] X ∧ ret (.tuple #[.pointer (some ⟨R.t, 0, none⟩), .int .i64 0]) (X + m) e m' := by
  refine F9_fn ?_
  unfold F9
  refine hCall_of (rpnew_does n) ?_
  rintro e m' (⟨h1, rfl, ho⟩ | ⟨p, ub, h1, rfl, ho⟩)
  · exact ⟨_, ho, _, _, rfl, hIf_neT (by omega) (.inl ⟨h1, ret.mk (Over.refl _)⟩)⟩
  · refine ⟨_, ho, _, _, rfl, hIf_neF rfl (hNew_of fun b5 => .inr ⟨⟨b5, p, ub⟩, refX ⟨b5, p, ub⟩ (List.replicate n.toNat false) ⟨none, 0, 0⟩ 0, h1, ⟨_, _, _, ⟨by simp, by omega, ⟨by simp, by simp⟩, ?_, Own.nil⟩, rfl⟩, ?_⟩)⟩
    · funext q
      unfold UB UL
      rw [List.getElem?_replicate]
      by_cases h : q < n.toNat
      · rw [if_pos h]; simp; omega
      · rw [if_neg h]; simp; omega
    · unfold refX; simp only [HP.add_zero]; exact ret.mk (Over.of _ _)

/-- A row of the list, read through the slice. -/
theorem ownRow {l : List Sp} {s : Sl} {H : HP} (h : Own 34 3 spC l s H) {i : Nat} (hi : i < l.length) :
    ∃ b cap c, s = ⟨some ⟨b, 0, none⟩, l.length, cap⟩ ∧ H = pt b (.cells c 34 (0, 0)) ∧ c[i * 3]? = some (.int .i64 (l[i].base : Int)) ∧ c[i * 3 + 1]? = some (.int .i64 (l[i].pages : Int)) ∧ c[i * 3 + 2]? = some (.int .i64 l[i].tag) := by
  obtain ⟨b, cap, c, h1, h2, _, _, h3⟩ := h.get spC_len (List.getElem?_eq_getElem hi)
  exact ⟨b, cap, c, h1, h2, by simpa [spC] using h3 0 (by omega), by simpa [spC] using h3 1 (by omega), by simpa [spC] using h3 2 (by omega)⟩

theorem rfind_does {R : RL} {n : Nat} {l : List Sp} {X : HP} (h : RefAt R n l X) (page : Int) (hp : -9223372036854775808 ≤ page ∧ page ≤ 9223372036854775807) {m r : HP} [hs : Sub X m r] :
    Does Tryd.prog 16 #[.pointer (some ⟨R.t, 0, none⟩), .int .i64 page] m (ret (foundV (findS l page)) (X + r)) := by
  obtain ⟨B, s, Hl, G, rfl⟩ := h
  have hlen := G.ok.len
  have hnle := G.nle
  have hsn := G.own.len
  rw [hs.eq]
  refine F16_fn ?_
  unfold F16
  refine hNew_of fun b3 => ?_
  refine hLoop_of (fun d x m' => ∃ i : Nat, i ≤ l.length ∧ d = l.length - i ∧ x = ((i : Int), ()) ∧ (∀ j (hj : j < l.length), j < i → ¬ ((l[j].base : Int) ≤ page ∧ page < l[j].base + l[j].pages)) ∧
    Over (pt b3 (.cells #[.int .i64 0, .int .i64 0, .int .i64 0] 34 (0, 0)) + (refX R B s Hl + r)) m') ?_ ?_
  · exact ⟨_, 0, by omega, rfl, rfl, fun j _ h => by omega, Over.refl _⟩
  rintro d x m' ⟨i, hi, rfl, rfl, hno, g, rfl⟩
  refine hAll_of fun _ => ?_
  unfold F16_l2
  dsimp only
  unfold refX
  refine hNil_some (hLoad_add (hLoad_slice (by rfl) ?_))
  dsimp only
  refine hIf_dec (fun h1 => ?_) (fun h1 => ?_)
  · have hi' : i < l.length := by omega
    obtain ⟨b, cap, c, rfl, rfl, hc0, hc1, hc2⟩ := ownRow G.own hi'
    have hpos := G.ok.pos _ (List.getElem_mem hi')
    refine hNil_some (hLoad_add (hLoad_slice (by rfl) ?_))
    dsimp only
    refine hIdx_of (by omega) (by omega) ?_
    have e0 : 0 + (i : Int).toNat * 3 = i * 3 := by omega
    rw [e0]
    refine hLoad_int hc0 ?_
    refine hLoad_add (hLoad_int hc1 ?_)
    refine hLoad_add (hLoad_int hc2 ?_)
    refine hNew_of fun b15 => hStore3_0 (hStore3_1 (hStore3_2 ?_))
    refine hLoad_int (by rfl) ?_
    refine hIf_dec (fun h2 => ?_) (fun h2 => ?_)
    · refine hLoad_int (by rfl) ?_
      refine hInt_i64 (by omega) (by omega) (hLoad_int (by rfl) ?_)
      refine hIf_dec (fun h3 => ?_) (fun h3 => ?_)
      · have hf : findS l page = some l[i] := by
          unfold findS
          rw [List.find?_eq_some_iff_getElem]
          refine ⟨by simp only [decide_eq_true_eq]; omega, i, hi', rfl, fun j hj => ?_⟩
          have := hno j (by omega) hj
          simp only [Bool.not_eq_true', decide_eq_false_iff_not]
          exact this
        rw [hf]
        repeat' first
          | refine hLoad_int (by rfl) ?_
          | refine hStore3_0 ?_
          | refine hStore3_1 ?_
          | refine hStore3_2 ?_
        exact ret.mk (Over.of _ _)
      · refine hInt_i64 (by omega) (by omega) ⟨l.length - (i + 1), by omega, i + 1, by omega, rfl, rfl, fun j hj h4 => ?_, Over.of _ _⟩
        rcases Nat.lt_or_ge j i with h5 | h5
        · exact hno j hj h5
        · obtain rfl : j = i := by omega
          omega
    · refine hInt_i64 (by omega) (by omega) ⟨l.length - (i + 1), by omega, i + 1, by omega, rfl, rfl, fun j hj h4 => ?_, Over.of _ _⟩
      rcases Nat.lt_or_ge j i with h5 | h5
      · exact hno j hj h5
      · obtain rfl : j = i := by omega
        omega
  · have hf : findS l page = none := by
      unfold findS
      rw [List.find?_eq_none]
      intro t ht
      obtain ⟨j, hj, rfl⟩ := List.mem_iff_getElem.1 ht
      have := hno j hj (by omega)
      simpa using this
    rw [hf]
    repeat' first
      | refine hLoad_int (by rfl) ?_
      | refine hStore3_0 ?_
      | refine hStore3_1 ?_
      | refine hStore3_2 ?_
    exact ret.mk (Over.of _ _)

end Go.Proofs.YtolfcdjbchdkgaaDoor
