/- Pages: the layout in memory, Used, outside, renew. Own work. -/
import Derived.Test.YtolfcdjbchdkgaaDoorD2
namespace Go.Proofs.YtolfcdjbchdkgaaDoor
open Go Go.Hp
set_option maxRecDepth 100000
attribute [local irreducible] hLoad hStore hNew hInt hQuo hRem hShl hShr hIf hNil hIdx hCut hElem hByte hAppend hMake hCall hYield hGet hPut hDel hNewMap hLoop hLet hAll hRange hRec hEq hCmp bitv W Does HYield

/-! ### The levels -/
def foldS (l : List Sum) : Sum := l.foldl Sum.both .zero
def group (l : List Sum) (i : Nat) : List Sum := (l.drop (8 * i)).take 8
def groups (l : List Sum) : List Sum := (List.range ((l.length + 7) / 8)).map fun i => foldS (group l i)
def it : Nat → List Sum → List Sum
  | 0, l => l
  | j + 1, l => groups (it j l)
def levels (k : Nat) (l : List Sum) : List (List Sum) := (List.range k).map fun j => it j l
theorem groups_len (l : List Sum) : (groups l).length = (l.length + 7) / 8 := by simp [groups]
theorem groups_get (l : List Sum) (i : Nat) (h : i < (l.length + 7) / 8) : (groups l)[i]? = some (foldS (group l i)) := by
  simp [groups, h]
theorem group_set (l : List Sum) (i j : Nat) (s : Sum) (h : j ≠ i / 8) : group (l.set i s) j = group l j := by
  unfold group
  apply List.ext_getElem?
  intro k
  simp only [List.getElem?_take, List.getElem?_drop, List.getElem?_set]
  split
  · rw [if_neg (by omega)]
  · rfl
theorem groups_set (l : List Sum) (i : Nat) (s : Sum) : groups (l.set i s) = (groups l).set (i / 8) (foldS (group (l.set i s) (i / 8))) := by
  apply List.ext_getElem?
  intro j
  rw [List.getElem?_set]
  by_cases hj : j < (l.length + 7) / 8
  · rw [groups_get _ _ (by simpa using hj), groups_len]
    by_cases e : i / 8 = j
    · rw [if_pos e, e, if_pos hj]
    · rw [if_neg e, groups_get _ _ hj, group_set _ _ _ _ (Ne.symm e)]
  · rw [List.getElem?_eq_none (by rw [groups_len]; simpa using hj), groups_len]
    split
    · rename_i e; rw [if_neg (by omega)]
    · rw [List.getElem?_eq_none (by rw [groups_len]; simpa using hj)]
theorem it_len_set (j : Nat) (l : List Sum) (i : Nat) (s : Sum) : ∃ v, it j (l.set i s) = (it j l).set (i / 8 ^ j) v := by
  induction j with
  | zero => exact ⟨s, by simp [it]⟩
  | succ j ih =>
    obtain ⟨v, hv⟩ := ih
    refine ⟨foldS (group ((it j l).set (i / 8 ^ j) v) (i / 8 ^ j / 8)), ?_⟩
    simp only [it]
    rw [hv, groups_set, Nat.div_div_eq_div_mul, ← Nat.pow_succ]
theorem it_len {j : Nat} {l l' : List Sum} (h : l.length = l'.length) : (it j l).length = (it j l').length := by
  induction j with
  | zero => exact h
  | succ j ih => simp only [it, groups_len, ih]

/-! ### No sum is too great -/
def Sum.ok (s : Sum) : Prop := s.start ≤ s.all ∧ s.most ≤ s.all ∧ s.fin ≤ s.all
def tot (l : List Sum) : Nat := (l.map (·.all)).sum
theorem Sum.ok.both {a b : Sum} (ha : a.ok) (hb : b.ok) : (a.both b).ok := by
  obtain ⟨h1, h2, h3⟩ := ha; obtain ⟨h4, h5, h6⟩ := hb
  refine ⟨?_, ?_, ?_⟩ <;> simp only [Sum.both] <;> (try split) <;> omega
theorem foldl_ok {l : List Sum} : ∀ {z : Sum}, z.ok → (∀ s ∈ l, s.ok) → (l.foldl Sum.both z).ok ∧ (l.foldl Sum.both z).all = z.all + tot l := by
  induction l with
  | nil => intro z hz _; exact ⟨hz, by simp [tot]⟩
  | cons s l ih =>
    intro z hz h
    obtain ⟨h1, h2⟩ := ih (z := z.both s) (hz.both (h s (by simp))) (fun x hx => h x (by simp [hx]))
    refine ⟨h1, ?_⟩
    simp only [List.foldl_cons]
    rw [h2]; simp [tot, Sum.both]; omega
theorem Sum.ok.zero : Sum.zero.ok := by simp [Sum.ok, Sum.zero]
theorem tot_append (a b : List Sum) : tot (a ++ b) = tot a + tot b := by simp [tot]
theorem tot_le_of_sublist {a b : List Sum} (h : List.Sublist a b) : tot a ≤ tot b := by
  induction h with
  | slnil => exact Nat.le_refl _
  | cons x _ ih => simp [tot] at *; omega
  | cons_cons x _ ih => simp [tot] at *; omega
theorem mem_tot {l : List Sum} {s : Sum} (h : s ∈ l) : s.all ≤ tot l := by
  have := tot_le_of_sublist (List.singleton_sublist.2 h)
  simpa [tot] using this
theorem groups_ok {l : List Sum} (h : ∀ s ∈ l, s.ok) : (∀ s ∈ groups l, s.ok) ∧ ∀ s ∈ groups l, s.all ≤ tot l := by
  have key : ∀ s ∈ groups l, ∃ i, s = foldS (group l i) := fun s hs => by
    simp only [groups, List.mem_map] at hs; obtain ⟨i, _, rfl⟩ := hs; exact ⟨i, rfl⟩
  constructor
  · intro s hs
    obtain ⟨i, rfl⟩ := key s hs
    exact (foldl_ok .zero fun x hx => h x ((List.take_sublist _ _).mem hx |> (List.drop_sublist _ _).mem)).1
  · intro s hs
    obtain ⟨i, rfl⟩ := key s hs
    have := (foldl_ok (l := group l i) .zero fun x hx => h x ((List.take_sublist _ _).mem hx |> (List.drop_sublist _ _).mem)).2
    unfold foldS
    rw [this]
    have h2 : tot (group l i) ≤ tot l := tot_le_of_sublist ((List.take_sublist _ _).trans (List.drop_sublist _ _))
    simp [Sum.zero]; exact h2
theorem drop_groups (l : List Sum) (i : Nat) : tot (l.drop (8 * i)) = tot (group l i) + tot (l.drop (8 * (i + 1))) := by
  unfold group
  have : l.drop (8 * (i + 1)) = (l.drop (8 * i)).drop 8 := by rw [List.drop_drop]; congr 1
  rw [this, ← tot_append, List.take_append_drop]
theorem tot_groups {l : List Sum} (h : ∀ s ∈ l, s.ok) : tot (groups l) = tot l := by
  have hf : ∀ i, (foldS (group l i)).all = tot (group l i) := fun i => by
    have := (foldl_ok (l := group l i) .zero fun x hx => h x ((List.take_sublist _ _).mem hx |> (List.drop_sublist _ _).mem)).2
    unfold foldS; rw [this]; simp [Sum.zero]
  have key : ∀ n, tot ((List.range n).map fun i => foldS (group l i)) + tot (l.drop (8 * n)) = tot l := by
    intro n
    induction n with
    | zero => simp [tot]
    | succ n ih =>
      rw [List.range_succ, List.map_append, tot_append]
      have h1 := drop_groups l n
      have h2 : tot (List.map (fun i => foldS (group l i)) [n]) = tot (group l n) := by simp [tot, hf]
      rw [h2]; omega
  have := key ((l.length + 7) / 8)
  unfold groups
  have hd : l.drop (8 * ((l.length + 7) / 8)) = [] := List.drop_eq_nil_of_le (by omega)
  rw [hd] at this; simpa [tot] using this
theorem it_ok {l : List Sum} (h : ∀ s ∈ l, s.ok) (j : Nat) : (∀ s ∈ it j l, s.ok) ∧ tot (it j l) = tot l := by
  induction j with
  | zero => exact ⟨h, rfl⟩
  | succ j ih => exact ⟨(groups_ok ih.1).1, (tot_groups ih.1).trans ih.2⟩
theorem Sum.ok.bound {s : Sum} {l : List Sum} (h : s.ok) (hm : s ∈ l) {B : Nat} (hb : tot l ≤ B) : s.start ≤ B ∧ s.most ≤ B ∧ s.fin ≤ B ∧ s.all ≤ B := by
  have := mem_tot hm; obtain ⟨h1, h2, h3⟩ := h; omega

end Go.Proofs.YtolfcdjbchdkgaaDoor
