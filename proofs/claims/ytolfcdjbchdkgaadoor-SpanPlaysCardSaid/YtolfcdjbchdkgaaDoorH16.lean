/- Lists that a slice owns. Own work; nothing of any program. -/
import Derived.Test.YtolfcdjbchdkgaaDoorH15
namespace Go.Hp
open Go

/-- The slice s holds the list l, from its block's beginning on; H: its block. -/
def Own {α : Type} (e : TypeId) (sz : Nat) (f : α → List Value) (l : List α) (s : Sl) (H : HP) : Prop :=
  (s = ⟨none, 0, 0⟩ ∧ l = [] ∧ H = 0) ∨ ∃ b cap c, s = ⟨some ⟨b, 0, none⟩, l.length, cap⟩ ∧ c.size = cap * sz ∧ l.length ≤ cap ∧ (∀ i, i < l.length * sz → c[i]? = (l.flatMap f)[i]?) ∧ H = pt b (.cells c e (0, 0))

section
variable {α : Type} {e : TypeId} {sz : Nat} {f : α → List Value} {l : List α} {s : Sl} {H m : HP}
theorem Own.nil : Own e sz f [] ⟨none, 0, 0⟩ 0 := .inl ⟨rfl, rfl, rfl⟩
theorem Own.len (h : Own e sz f l s H) : s.n = l.length := by rcases h with ⟨rfl, rfl, _⟩ | ⟨b, cap, c, rfl, _⟩ <;> rfl
/-- A row of it. -/
theorem Own.get (h : Own e sz f l s H) (hf : ∀ x, (f x).length = sz) {i : Nat} {x : α} (hx : l[i]? = some x) :
    ∃ b cap c, s = ⟨some ⟨b, 0, none⟩, l.length, cap⟩ ∧ H = pt b (.cells c e (0, 0)) ∧ c.size = cap * sz ∧ l.length ≤ cap ∧ ∀ j, j < sz → c[i * sz + j]? = (f x)[j]? := by
  have hi := (List.getElem?_eq_some_iff.1 hx).1
  rcases h with ⟨rfl, rfl, _⟩ | ⟨b, cap, c, rfl, hc, hle, hg, rfl⟩
  · simp at hi
  · refine ⟨b, cap, c, rfl, rfl, hc, hle, fun j hj => ?_⟩
    have : i * sz + j < l.length * sz := by
      have := Nat.mul_le_mul_right sz (show i + 1 ≤ l.length by omega)
      rw [Nat.add_mul] at this; omega
    rw [hg _ this, flatMap_get hf hj, hx]; rfl
theorem Own.of_rows (hf : ∀ x, (f x).length = sz) (b : Nat) : Own e sz f l ⟨some ⟨b, 0, none⟩, l.length, l.length⟩ (pt b (.cells (rows f l) e (0, 0))) :=
  .inr ⟨b, _, _, rfl, rows_size hf l, Nat.le_refl _, fun i _ => by simp [rows], rfl⟩
/-- One row behind it. -/
theorem hAppend_Own {bytes : Nat} {zero : Array Value} {xa : Option Addr} {c1 : Nat} {r : HP} {K : Sl → HP → Prop} (h : Own e sz f l s H) [hs : Sub H m r] (x : α) (hf : ∀ x, (f x).length = sz)
    (hr : Row m xa (f x)) (h1 : okCells (f x) = true) (hz : zero.size = sz) (hb : 0 < bytes) (hfit : (l.length + 1) * bytes ≤ 140737488355328)
    (hk : ∀ s' H' r', Own e sz f (l ++ [x]) s' H' → Over r r' → K s' (H' + r')) : hAppend sz bytes zero e s ⟨xa, 1, c1⟩ K m := by
  rcases h with ⟨rfl, rfl, rfl⟩ | ⟨b, cap, c, rfl, hc, hle, hg, rfl⟩
  · refine hAppend_nil (f x) (by simp [hf]) hr h1 (by simp) hz hb (by simpa using hfit) fun b' cap' c' h2 h3 h4 => ?_
    refine hk _ _ _ (.inr ⟨b', cap', c', rfl, h3, h2, fun i hi => ?_, rfl⟩) ⟨0, by rw [hs.eq]; simp⟩
    simp only [List.nil_append, List.length_singleton, List.flatMap_cons, List.flatMap_nil, List.append_nil] at hi ⊢
    exact h4 i hi
  · haveI : Has b m (.cells c e (0, 0)) r := ⟨hs.eq⟩
    refine hAppend_own (f x) (by simp [hf]) hr h1 hc hle hz hb hfit fun b' cap' c' r' h2 h3 h4 h5 h6 => ?_
    refine hk _ _ _ (.inr ⟨b', cap', c', by simp, h4, by simpa using h3, fun i hi => ?_, rfl⟩) h2
    have hl := flatMap_len hf l
    simp only [List.length_append, List.length_singleton, Nat.add_mul, Nat.one_mul] at hi
    simp only [List.flatMap_append, List.flatMap_cons, List.flatMap_nil, List.append_nil]
    rcases Nat.lt_or_ge i (l.length * sz) with h7 | h7
    · rw [h5 i h7, hg i h7, List.getElem?_append_left (by omega)]
    · rw [List.getElem?_append_right (by omega), hl]
      have := h6 (i - l.length * sz) (by simp only [Nat.one_mul]; omega)
      rwa [show l.length * sz + (i - l.length * sz) = i by omega] at this
end
end Go.Hp
