/- Rules for append. Own work; nothing of any program. -/
import Derived.Test.YtolfcdjbchdkgaaDoorH14
namespace Go.Hp
open Go

theorem blit_get (vs : List Value) : ∀ (c : Array Value) (off i : Nat), off + vs.length ≤ c.size → (blit c off vs)[i]? = if off ≤ i ∧ i < off + vs.length then vs[i - off]? else c[i]? := by
  induction vs with
  | nil => intro c off i _; simp [blit]; omega
  | cons v vs ih =>
    intro c off i h
    simp only [List.length_cons] at h
    simp only [blit]
    rw [ih _ _ _ (by simp; omega)]
    by_cases h1 : off + 1 ≤ i ∧ i < off + 1 + vs.length
    · rw [if_pos h1, if_pos (by simp; omega), show i - off = (i - (off + 1)) + 1 by omega, List.getElem?_cons_succ]
    · rw [if_neg h1, Array.getElem?_setIfInBounds]
      by_cases e : off = i
      · subst e; rw [if_pos rfl, if_pos (by omega), if_pos (by simp), Nat.sub_self]; rfl
      · rw [if_neg e, if_neg (by simp; omega)]

theorem Over.add' {a b c : HP} (h : Over a b) : Over (c + a) (c + b) := by obtain ⟨g, rfl⟩ := h; exact ⟨g, (HP.add_assoc _ _ _).symm⟩
theorem Row.of {b : Nat} {c : Array Value} {T : TypeId} {fr : Nat × Nat} {m r : HP} {o : Nat} {xs : List Value} [h : Has b m (.cells c T fr) r] (hx : ∀ j v, xs[j]? = some v → c[o + j]? = some v) : Row m (some ⟨b, o, none⟩) xs :=
  .inr ⟨_, rfl, c, T, fr, r, h.eq, rfl, hx⟩

section
variable {m : HP}
/-- To a slice that owns its block from the beginning. -/
theorem hAppend_own {size bytes : Nat} {zero : Array Value} {e : TypeId} {b n cap : Nat} {c : Array Value} {r : HP} {x : Sl} {K : Sl → HP → Prop} [h : Has b m (.cells c e (0, 0)) r] (xs : List Value)
    (hl : xs.length = x.n * size) (hx : Row m x.a xs) (h1 : okCells xs = true) (hc : c.size = cap * size) (hn : n ≤ cap) (hz : zero.size = size) (hb : 0 < bytes) (hfit : (n + x.n) * bytes ≤ 140737488355328)
    (hk : ∀ b' cap' c' r', Over r r' → n + x.n ≤ cap' → c'.size = cap' * size → (∀ i, i < n * size → c'[i]? = c[i]?) → (∀ j, j < x.n * size → c'[n * size + j]? = xs[j]?) →
      K ⟨some ⟨b', 0, none⟩, n + x.n, cap'⟩ (pt b' (.cells c' e (0, 0)) + r')) : hAppend size bytes zero e ⟨some ⟨b, 0, none⟩, n, cap⟩ x K m := by
  refine ⟨xs, hl, hx, List.all_eq_true.1 h1, fun hle => ?_, fun hgt => ?_⟩
  · have hle' : n + x.n ≤ cap := hle
    have hm := Nat.mul_le_mul_right size hle'
    rw [Nat.add_mul] at hm
    rcases Nat.eq_zero_or_pos (x.n * size) with h0 | h0
    · refine .inl ⟨List.eq_nil_of_length_eq_zero (by omega), ?_⟩
      rw [h.eq]
      exact hk b cap c r (Over.refl _) hle' hc (fun _ _ => rfl) (fun j hj => by omega)
    · refine .inr ⟨⟨b, n * size, none⟩, by simp [Addr.add_lit], c, e, (0, 0), r, h.eq, rfl, by simp only; omega, fun j hj => by simp, ?_⟩
      refine hk b cap _ r (Over.refl _) hle' (by rw [blit_size, hc]) (fun i hi => ?_) (fun j hj => ?_)
      · rw [blit_get _ _ _ _ (by simp only; omega), if_neg (by simp only; omega)]
      · rw [blit_get _ _ _ _ (by simp only; omega), if_pos (by simp only; omega)]; simp
  · have hgt' : cap < n + x.n := hgt
    have hnc := Nat.mul_le_mul_right size hn
    refine ⟨(c.toList).take (n * size), by simp; omega, Row.of fun j v hj => ?_, by omega, by simpa using growslice_fits hgt' hfit, fun cap' b' hc' => ?_⟩
    · rw [Nat.zero_add]
      rw [List.getElem?_take] at hj
      split at hj
      · simpa using hj
      · cases hj
    · have hc'' : n + x.n ≤ cap' := hc'
      have hsz : (List.take (n * size) c.toList ++ xs).length = (n + x.n) * size := by simp [hl, Nat.add_mul]; omega
      have hzc : (Builtin.zeroCells zero (cap' - (n + x.n))).size = (cap' - (n + x.n)) * size := by simp [Builtin.zeroCells, hz]
      refine hk b' cap' _ m ⟨pt b (.cells c e (0, 0)), by rw [h.eq, HP.add_comm]⟩ hc'' ?_ (fun i hi => ?_) (fun j hj => ?_)
      · rw [Array.size_append, hzc, List.size_toArray, hsz, ← Nat.add_mul]; congr 1; omega
      · rw [Array.getElem?_append_left (by rw [List.size_toArray, hsz, Nat.add_mul]; omega), List.getElem?_toArray, List.getElem?_append_left (by simp; omega), List.getElem?_take, if_pos hi]
        simp
      · rw [Array.getElem?_append_left (by rw [List.size_toArray, hsz, Nat.add_mul]; omega), List.getElem?_toArray, List.getElem?_append_right (by simp; omega)]
        congr 1; simp; omega

/-- To a nil slice. -/
theorem hAppend_nil {size bytes : Nat} {zero : Array Value} {e : TypeId} {x : Sl} {K : Sl → HP → Prop} (xs : List Value)
    (hl : xs.length = x.n * size) (hx : Row m x.a xs) (h1 : okCells xs = true) (h0 : 0 < x.n) (hz : zero.size = size) (hb : 0 < bytes) (hfit : x.n * bytes ≤ 140737488355328)
    (hk : ∀ b' cap' c', x.n ≤ cap' → c'.size = cap' * size → (∀ j, j < x.n * size → c'[j]? = xs[j]?) →
      K ⟨some ⟨b', 0, none⟩, x.n, cap'⟩ (pt b' (.cells c' e (0, 0)) + m)) : hAppend size bytes zero e ⟨none, 0, 0⟩ x K m := by
  refine ⟨xs, hl, hx, List.all_eq_true.1 h1, fun hle => ?_, fun hgt => ?_⟩
  · simp only at hle; omega
  · refine ⟨[], by simp, .inl rfl, by omega, ?_, fun cap' b' hc' => ?_⟩
    · have := growslice_fits (need := 0 + x.n) (old := 0) (bytes := bytes) (by omega) (by simpa using hfit)
      simpa using this
    · simp only [Nat.zero_add, List.nil_append] at hc' ⊢
      have hzc : (Builtin.zeroCells zero (cap' - x.n)).size = (cap' - x.n) * size := by simp [Builtin.zeroCells, hz]
      refine hk b' cap' _ hc' ?_ (fun j hj => ?_)
      · rw [Array.size_append, hzc, List.size_toArray, hl, ← Nat.add_mul]; congr 1; omega
      · rw [Array.getElem?_append_left (by rw [List.size_toArray, hl]; omega), List.getElem?_toArray]
end
end Go.Hp
