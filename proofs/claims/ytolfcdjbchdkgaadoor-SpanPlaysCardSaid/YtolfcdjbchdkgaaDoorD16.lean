/- SpanPlays: awake. Own work. -/
import Derived.Test.YtolfcdjbchdkgaaDoorD15
namespace Go.Proofs.YtolfcdjbchdkgaaDoor
open Go Go.Hp
set_option maxRecDepth 100000
attribute [local irreducible] hLoad hStore hNew hInt hQuo hRem hShl hShr hIf hNil hIdx hCut hElem hByte hAppend hMake hCall hYield hGet hPut hDel hNewMap hLoop hLet hAll hRange hRec hEq hCmp bitv W Does HYield

theorem First.uniq {U : Nat → Bool} {c a b : Nat} (h1 : First U c a) (h2 : First U c b) : a = b := by
  rcases Nat.lt_trichotomy a b with h | h | h
  · exact absurd h1.1 (h2.2 a h)
  · exact h
  · exact absurd h2.1 (h1.2 b h)
theorem Longest.uniq {U : Nat → Bool} {x y : Nat} (h1 : Longest U x) (h2 : Longest U y) : x = y := by
  obtain ⟨a, ha⟩ := h1.2; obtain ⟨b, hb⟩ := h2.2
  have := h1.1 b y hb; have := h2.1 a x ha; omega

theorem awake5_does {m r : HP} {Tt : TypeId} {fr : Nat × Nat} [Has 0 m (.cells deBc Tt fr) r] : Does Tryd.prog 10 #[] m (ret (.bool true) m) := by
  refine F10_fn ?_
  unfold F10
  refine hCall_of (snew_does 8) ?_
  rintro e m' (⟨h1, _⟩ | ⟨T, X, _, hT, rfl, ho⟩)
  · omega
  refine ⟨_, ho, _, _, rfl, hIf_false rfl (hIf_neF rfl ?_)⟩
  refine hCall_of (salloc_does hT 3 7 (by omega)) ?_
  have hfree : Free (UL 8 []) 0 3 := fun p _ h => by unfold UL; simp; omega
  rintro e m' (⟨h1, _⟩ | ⟨_, h1, _⟩ | ⟨a, X1, _, hf, hT1, rfl, ho⟩)
  · omega
  · exact absurd hfree (h1 0)
  have ha : a = 0 := by
    rcases Nat.eq_zero_or_pos a with h | h
    · exact h
    · exact absurd hfree (hf.2 0 h)
  subst ha
  have hT1 : SpanAt T 8 [⟨0, 3, 7⟩] X1 := hT1
  refine ⟨_, ho, _, _, _, _, rfl, ?_⟩
  refine hNew_of fun b9 => hStore3_0 (hStore3_1 (hStore3_2 ?_))
  refine hCall_ret (sfind_does hT1 2) ⟨_, _, _, _, rfl, ?_⟩
  have hfd : findS [⟨0, 3, 7⟩] 2 = some ⟨0, 3, 7⟩ := by rfl
  rw [hfd]
  refine hNew_of fun b15 => hStore3_0 (hStore3_1 (hStore3_2 ?_))
  refine hIf_eqT rfl (hLoad_int (by rfl) (hLoad_int (by rfl) (hLoad_int (by rfl) ?_)))
  refine hEq_of (spEq _ _ _ _ _ _ _ _ _) (hIf_true (by simp [intsEq]) (hIf_true rfl ?_))
  refine hLoad_int (by rfl) (hLoad_int (by rfl) (hLoad_int (by rfl) (hLoad_int (by rfl) (hLoad_int (by rfl) (hLoad_int (by rfl) ?_)))))
  refine hEq_of (spEq _ _ _ _ _ _ _ _ _) (hIf_true (by simp [intsEq]) ?_)
  refine hCall_of (sfree_does hT1 1) ?_
  rintro e m' (⟨_, rfl, ho⟩ | ⟨s, X2, hs, hb, _⟩)
  · refine ⟨_, ho, _, rfl, hIf_eqT rfl ?_⟩
    refine hCall_of (sfree_does hT1 0) ?_
    rintro e m' (⟨h1, _⟩ | ⟨s, X2, hs, hb, hT2, rfl, ho⟩)
    · exact absurd rfl (h1 ⟨0, 3, 7⟩ (by simp))
    · exact ⟨_, ho, _, rfl, ret.eq (by simp) (Over.of _ _)⟩
  · simp only [List.mem_singleton] at hs; subst hs; simp at hb

end Go.Proofs.YtolfcdjbchdkgaaDoor
