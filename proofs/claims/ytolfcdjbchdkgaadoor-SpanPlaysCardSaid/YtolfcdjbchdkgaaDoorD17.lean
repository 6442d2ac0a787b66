/- SpanPlays: the law's function answers true. Own work. -/
import Derived.Test.YtolfcdjbchdkgaaDoorD16
namespace Go.Proofs.YtolfcdjbchdkgaaDoor
open Go Go.Hp
set_option maxRecDepth 100000
attribute [local irreducible] hLoad hStore hNew hInt hQuo hRem hShl hShr hIf hNil hIdx hCut hElem hByte hAppend hMake hCall hYield hGet hPut hDel hNewMap hLoop hLet hAll hRange hRec hEq hCmp bitv W Does HYield

def I64 (x : Int) : Prop := -9223372036854775808 ≤ x ∧ x ≤ 9223372036854775807
/-- The script's calls stand in memory. -/
structure Script (r : HP) (sl : Sl) (L : List (Int × Int × Int)) : Prop where
  len : sl.n = L.length
  at_ : ∀ (i : Nat) (x : Int × Int × Int), L[i]? = some x → ∃ ad, sl.a = some ad ∧ At r (ad.add (i * 3)) (.int .i64 x.1) ∧ At r ((ad.add (i * 3)).add 1) (.int .i64 x.2.1) ∧ At r ((ad.add (i * 3)).add 2) (.int .i64 x.2.2)
  rng : ∀ x ∈ L, I64 x.1 ∧ I64 x.2.1 ∧ I64 x.2.2
  le : (L.length : Int) ≤ 9223372036854775807

theorem refCounts_does {R : RL} {n : Nat} {l : List Sp} {Y : HP} (h : RefAt R n l Y) {m r : HP} [hs : Sub Y m r] {K : Addr → HP → Prop}
    (hk : ∀ x : Nat, Longest (UL n l) x → ∀ (X : List PanicEntry → HP → Prop) (K' : Value → HP → Prop), K' (.tuple #[.int .i64 (cntFree (UL n l) n : Nat), .int .i64 (x : Int)]) (Y + r) → True) : True := trivial

theorem spanplays_does (n : Int) (sl : Sl) (L : List (Int × Int × Int)) {r r2 : HP} {Tt : TypeId} {fr : Nat × Nat} [Has 0 r (.cells deBc Tt fr) r2] (hS : Script r sl L) :
    Does Tryd.prog 3 #[.int .i64 n, .slice sl.a sl.n sl.cap] r (ret (.bool true) r) := by
  refine F3_fn (script_2 := sl) ?_
  unfold F3
  refine hCall_of (snew_does n) ?_
  rintro e m' (⟨h1, rfl, ho⟩ | ⟨T, X0, h1, hT, rfl, ho⟩)
  · refine ⟨_, ho, _, _, rfl, hCall_of (rtnew_does n) ?_⟩
    rintro e m' (⟨_, rfl, ho⟩ | ⟨R, Y0, h2, _⟩)
    · refine ⟨_, ho, _, _, rfl, hCall_ret awake5_does ⟨_, rfl, ?_⟩⟩
      exact hIf_false rfl (hIf_neF rfl (hIf_false rfl (hIf_true rfl ⟨rfl, Over.refl _⟩)))
    · exact absurd h2 h1
  refine ⟨_, ho, _, _, rfl, hCall_of (rtnew_does n) ?_⟩
  rintro e m' (⟨h2, _⟩ | ⟨R, Y0, _, hR, rfl, ho⟩)
  · exact absurd h1 h2
  refine ⟨_, ho, _, _, rfl, hCall_ret awake5_does ⟨_, rfl, ?_⟩⟩
  refine hIf_false rfl (hIf_neF rfl (hIf_false rfl (hIf_false rfl ?_)))
  obtain ⟨n, rfl⟩ := Int.eq_ofNat_of_zero_le (a := n) (by omega)
  rw [Int.toNat_natCast] at hT hR
  have hlen := hS.len
  refine hLoop_of (fun d x m' => ∃ (i : Nat) (l : List Sp) (X Y : HP), i ≤ L.length ∧ d = L.length - i ∧ x = ((i : Int), ()) ∧ SpanAt T n l X ∧ RefAt R n l Y ∧ Over (X + (Y + r)) m') ?_ ?_
  · exact ⟨_, 0, [], X0, Y0, by omega, rfl, rfl, hT, hR, Over.of _ _⟩
  rintro d x m' ⟨i, l, X, Y, hi, rfl, rfl, hX, hY, g, rfl⟩
  refine hAll_of fun _ => ?_
  unfold F3_l8
  dsimp only
  refine hIf_dec (fun h3 => ?_) (fun h3 => ?_)
  · have hi' : i < L.length := by omega
    have hL : L[i]? = some L[i] := List.getElem?_eq_getElem hi'
    obtain ⟨ad, hda, hA0, hA1, hA2⟩ := hS.at_ i _ hL
    obtain ⟨hr0, hr1, hr2⟩ := hS.rng _ (List.getElem_mem hi')
    have hle := hS.le
    generalize L[i] = op at hA0 hA1 hA2 hr0 hr1 hr2
    obtain ⟨kd, a, b⟩ := op
    dsimp only at hA0 hA1 hA2 hr0 hr1 hr2
    have up : ∀ {ad v}, At r ad v → At (X + (Y + r) + g) ad v := fun h => At.sub h
    refine hIdx_any hda (by omega) (by omega) ?_
    rw [Int.toNat_natCast]
    refine hLoad_here (t := .int .i64) (x := kd) (up hA0) (hLoad_here (t := .int .i64) (x := a) (up hA1) (hLoad_here (t := .int .i64) (x := b) (up hA2) ?_))
    refine hNew_of fun b18 => hStore3_0 (hStore3_1 (hStore3_2 ?_))
    refine hLet_of (fun s m' => ∃ (l : List Sp) (X Y : HP), s = (true, ()) ∧ SpanAt T n l X ∧ RefAt R n l Y ∧ Over (X + (Y + (pt b18 (.cells #[.int .i64 kd, .int .i64 a, .int .i64 b] 32 (0, 0)) + r))) m') ?_ ?_
    · refine hLoad_int (by rfl) (hIf_eq (fun h4 => ?_) (fun h4 => ?_))
      · refine hLoad_int (by rfl) (hLoad_int (by rfl) ?_)
        refine hCall_of (salloc_does hX a b hr1.2) ?_
        rintro e m' (⟨h5, rfl, ho⟩ | ⟨h5, h6, rfl, ho⟩ | ⟨x, X1, h5, h6, hX1, rfl, ho⟩)
        all_goals
          refine ⟨_, ho, _, _, _, _, rfl, ?_⟩
          refine hNew_of fun b28 => hStore3_0 (hStore3_1 (hStore3_2 (hLoad_int (by rfl) (hLoad_int (by rfl) ?_))))
          refine hCall_of (ralloc5_does hY a b hr1.2) ?_
          rintro e m' (⟨h7, rfl, ho⟩ | ⟨h7, h8, rfl, ho⟩ | ⟨y, Y1, h7, h8, hY1, rfl, ho⟩)
          all_goals first
            | omega
            | exact absurd h8.1 (h6 _)
            | exact absurd h6.1 (h8 _)
            | (refine ⟨_, ho, _, _, _, _, rfl, ?_⟩
               refine hNew_of fun b36 => hStore3_0 (hStore3_1 (hStore3_2 ?_))
               refine hLoad_int (by rfl) (hLoad_int (by rfl) (hLoad_int (by rfl) (hLoad_int (by rfl) (hLoad_int (by rfl) (hLoad_int (by rfl) ?_)))))
               refine hEq_of (spEq _ _ _ _ _ _ _ _ _) ?_
               first
                 | exact hIf_true (by simp [intsEq]) ⟨l, X, Y, rfl, hX, hY, Over.of _ _⟩
                 | (obtain rfl := First.uniq h6 h8
                    exact hIf_true (by simp [intsEq]) ⟨_, X1, Y1, rfl, hX1, hY1, Over.of _ _⟩))
      · refine hIf_eq (fun h5 => ?_) (fun h5 => ?_)
        · refine hLoad_int (by rfl) (hLoad_int (by rfl) ?_)
          refine hCall_of (sfree_does hX a) ?_
          rintro e m' (⟨h6, rfl, ho⟩ | ⟨s, X1, hs1, hs2, hX1, rfl, ho⟩)
          all_goals
            refine ⟨_, ho, _, rfl, hLoad_int (by rfl) ⟨rfl, ?_⟩⟩
            refine hCall_of (rfree5_does hY a) ?_
            rintro e m' (⟨h7, Y1, hY1, rfl, ho⟩ | ⟨t, Y1, ht1, ht2, hY1, rfl, ho⟩)
          · exact ⟨_, ho, _, rfl, l, X, Y1, rfl, hX, hY1, Over.of _ _⟩
          · exact absurd ht2 (h6 t ht1)
          · exact absurd hs2 (h7 s hs1)
          · have : s.base = t.base := by omega
            rw [← this] at hY1
            exact ⟨_, ho, _, rfl, _, X1, Y1, rfl, hX1, hY1, Over.of _ _⟩
        · exact ⟨l, X, Y, rfl, hX, hY, Over.of _ _⟩
    · rintro s m' ⟨l, X, Y, rfl, hX, hY, g, rfl⟩
      refine hAll_of fun _ => ?_
      unfold F3_j18
      dsimp only
      refine hLoad_int (by rfl) ?_
      refine hCall_ret (sfind_does hX a) ⟨_, _, _, _, rfl, ?_⟩
      refine hNew_of fun b59 => hStore3_0 (hStore3_1 (hStore3_2 (hLoad_int (by rfl) ?_)))
      refine hCall_ret (rfind_does hY a hr1) ⟨_, _, _, _, rfl, ?_⟩
      refine hNew_of fun b66 => hStore3_0 (hStore3_1 (hStore3_2 ?_))
      refine hCall_of (scounts_does hX) ?_
      rintro e m' ⟨x, hx, rfl, ho⟩
      refine ⟨_, ho, _, _, rfl, ?_⟩
      obtain ⟨B, s, Hl, G, rfl⟩ := hY
      unfold refX
      refine hNil_some (hLoad_ptr (by rfl) ?_)
      refine hCall_of (rcounts_does (ub := R.ub) (B := B) (by have := G.blen; have := G.nle; omega)) ?_
      rintro e m' ⟨y, hy, rfl, ho⟩
      rw [G.used] at hy
      obtain rfl := Longest.uniq hx hy
      refine ⟨_, ho, _, _, rfl, hIf_false rfl ?_⟩
      refine hLoad_int (by rfl) (hLoad_int (by rfl) (hLoad_int (by rfl) (hLoad_int (by rfl) (hLoad_int (by rfl) (hLoad_int (by rfl) ?_)))))
      refine hEq_of (spEq _ _ _ _ _ _ _ _ _) (hIf_not (hIf_true (by simp [intsEq]) (hIf_false (by simp) ?_)))
      refine hIf_neF (by rw [G.used, G.blen]) (hIf_neF rfl ?_)
      exact hInt_i64 (by omega) (by omega) ⟨L.length - (i + 1), by omega, i + 1, l, X, refX R B s Hl, by omega, rfl, rfl, hX, ⟨B, s, Hl, G, rfl⟩, by unfold refX; exact Over.of _ _⟩
  · refine hCall_of (sall_does hX) ?_
    rintro e m' ⟨s, Hs, hO, rfl, ho⟩
    refine ⟨_, ho, s, _, rfl, hIf_true rfl ?_⟩
    obtain ⟨B, s2, Hl, G, rfl⟩ := hY
    have hle := G.ok.len; have := G.nle
    unfold refX
    refine hNil_some (hLoad_add (hLoad_slice (by rfl) ?_))
    dsimp only
    refine hCall_ret (ssame_does hO G.own (by omega)) ⟨_, rfl, ret.mk (Over.of _ _)⟩

end Go.Proofs.YtolfcdjbchdkgaaDoor
