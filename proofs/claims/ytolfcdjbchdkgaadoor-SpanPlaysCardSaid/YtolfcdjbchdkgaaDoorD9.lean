/- Pages: New. Own work. -/
import Derived.Test.YtolfcdjbchdkgaaDoorD8
import Derived.Test.YtolfcdjbchdkgaaDoorH15
namespace Go.Proofs.YtolfcdjbchdkgaaDoor
open Go Go.Hp
set_option maxRecDepth 100000
attribute [local irreducible] hLoad hStore hNew hInt hQuo hRem hShl hShr hIf hNil hIdx hCut hElem hByte hAppend hMake hCall hYield hGet hPut hDel hNewMap hLoop hLet hAll hRange hRec hEq hCmp bitv W Does HYield

theorem make_words (K : Nat) : makeCells #[.int .u64 0] (K * 1) = rows wordC (List.replicate K 0#64) := by
  have h := rows_make (f := wordC) (z := 0#64) (by decide) K
  have e : (wordC 0#64).toArray = #[.int .u64 0] := by unfold wordC; rw [← c0]
  rw [e] at h; exact h
theorem make_sums (K : Nat) : makeCells #[.int .i64 0, .int .i64 0, .int .i64 0, .int .i64 0] (K * 4) = rows sumC (List.replicate K Sum.zero) :=
  rows_make (f := sumC) (z := Sum.zero) (by decide) K

theorem foldS_zero (t : Nat) : foldS (List.replicate t Sum.zero) = Sum.zero := by
  induction t with
  | zero => rfl
  | succ t ih => unfold foldS at *; rw [List.replicate_succ, List.foldl_cons]; exact ih
theorem groups_zero (N : Nat) : groups (List.replicate N Sum.zero) = List.replicate ((N + 7) / 8) Sum.zero := by
  apply List.ext_getElem?
  intro i
  by_cases h : i < (N + 7) / 8
  · rw [groups_get _ _ (by simpa using h)]
    have : group (List.replicate N Sum.zero) i = List.replicate (min 8 (N - 8 * i)) Sum.zero := by unfold group; rw [List.drop_replicate, List.take_replicate]
    rw [this, foldS_zero, List.getElem?_replicate, if_pos h]
  · rw [List.getElem?_eq_none (by rw [groups_len]; simpa using h), List.getElem?_eq_none (by simpa using h)]
theorem it_zero (K j : Nat) : it j (List.replicate K Sum.zero) = List.replicate (it j (List.replicate K Sum.zero)).length Sum.zero := by
  induction j with
  | zero => simp [it]
  | succ j ih =>
    simp only [it]
    generalize it j (List.replicate K Sum.zero) = l at ih
    rw [ih, groups_zero]; simp
theorem lvH_snoc : ∀ {bs : List Nat} {ls : List (List Sum)} {b : Nat} {l : List Sum}, bs.length = ls.length → lvH (bs ++ [b]) (ls ++ [l]) = lvH bs ls + pt b (.cells (rows sumC l) 131 (0, 0))
  | [], [], b, l, _ => by simp [lvH]
  | _ :: _, [], _, _, h => by simp at h
  | [], _ :: _, _, _, h => by simp at h
  | b0 :: bs, l0 :: ls, b, l, h => by
    simp only [List.cons_append, lvH]
    rw [lvH_snoc (by simpa using h), HP.add_assoc]
theorem levels_snoc (j : Nat) (l0 : List Sum) : levels (j + 1) l0 = levels j l0 ++ [it j l0] := by simp [levels, List.range_succ]

theorem shl_bits (x : Nat) (b : Nat) (hb : b < 64) : (BitVec.allOnes 64 <<< x).getLsbD b = decide (x ≤ b) := by
  rw [BitVec.getLsbD_shiftLeft, BitVec.getLsbD_allOnes, Bool.eq_iff_iff]
  simp only [Bool.and_eq_true, decide_eq_true_eq, Bool.not_eq_true', decide_eq_false_iff_not]
  omega

/-- The state while the levels are made. -/
def newH (n : Nat) (us : List (BitVec 64)) (b6 b5 : Nat) (a : Option Addr) (j cap : Nat) : HP :=
  pt b6 (.cells #[.int .i64 (n : Int), .slice (some ⟨b5, 0, none⟩) us.length us.length, .slice a j cap] 122 (0, 0)) + pt b5 (.cells (rows wordC us) 105 (0, 0))

theorem pnew_does (n : Int) {m r2 : HP} {T : TypeId} {fr : Nat × Nat} [Has 0 m (.cells deBc T fr) r2] :
    Does Tryd.prog 36 #[.int .i64 n] m fun e m' => (¬ (1 ≤ n ∧ n ≤ 4096) ∧ ret (.tuple #[.pointer none, .int .i64 1]) m e m') ∨
      ∃ (L : PL) (us : List (BitVec 64)) (l0 : List Sum) (k : Nat), (1 ≤ n ∧ n ≤ 4096) ∧ PGood L n.toNat us l0 k ∧ (∀ p, Us us p = decide (n.toNat ≤ p)) ∧
        ret (.tuple #[.pointer (some ⟨L.p, 0, none⟩), .int .i64 0]) (pagesH L n.toNat us (levels k l0) + m) e m' := by
  refine F36_fn ?_
  unfold F36
  refine hIf_dec (fun h => .inl ⟨by omega, ret.mk (Over.refl _)⟩) (fun h1 => hIf_dec (fun h => .inl ⟨by omega, ret.mk (Over.refl _)⟩) (fun h2 => ?_))
  obtain ⟨n, rfl⟩ := Int.eq_ofNat_of_zero_le (a := n) (by omega)
  have hK : ∃ K : Nat, K = (n + 63) / 64 := ⟨_, rfl⟩
  obtain ⟨K, hK⟩ := hK
  refine hInt_i64 (by omega) (by omega) (hInt_i64 (by omega) (by omega) (hQuo_pos (by omega) (by omega) (by omega) ?_))
  rw [show ((n : Int) + 64 - 1) / 64 = (K : Int) by omega]
  refine hMake_of (by omega) (by omega) (by omega) (by omega) fun b5 => hNew_of fun b6 => ?_
  simp only [Int.toNat_natCast]
  rw [make_words]
  refine hLet_of (fun _ m' => ∃ us : List (BitVec 64), us.length = K ∧ (∀ p, Us us p = decide (n ≤ p)) ∧ m' = newH n us b6 b5 none 0 0 + m) ?_ ?_
  · refine hRem_pos (by omega) (by omega) (hIf_ne (fun h => ?_) (fun h => ?_))
    · refine hNil_some (hLoad_add (hLoad_slice (by rfl) (hNil_some (hLoad_add (hLoad_slice (by rfl) ?_)))))
      dsimp only
      refine hInt_i64 (by omega) (by omega) (hRem_pos (by omega) (by omega) ?_)
      rw [cAll]
      refine hShl_W (by omega) (hIdx_of (by omega) (by omega) ?_)
      have hg : (List.replicate K 0#64)[K - 1]? = some 0#64 := by rw [List.getElem?_replicate, if_pos (by omega)]
      have eo : 0 + ((K : Int) - 1).toNat * 1 = (K - 1) * 1 := by omega
      rw [eo]
      have hsz := rowsW_size (List.replicate K 0#64)
      rw [List.length_replicate] at hsz
      refine hStore_at (by omega) ?_
      rw [rowsW_set rfl hg, show ((n : Int) % 64).toNat = n % 64 by omega]
      refine ⟨(List.replicate K 0#64).set (K - 1) (BitVec.allOnes 64 <<< (n % 64)), by simp, fun p => ?_, ?_⟩
      · unfold Us
        rw [List.getElem?_set, List.length_replicate, List.getElem?_replicate]
        by_cases e : K - 1 = p / 64
        · rw [if_pos e, if_pos (by omega)]
          simp only
          rw [shl_bits _ _ (by omega)]
          simp only [decide_eq_decide]; omega
        · rw [if_neg e]
          by_cases h3 : p / 64 < K
          · rw [if_pos h3]; simp; omega
          · rw [if_neg h3]; simp; omega
      · unfold newH; simp only [List.length_set, List.length_replicate]; ac_rfl
    · refine ⟨List.replicate K 0#64, by simp, fun p => ?_, ?_⟩
      · unfold Us
        rw [List.getElem?_replicate]
        by_cases h3 : p / 64 < K
        · rw [if_pos h3]; simp; omega
        · rw [if_neg h3]; simp; omega
      · unfold newH; simp only [List.length_replicate]; ac_rfl
  rintro _ m' ⟨us, hus, hU, rfl⟩
  refine hAll_of fun _ => ?_
  unfold F36_j6
  unfold newH
  refine hNil_some (hLoad_add (hLoad_slice (by rfl) ?_))
  dsimp only
  refine hLoop_of (fun d x m' => ∃ j : Nat, d = (it j (List.replicate K Sum.zero)).length ∧ x = (((it j (List.replicate K Sum.zero)).length : Int), ()) ∧ 1 ≤ (it j (List.replicate K Sum.zero)).length ∧ j + (it j (List.replicate K Sum.zero)).length ≤ 64 ∧
    ((j = 0 ∧ Over (newH n us b6 b5 none 0 0 + m) m') ∨ ∃ (sb cap : Nat) (sc : Array Value) (bs : List Nat), sc.size = cap * 1 ∧ j ≤ cap ∧
      PLok ⟨b6, b5, sb, bs, sc, cap⟩ j (fun i => (it i (List.replicate K Sum.zero)).length) ∧
      Over (newH n us b6 b5 (some ⟨sb, 0, none⟩) j cap + (pt sb (.cells sc 123 (0, 0)) + (lvH bs (levels j (List.replicate K Sum.zero)) + m))) m')) ?_ ?_
  · exact ⟨K, 0, by simp [it], by simp [it, hus], by simp [it]; omega, by simp [it]; omega, .inl ⟨rfl, Over.refl _⟩⟩
  rintro d x m' ⟨j, rfl, rfl, hlen1, hjl, hst⟩
  refine hAll_of fun _ => ?_
  unfold F36_l8
  dsimp only
  generalize hlz : (it j (List.replicate K Sum.zero)).length = lz at hlen1 hjl
  have hitz := it_zero K j
  rw [hlz] at hitz
  -- what comes behind the append
  have next : ∀ (sb cap : Nat) (sc : Array Value) (bs : List Nat) (b25 : Nat) (a : Option Addr) (j0 cap0 : Nat) (m2 : HP), sc.size = cap * 1 → j + 1 ≤ cap →
      PLok ⟨b6, b5, sb, bs, sc, cap⟩ (j + 1) (fun i => (it i (List.replicate K Sum.zero)).length) →
      Over (newH n us b6 b5 a j0 cap0 + (pt sb (.cells sc 123 (0, 0)) + (lvH bs (levels (j + 1) (List.replicate K Sum.zero)) + m))) m2 →
      (hNil (some ⟨b6, 0, none⟩) fun a_30 => hStore (.slice (some ⟨sb, 0, none⟩) (j + 1) cap) (a_30.add 2)
        (hIf ((lz : Int) == 1)
          (hNil (some ⟨b6, 0, none⟩) fun a_31 => hLoad .slice (a_31.add 1) fun (v_32 : Sl) =>
            hLoop (α := Int × Unit) (0, ()) fun x_33 again_34 => hAll fun _ => F36_l11 b6 v_32 x_33.1 again_34 fun e m' => (¬ (1 ≤ (n : Int) ∧ (n : Int) ≤ 4096) ∧ ret (.tuple #[.pointer none, .int .i64 1]) m e m') ∨
              ∃ (L : PL) (us : List (BitVec 64)) (l0 : List Sum) (k : Nat), (1 ≤ (n : Int) ∧ (n : Int) ≤ 4096) ∧ PGood L (n : Int).toNat us l0 k ∧ (∀ p, Us us p = decide ((n : Int).toNat ≤ p)) ∧
                ret (.tuple #[.pointer (some ⟨L.p, 0, none⟩), .int .i64 0]) (pagesH L (n : Int).toNat us (levels k l0) + m) e m')
          (hInt .i64 ((lz : Int) + 7) fun v_38 => hQuo .i64 v_38 8 fun v_39 => fun m' => ∃ k', k' < lz ∧ ∃ j : Nat, k' = (it j (List.replicate K Sum.zero)).length ∧ (v_39, ()) = (((it j (List.replicate K Sum.zero)).length : Int), ()) ∧ 1 ≤ (it j (List.replicate K Sum.zero)).length ∧ j + (it j (List.replicate K Sum.zero)).length ≤ 64 ∧
              ((j = 0 ∧ Over (newH n us b6 b5 none 0 0 + m) m') ∨ ∃ (sb cap : Nat) (sc : Array Value) (bs : List Nat), sc.size = cap * 1 ∧ j ≤ cap ∧
                PLok ⟨b6, b5, sb, bs, sc, cap⟩ j (fun i => (it i (List.replicate K Sum.zero)).length) ∧
                Over (newH n us b6 b5 (some ⟨sb, 0, none⟩) j cap + (pt sb (.cells sc 123 (0, 0)) + (lvH bs (levels j (List.replicate K Sum.zero)) + m))) m')))) m2 := by
    intro sb cap sc bs b25 a j0 cap0 m2 hsc hcap hPL hov
    obtain ⟨g, rfl⟩ := hov
    unfold newH
    refine hNil_some (hStore_add (hStore3_2 ?_))
    refine hIf_eq (fun h => ?_) (fun h => ?_)
    · have hlz1 : lz = 1 := by omega
      refine hNil_some (hLoad_add (hLoad_slice (by rfl) ?_))
      have hpg : ∀ l0 : List Sum, (pagesH ⟨b6, b5, sb, bs, sc, cap⟩ n us (levels (j + 1) l0)) = pt b6 (.cells #[.int .i64 (n : Int), .slice (some ⟨b5, 0, none⟩) us.length us.length, .slice (some ⟨sb, 0, none⟩) (j + 1) cap] 122 (0, 0)) + (pt b5 (.cells (rows wordC us) 105 (0, 0)) + (pt sb (.cells sc 123 (0, 0)) + lvH bs (levels (j + 1) l0))) := fun l0 => by
        unfold pagesH hdC; rw [levels_len]
      refine hLoop_of (fun d x m' => ∃ (i : Nat) (l0 : List Sum), i ≤ K ∧ d = K - i ∧ x = ((i : Int), ()) ∧ l0.length = K ∧ Bnd l0 ∧ (∀ (i' : Nat) (w : BitVec 64) (s : Sum), i' < i → us[i']? = some w → l0[i']? = some s → IsSum w.getLsbD 0 64 s) ∧
        Over (pagesH ⟨b6, b5, sb, bs, sc, cap⟩ n us (levels (j + 1) l0) + m) m') ?_ ?_
      · refine ⟨_, 0, List.replicate K Sum.zero, by omega, rfl, rfl, by simp, fun s hs => ?_, fun i' w s h => by omega, ?_⟩
        · rw [(List.mem_replicate.1 hs).2]; exact ⟨Sum.ok.zero, by simp [Sum.zero]⟩
        · rw [hpg]; exact ⟨g, by ac_rfl⟩
      rintro d x m' ⟨i, l0, hi, rfl, rfl, hl0, hB, hS, g2, rfl⟩
      refine hAll_of fun _ => ?_
      unfold F36_l11
      dsimp only
      have hlay : PLok ⟨b6, b5, sb, bs, sc, cap⟩ (j + 1) (fun i => (it i l0).length) := ⟨hPL.1, fun i b h => by
        have := hPL.2 i b h; dsimp only at this ⊢; rwa [it_len (l' := l0) (by simp [hl0])] at this⟩
      refine hIf_dec (fun h3 => ?_) (fun h3 => ?_)
      · have hi' : i < us.length := by omega
        have hw : us[i]? = some us[i] := List.getElem?_eq_getElem hi'
        refine hCall_of (renew_does ⟨b6, b5, sb, bs, sc, cap⟩ (n := n) (l0 := l0) (k := j + 1) hlay ⟨by omega, by omega⟩ (by omega) (by omega) hB hw) ?_
        rintro e m' ⟨s, hs, rfl, ho⟩
        refine ⟨_, ho, hInt_i64 (by omega) (by omega) ⟨K - (i + 1), by omega, i + 1, l0.set i s, by omega, rfl, rfl, by simp [hl0], hB.set ⟨hs.ok, by rw [hs.all]; omega⟩, fun i' w t h4 h5 h6 => ?_, Over.of _ _⟩⟩
        rw [List.getElem?_set] at h6
        by_cases e : i = i'
        · subst e
          rw [if_pos rfl, if_pos (by omega)] at h6
          rw [hw] at h5
          simp only [Option.some.injEq] at h5 h6; subst h5 h6; exact hs
        · rw [if_neg e] at h6; exact hS i' w t (by omega) h5 h6
      · refine .inr ⟨⟨b6, b5, sb, bs, sc, cap⟩, us, l0, j + 1, ⟨by omega, by omega⟩, ⟨hlay, by omega, by omega, by rw [Int.toNat_natCast]; omega, by rw [Int.toNat_natCast]; omega, by rw [Int.toNat_natCast]; omega, by omega, hB, fun i' w s h5 h6 => ?_, ?_, fun p hp => ?_⟩, by simpa using hU, ?_⟩
        · exact hS i' w s (by have := (List.getElem?_eq_some_iff.1 h5).1; omega) h5 h6
        · rw [show j + 1 - 1 = j by omega, it_len (l' := List.replicate K Sum.zero) (by simp [hl0]), hlz, hlz1]
        · rw [hU]; rw [Int.toNat_natCast] at hp; simpa using hp
        · rw [Int.toNat_natCast]; exact ret.mk (Over.of _ _)
    · have hl2 : (it (j + 1) (List.replicate K Sum.zero)).length = (lz + 7) / 8 := by simp only [it, groups_len, hlz]
      refine hInt_i64 (by omega) (by omega) (hQuo_pos (by omega) (by omega) (by omega) ?_)
      refine ⟨(lz + 7) / 8, by omega, j + 1, hl2.symm, by rw [hl2, show ((lz : Int) + 7) / 8 = (((lz + 7) / 8 : Nat) : Int) by omega], by rw [hl2]; omega, by rw [hl2]; omega, .inr ⟨sb, cap, sc, bs, hsc, hcap, hPL, ?_⟩⟩
      exact ⟨g, by ac_rfl⟩
  rcases hst with ⟨rfl, g, rfl⟩ | ⟨sb, cap, sc, bs, hsc, hcap, hPL, g, rfl⟩
  · unfold newH
    refine hNil_some (hLoad_add (hLoad_slice (by rfl) ?_))
    dsimp only
    refine hMake_of (by omega) (by omega) (by omega) (by omega) fun b25 => ?_
    simp only [Int.toNat_natCast]
    rw [make_sums]
    refine hLoad_add (hLoad_slice (by rfl) ⟨rfl, ?_⟩)
    refine hNew_of fun b27 => ?_
    refine hLoad_add (hLoad_slice (by rfl) ⟨rfl, ?_⟩)
    refine hAppend_nil [.slice (some ⟨b25, 0, none⟩) lz lz] rfl (Row.of (fun j v h => by rw [Nat.zero_add]; simpa using h)) rfl Nat.one_pos rfl (by omega) (by show 1 * 24 ≤ 140737488355328; omega) (fun b' cap' c' hc1 hc2 hc3 => ?_)
    refine next b' cap' c' [b25] b25 none 0 0 _ hc2 hc1 ⟨rfl, fun i b hb => ?_⟩ ?_
    · rcases i with _ | i
      · simp only [List.getElem?_cons_zero, Option.some.injEq] at hb; subst hb
        have := hc3 0 Nat.one_pos
        simp only [hlz]; simpa using this
      · simp at hb
    · have e : lvH [b25] (levels (0 + 1) (List.replicate K Sum.zero)) = pt b25 (.cells (rows sumC (List.replicate lz Sum.zero)) 131 (0, 0)) := by
        rw [levels_snoc, hitz]; simp [levels, lvH]
      rw [e]
      unfold newH
      exact Over.of _ _
  · unfold newH
    refine hNil_some (hLoad_add (hLoad_slice (by rfl) ?_))
    dsimp only
    refine hMake_of (by omega) (by omega) (by omega) (by omega) fun b25 => ?_
    simp only [Int.toNat_natCast]
    rw [make_sums]
    refine hLoad_add (hLoad_slice (by rfl) ⟨rfl, ?_⟩)
    refine hNew_of fun b27 => ?_
    refine hLoad_add (hLoad_slice (by rfl) ⟨rfl, ?_⟩)
    refine hAppend_own [.slice (some ⟨b25, 0, none⟩) lz lz] rfl (Row.of (fun j v h => by rw [Nat.zero_add]; simpa using h)) rfl hsc hcap rfl (by omega) (by show (j + 1) * 24 ≤ 140737488355328; omega) (fun b' cap' c' r' hr' hc1 hc2 hc3 hc4 => ?_)
    refine next b' cap' c' (bs ++ [b25]) b25 (some ⟨sb, 0, none⟩) j cap _ hc2 hc1 ⟨by simp [hPL.1], fun i b hb => ?_⟩ ?_
    · have hbl := hPL.1
      simp only at hbl
      rcases Nat.lt_or_ge i j with hi | hi
      · rw [List.getElem?_append_left (by omega)] at hb
        have h5 := hPL.2 i b hb
        have := hc3 i (by omega)
        simp only at h5 ⊢
        rw [this]; exact h5
      · rw [List.getElem?_append_right (by omega)] at hb
        have hij : i = j := by
          rcases Nat.eq_or_lt_of_le hi with h | h
          · exact h.symm
          · rw [List.getElem?_eq_none (by simp; omega)] at hb; cases hb
        subst hij
        rw [show i - bs.length = 0 by omega] at hb
        simp only [List.getElem?_cons_zero, Option.some.injEq] at hb; subst hb
        have := hc4 0 Nat.one_pos
        simp only [hlz]; simpa using this
    · have e : lvH (bs ++ [b25]) (levels (j + 1) (List.replicate K Sum.zero)) = lvH bs (levels j (List.replicate K Sum.zero)) + pt b25 (.cells (rows sumC (List.replicate lz Sum.zero)) 131 (0, 0)) := by
        rw [levels_snoc, lvH_snoc (by rw [levels_len]; exact hPL.1), hitz]
      rw [e]
      refine Over.trans ?_ (Over.add' hr')
      unfold newH
      exact Over.of _ _

end Go.Proofs.YtolfcdjbchdkgaaDoor
