/- Spans: Alloc, Free, Counts, New. Own work. -/
import Derived.Test.YtolfcdjbchdkgaaDoorD10
namespace Go.Proofs.YtolfcdjbchdkgaaDoor
open Go Go.Hp
set_option maxRecDepth 100000
attribute [local irreducible] hLoad hStore hNew hInt hQuo hRem hShl hShr hIf hNil hIdx hCut hElem hByte hAppend hMake hCall hYield hGet hPut hDel hNewMap hLoop hLet hAll hRange hRec hEq hCmp bitv W Does HYield

theorem rowsN_size (O : List Nat) : (rows natC O).size = O.length * 1 := rows_size natC_len O
theorem rowsSp_size (S : List Sp) : (rows spC S).size = S.length * 3 := rows_size spC_len S

/-- The owners after c pages from a on are marked. -/
def ownSet (O : List Nat) (a : Nat) : Nat → List Nat
  | 0 => O
  | c + 1 => (ownSet O a c).set (a + c) a
theorem ownSet_len (O : List Nat) (a c : Nat) : (ownSet O a c).length = O.length := by
  induction c with
  | zero => rfl
  | succ c ih => simp [ownSet, ih]
theorem ownSet_get {O : List Nat} {a c p : Nat} (h : a + c ≤ O.length) : (ownSet O a c)[p]? = if a ≤ p ∧ p < a + c then some a else O[p]? := by
  induction c with
  | zero => rw [if_neg (by omega)]; rfl
  | succ c ih =>
    simp only [ownSet]
    rw [List.getElem?_set, ih (by omega), ownSet_len]
    by_cases e : a + c = p
    · rw [if_pos e, if_pos (by omega), if_pos (by omega)]
    · rw [if_neg e]
      by_cases h1 : a ≤ p ∧ p < a + c
      · rw [if_pos h1, if_pos (by omega)]
      · rw [if_neg h1, if_neg (by omega)]

def zeroSp : Value := .agg #[.int .i64 0, .int .i64 0, .int .i64 0]

theorem salloc_does {T : TL} {n : Nat} {l : List Sp} {X : HP} (h : SpanAt T n l X) (c tag : Int) (hc : c ≤ 9223372036854775807) {m r r2 : HP} {Tt : TypeId} {fr : Nat × Nat} [hs : Sub X m r] [Has 0 r (.cells deBc Tt fr) r2] :
    Does Tryd.prog 11 #[.pointer (some ⟨T.t, 0, none⟩), .int .i64 c, .int .i64 tag] m fun e m' =>
      (c < 1 ∧ ret (.tuple #[zeroSp, .int .i64 1]) (X + r) e m') ∨ (1 ≤ c ∧ Nowhere (UL n l) c.toNat ∧ ret (.tuple #[zeroSp, .int .i64 3]) (X + r) e m') ∨
      ∃ (a : Nat) (X' : HP), 1 ≤ c ∧ First (UL n l) c.toNat a ∧ SpanAt T n (insS ⟨a, c.toNat, tag⟩ l) X' ∧ ret (.tuple #[.agg #[.int .i64 (a : Int), .int .i64 c, .int .i64 tag], .int .i64 0]) (X' + r) e m' := by
  obtain ⟨us, l0, k, S, O, G, rfl⟩ := h
  have hnle := G.g.nle
  have hol := G.olen
  have hsl := G.slen
  rw [hs.eq]
  refine F11_fn ?_
  unfold F11
  refine hNew_of fun b4 => hIf_false rfl ?_
  unfold spanX
  refine hNil_some (hLoad_ptr (by rfl) ?_)
  refine hCall_of (palloc_does T.L G.g c hc) ?_
  rintro e m' (⟨h1, rfl, ho⟩ | ⟨h1, h2, rfl, ho⟩ | ⟨a, us', l0', h1, hf, g', hU, rfl, ho⟩)
  · refine ⟨_, ho, _, _, rfl, hIf_neT (by omega) ?_⟩
    repeat' first
      | refine hStore3_0 ?_
      | refine hStore3_1 ?_
      | refine hStore3_2 ?_
      | refine hLoad_int (by rfl) ?_
    exact .inl ⟨h1, ret.mk (Over.of _ _)⟩
  · refine ⟨_, ho, _, _, rfl, hIf_neT (by omega) ?_⟩
    repeat' first
      | refine hStore3_0 ?_
      | refine hStore3_1 ?_
      | refine hStore3_2 ?_
      | refine hLoad_int (by rfl) ?_
    exact .inr (.inl ⟨h1, by rw [← G.used]; exact h2, ret.mk (Over.of _ _)⟩)
  · obtain ⟨x, rfl⟩ := Int.eq_ofNat_of_zero_le (a := c) (by omega)
    rw [Int.toNat_natCast] at hf hU
    have hle : a + x ≤ n := by
      rcases Nat.lt_or_ge n (a + x) with h3 | h3
      · have := hf.1 (a + x - 1) (by omega) (by omega)
        rw [G.g.tail _ (by omega)] at this; cases this
      · exact h3
    refine ⟨_, ho, _, _, rfl, hIf_neF rfl (hNew_of fun b16 => hStore3_0 (hStore3_1 (hStore3_2 ?_)))⟩
    refine hNil_some (hLoad_add (hLoad_slice (by rfl) ?_))
    dsimp only
    refine hLoad_int (by rfl) (hLoad_int (by rfl) (hLoad_int (by rfl) ?_))
    refine hIdx_of (by omega) (by omega) ?_
    have e0 : 0 + (a : Int).toNat * 3 = a * 3 := by omega
    rw [e0]
    have hsz := rowsSp_size S
    have hSa : S[a]? = some S[a] := List.getElem?_eq_getElem (by omega)
    refine hStore_at (by omega) ?_
    refine hStore_add (hStore_at (by simp; omega) ?_)
    refine hStore_add (hStore_at (by simp; omega) ?_)
    rw [rows_set3 (i := a) (s := ⟨a, x, tag⟩) spC_len hSa rfl rfl]
    refine hLoop_of (fun d y m' => ∃ i : Nat, i ≤ x ∧ d = x - i ∧ y = ((i : Int), ()) ∧
      Over (pt b16 (.cells #[.int .i64 (a : Int), .int .i64 (x : Int), .int .i64 tag] 34 (0, 0)) + (pt b4 (.cells #[.int .i64 0, .int .i64 0, .int .i64 0] 34 (0, 0)) + (spanX T n us' (levels k l0') (S.set a ⟨a, x, tag⟩) (ownSet O a i) + r))) m') ?_ ?_
    · refine ⟨_, 0, by omega, rfl, rfl, ?_⟩
      unfold spanX ownSet
      exact Over.of _ _
    rintro d y m' ⟨i, hi, rfl, rfl, gg, rfl⟩
    refine hAll_of fun _ => ?_
    unfold F11_l9
    dsimp only
    unfold spanX
    refine hIf_dec (fun h3 => ?_) (fun h3 => ?_)
    · refine hNil_some (hLoad_add (hLoad_slice (by rfl) ?_))
      dsimp only
      refine hInt_i64 (by omega) (by omega) (hIdx_of (by omega) (by omega) ?_)
      have hl := ownSet_len O a i
      have hsz2 := rowsN_size (ownSet O a i)
      have hg : (ownSet O a i)[a + i]? = some (ownSet O a i)[a + i] := List.getElem?_eq_getElem (by omega)
      have e1 : 0 + ((a : Int) + (i : Int)).toNat * 1 = (a + i) * 1 := by omega
      rw [e1]
      refine hStore_at (by omega) ?_
      rw [rowsN_set rfl hg]
      refine hInt_i64 (by omega) (by omega) ⟨x - (i + 1), by omega, i + 1, by omega, rfl, rfl, ?_⟩
      show Over (_ + (_ + (_ + (_ + (pt T.ob (.cells (rows natC ((ownSet O a i).set (a + i) a)) 3 (0, 0)) + _)) + _))) _
      exact Over.of _ _
    · obtain rfl : i = x := by omega
      repeat' first
        | refine hLoad_int (by rfl) ?_
        | refine hStore3_0 ?_
        | refine hStore3_1 ?_
        | refine hStore3_2 ?_
      have hfr : ∀ p, a ≤ p → p < a + i → ∀ t ∈ l, ¬ t.has p := fun p h4 h5 t ht h6 => by
        have := hf.1 p h4 h5
        rw [G.used] at this
        have h7 : UL n l p = true := UL_iff.2 (.inr ⟨t, ht, h6⟩)
        rw [this] at h7; cases h7
      refine .inr (.inr ⟨a, spanX T n us' (levels k l0') (S.set a ⟨a, i, tag⟩) (ownSet O a i), by omega, by rw [← G.used]; exact hf, ?_, ?_⟩)
      · refine ⟨us', l0', k, _, _, ⟨g', by simp [hsl], by rw [ownSet_len]; exact hol, G.ok.ins (by simp only; omega) (by simp only; omega) (fun p h4 => hfr p h4.1 h4.2), ?_, ?_, ?_⟩, rfl⟩
        · funext p
          rw [hU, G.used, UL_ins]
          simp only [Int.toNat_natCast]
        · intro s hs
          rcases mem_insS.1 hs with rfl | hs
          · simp only [Int.toNat_natCast]
            refine ⟨by rw [List.getElem?_set, if_pos rfl, if_pos (by omega)], fun p hp => ?_⟩
            rw [ownSet_get (by omega), if_pos (show a ≤ p ∧ p < a + i from hp)]
          · obtain ⟨h4, h5⟩ := G.at_ s hs
            have hpos := G.ok.pos s hs
            refine ⟨?_, fun p hp => ?_⟩
            · rw [List.getElem?_set, if_neg (fun e => hfr a (by omega) (by omega) s hs ⟨by omega, by omega⟩)]; exact h4
            · rw [ownSet_get (by omega), if_neg (fun e => hfr p e.1 e.2 s hs hp)]; exact h5 p hp
        · intro p hp hno
          have h4 := hno _ (mem_insS.2 (.inl rfl))
          simp only at h4
          rw [List.getElem?_set, if_neg h4]
          exact G.none_ p hp fun s hs => hno s (mem_insS.2 (.inr hs))
      · unfold spanX
        exact ret.mk (Over.of _ _)

/-! ### Free -/
theorem sfree_does {T : TL} {n : Nat} {l : List Sp} {X : HP} (h : SpanAt T n l X) (base : Int) {m r r2 : HP} {Tt : TypeId} {fr : Nat × Nat} [hs : Sub X m r] [Has 0 r (.cells deBc Tt fr) r2] :
    Does Tryd.prog 13 #[.pointer (some ⟨T.t, 0, none⟩), .int .i64 base] m fun e m' =>
      ((∀ s ∈ l, (s.base : Int) ≠ base) ∧ ret (.int .i64 4) (X + r) e m') ∨
      ∃ (s : Sp) (X' : HP), s ∈ l ∧ (s.base : Int) = base ∧ SpanAt T n (delS s.base l) X' ∧ ret (.int .i64 0) (X' + r) e m' := by
  have hfd := @sfind_does T n l X h base m r hs
  obtain ⟨us, l0, k, S, O, G, rfl⟩ := h
  have hnle := G.g.nle
  have hol := G.olen
  have hsl := G.slen
  refine F13_fn ?_
  unfold F13
  refine hIf_false rfl (hCall_ret hfd ⟨_, _, _, _, rfl, ?_⟩)
  refine hNew_of fun b8 => hStore3_0 (hStore3_1 (hStore3_2 ?_))
  cases hf : findS l base with
  | none =>
    refine hIf_true rfl (.inl ⟨fun s hs e => ?_, ret.mk (Over.of _ _)⟩)
    have := G.ok.pos s hs
    rw [← e, findS_eq G.ok hs ⟨Nat.le_refl _, by omega⟩] at hf; cases hf
  | some s =>
    obtain ⟨hs1, hs2, hs3⟩ := findS_mem hf
    have hpos := G.ok.pos s hs1
    refine hIf_false rfl ?_
    simp only [Option.getD_some]
    refine hLoad_int (by rfl) (hIf_ne (fun h1 => ?_) (fun h1 => ?_))
    · refine .inl ⟨fun t ht e => ?_, ret.mk (Over.of _ _)⟩
      have hp := G.ok.pos t ht
      rw [← e, findS_eq G.ok ht ⟨Nat.le_refl _, by omega⟩] at hf
      simp only [Option.some.injEq] at hf; subst hf; exact h1 e
    subst h1
    unfold spanX
    refine hNil_some (hLoad_add (hLoad_slice (by rfl) ?_))
    dsimp only
    refine hIdx_of (by omega) (by omega) ?_
    have e0 : 0 + (s.base : Int).toNat * 3 = s.base * 3 := by omega
    rw [e0]
    have hsz := rowsSp_size S
    obtain ⟨h5, h6⟩ := G.at_ s hs1
    refine hStore_at (by omega) ?_
    refine hStore_add (hStore_at (by simp; omega) ?_)
    refine hStore_add (hStore_at (by simp; omega) ?_)
    rw [rows_set3 (i := s.base) (s := Sp.zero) (v0 := .int .i64 0) (v1 := .int .i64 0) (v2 := .int .i64 0) spC_len h5 rfl rfl]
    refine hNil_some (hLoad_ptr (by rfl) (hLoad_int (by rfl) ?_))
    refine hCall_of (pfree_does T.L G.g _ _) ?_
    have hin : ¬ Outside n (s.base : Int) (s.pages : Int) := by unfold Outside; omega
    rintro e m' (⟨h7, _⟩ | ⟨_, ⟨p, h7, h8, h9⟩, _⟩ | ⟨us', l0', _, _, g', hU, rfl, ho⟩)
    · exact absurd h7 hin
    · simp only [Int.toNat_natCast] at h7 h8
      have : UL n l p = true := UL_iff.2 (.inr ⟨s, hs1, h7, h8⟩)
      rw [← G.used, h9] at this; cases this
    · simp only [Int.toNat_natCast] at hU
      refine ⟨_, ho, _, rfl, .inr ⟨s, spanX T n us' (levels k l0') (S.set s.base Sp.zero) O, hs1, rfl, ?_, ?_⟩⟩
      · refine ⟨us', l0', k, _, _, ⟨g', by simp [hsl], hol, G.ok.del _, ?_, ?_, ?_⟩, rfl⟩
        · funext p
          rw [hU, G.used, UL_del G.ok hs1]
        · intro t ht
          obtain ⟨h7, h8⟩ := mem_delS.1 ht
          obtain ⟨h9, h10⟩ := G.at_ t h7
          exact ⟨by rw [List.getElem?_set, if_neg (Ne.symm h8)]; exact h9, h10⟩
        · intro p hp hno
          rw [List.getElem?_set]
          by_cases e : s.base = p
          · rw [if_pos e, if_pos (by omega)]
          · rw [if_neg e]
            refine G.none_ p hp fun t ht e' => ?_
            by_cases e2 : t.base = s.base
            · omega
            · exact hno t (mem_delS.2 ⟨ht, e2⟩) e'
      · unfold spanX
        exact ret.mk (Over.of _ _)

/-! ### Counts -/
theorem scounts_does {T : TL} {n : Nat} {l : List Sp} {X : HP} (h : SpanAt T n l X) {m r : HP} [hs : Sub X m r] :
    Does Tryd.prog 17 #[.pointer (some ⟨T.t, 0, none⟩)] m fun e m' => ∃ x : Nat, Longest (UL n l) x ∧ ret (.tuple #[.int .i64 (cntFree (UL n l) n : Nat), .int .i64 (x : Int)]) (X + r) e m' := by
  obtain ⟨us, l0, k, S, O, G, rfl⟩ := h
  rw [hs.eq]
  refine F17_fn ?_
  unfold F17
  refine hIf_false rfl ?_
  unfold spanX
  refine hNil_some (hLoad_ptr (by rfl) ?_)
  refine hCall_of (pcounts_does T.L G.g) ?_
  rintro e m' ⟨x, hx, rfl, ho⟩
  rw [G.used] at hx
  refine ⟨_, ho, _, _, rfl, x, hx, ?_⟩
  rw [G.used]
  exact ret.mk (Over.of _ _)

/-! ### New -/
theorem make_sp (K : Nat) : makeCells #[.int .i64 0, .int .i64 0, .int .i64 0] (K * 3) = rows spC (List.replicate K Sp.zero) :=
  rows_make (f := spC) (z := Sp.zero) (by decide) K
theorem make_nat (K : Nat) : makeCells #[.int .i64 0] (K * 1) = rows natC (List.replicate K 0) :=
  rows_make (f := natC) (z := 0) (by decide) K

theorem snew_does (n : Int) {m r2 : HP} {T : TypeId} {fr : Nat × Nat} [Has 0 m (.cells deBc T fr) r2] :
    Does Tryd.prog 8 #[.int .i64 n] m fun e m' => (¬ (1 ≤ n ∧ n ≤ 4096) ∧ ret (.tuple #[.pointer none, .int .i64 1]) m e m') ∨
      ∃ (T : TL) (X : HP), (1 ≤ n ∧ n ≤ 4096) ∧ SpanAt T n.toNat [] X ∧ ret (.tuple #[.pointer (some ⟨T.t, 0, none⟩), .int .i64 0]) (X + m) e m' := by
  refine F8_fn ?_
  unfold F8
  refine hCall_of (pnew_does n) ?_
  rintro e m' (⟨h1, rfl, ho⟩ | ⟨L, us, l0, k, h1, g, hU, rfl, ho⟩)
  · exact ⟨_, ho, _, _, rfl, hIf_neT (by omega) (.inl ⟨h1, ret.mk (Over.refl _)⟩)⟩
  · refine ⟨_, ho, _, _, rfl, hIf_neF rfl ?_⟩
    obtain ⟨n, rfl⟩ := Int.eq_ofNat_of_zero_le (a := n) (by omega)
    simp only [Int.toNat_natCast] at g hU ⊢
    have fin : ∀ t sb ob, SpanAt ⟨t, sb, ob, L⟩ n [] (spanX ⟨t, sb, ob, L⟩ n us (levels k l0) (List.replicate n Sp.zero) (List.replicate n 0)) := fun t sb ob =>
      ⟨us, l0, k, _, _, ⟨g, by simp, by simp, ⟨by simp, by simp⟩, by funext p; rw [hU]; simp [UL], by simp, fun p hp _ => by rw [List.getElem?_replicate, if_pos hp]⟩, rfl⟩
    refine ⟨hMake_of (by omega) (by omega) (by omega) (by omega) fun b5 => hMake_of (by omega) (by omega) (by omega) (by omega) fun b6 => hNew_of fun b7 => ?_,
      hMake_of (by omega) (by omega) (by omega) (by omega) fun b6 => hMake_of (by omega) (by omega) (by omega) (by omega) fun b5 => hNew_of fun b7 => ?_⟩
    all_goals
      simp only [Int.toNat_natCast]
      rw [make_sp, make_nat]
      refine .inr ⟨⟨b7, b5, b6, L⟩, _, h1, fin b7 b5 b6, ?_⟩
      unfold spanX thC
      dsimp only
      exact ret.mk (Over.of _ _)

end Go.Proofs.YtolfcdjbchdkgaaDoor
