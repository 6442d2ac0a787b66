/- Pages: set, Alloc, turn, Free. Own work. -/
import Derived.Test.YtolfcdjbchdkgaaDoorD6
namespace Go.Proofs.YtolfcdjbchdkgaaDoor
open Go Go.Hp
set_option maxRecDepth 100000
attribute [local irreducible] hLoad hStore hNew hInt hQuo hRem hShl hShr hIf hNil hIdx hCut hElem hByte hAppend hMake hCall hYield hGet hPut hDel hNewMap hLoop hLet hAll hRange hRec hEq hCmp bitv W Does HYield

def maskW (lo hi : Nat) : BitVec 64 := (BitVec.allOnes 64 <<< lo) &&& (BitVec.allOnes 64 >>> (64 - hi))
theorem maskW_bit {lo hi b : Nat} (hh : hi ≤ 64) (hb : b < 64) : (maskW lo hi).getLsbD b = (decide (lo ≤ b) && decide (b < hi)) := by
  unfold maskW
  rw [BitVec.getLsbD_and, BitVec.getLsbD_shiftLeft, BitVec.getLsbD_ushiftRight, BitVec.getLsbD_allOnes, BitVec.getLsbD_allOnes]
  rw [Bool.eq_iff_iff]
  simp only [Bool.and_eq_true, decide_eq_true_eq, Bool.not_eq_true', decide_eq_false_iff_not]
  omega
def setW (w : BitVec 64) (lo hi : Nat) (used : Bool) : BitVec 64 := if used then w ||| maskW lo hi else w &&& ~~~ maskW lo hi
theorem setW_bit {w : BitVec 64} {lo hi b : Nat} {used : Bool} (hh : hi ≤ 64) (hb : b < 64) : (setW w lo hi used).getLsbD b = if lo ≤ b ∧ b < hi then used else w.getLsbD b := by
  unfold setW
  cases used <;> simp only [if_true, if_false, Bool.false_eq_true, BitVec.getLsbD_or, BitVec.getLsbD_and, BitVec.getLsbD_not, maskW_bit hh hb, hb, decide_true, Bool.true_and]
  · by_cases h : lo ≤ b ∧ b < hi
    · simp [h]
    · rw [if_neg h]
      have : (decide (lo ≤ b) && decide (b < hi)) = false := by simp only [Bool.and_eq_false_iff, decide_eq_false_iff_not]; omega
      simp [this]
  · by_cases h : lo ≤ b ∧ b < hi
    · simp [h]
    · rw [if_neg h]
      have : (decide (lo ≤ b) && decide (b < hi)) = false := by simp only [Bool.and_eq_false_iff, decide_eq_false_iff_not]; omega
      simp [this]

theorem cAll : (18446744073709551615 : Int) = W (BitVec.allOnes 64) := by
  have := W_lit 18446744073709551615 (by decide)
  rw [show (18446744073709551615 : Int) = ((18446744073709551615 : Nat) : Int) from rfl, this]; rfl

theorem Us_set {us : List (BitVec 64)} {i lo hi : Nat} {w : BitVec 64} {used : Bool} (hw : us[i]? = some w) (hh : hi ≤ 64) (p : Nat) :
    Us (us.set i (setW w lo hi used)) p = if 64 * i + lo ≤ p ∧ p < 64 * i + hi then used else Us us p := by
  unfold Us
  rw [List.getElem?_set]
  have hi' := (List.getElem?_eq_some_iff.1 hw).1
  by_cases e : i = p / 64
  · subst e
    rw [if_pos rfl, if_pos hi', hw]
    simp only
    rw [setW_bit hh (by omega)]
    have : (lo ≤ p % 64 ∧ p % 64 < hi) ↔ (64 * (p / 64) + lo ≤ p ∧ p < 64 * (p / 64) + hi) := by omega
    simp only [this]
  · rw [if_neg e, if_neg (by omega)]

theorem PGood.renewed {L : PL} {n : Nat} {us : List (BitVec 64)} {l0 : List Sum} {k i : Nat} {w : BitVec 64} {s : Sum} (g : PGood L n us l0 k) (hs : IsSum w.getLsbD 0 64 s)
    (ht : ∀ p, n ≤ p → Us (us.set i w) p = true) : PGood L n (us.set i w) (l0.set i s) k where
  lay := ⟨g.lay.1, fun j b h => by have := g.lay.2 j b h; dsimp only at this ⊢; rwa [it_len (l' := l0.set i s) (by simp)] at this⟩
  kpos := g.kpos
  kle := g.kle
  npos := g.npos
  nle := g.nle
  chunks := by rw [List.length_set]; exact g.chunks
  len := by rw [List.length_set, List.length_set]; exact g.len
  bnd := g.bnd.set ⟨hs.ok, by rw [hs.all]; omega⟩
  sums := by
    intro j v t h1 h2
    rw [List.getElem?_set] at h1 h2
    by_cases e : i = j
    · rw [if_pos e] at h1 h2
      split at h1
      · split at h2
        · simp only [Option.some.injEq] at h1 h2; subst h1 h2; exact hs
        · cases h2
      · cases h1
    · rw [if_neg e] at h1 h2; exact g.sums j v t h1 h2
  top := by rw [it_len (l' := l0) (by simp)]; exact g.top
  tail := ht

theorem rowsW_set {us : List (BitVec 64)} {i o : Nat} {w w' : BitVec 64} (ho : o = i * 1) (h : us[i]? = some w) : (rows wordC us).setIfInBounds o (.int .u64 (W w')) = rows wordC (us.set i w') :=
  rows_set (j := 0) wordC_len (by omega) (by omega) h rfl
theorem rowsW_size (us : List (BitVec 64)) : (rows wordC us).size = us.length * 1 := rows_size wordC_len us

theorem set_does (L : PL) {n : Nat} {us : List (BitVec 64)} {l0 : List Sum} {k : Nat} (g : PGood L n us l0 k) (base c : Nat) (hbc : base + c ≤ n) (used : Bool) {m r r2 : HP} {T : TypeId} {fr : Nat × Nat} [hs : Sub (pagesH L n us (levels k l0)) m r] [Has 0 r (.cells deBc T fr) r2] :
    Does Tryd.prog 63 #[.pointer (some ⟨L.p, 0, none⟩), .int .i64 (base : Int), .int .i64 (c : Int), .bool used] m fun e m' => ∃ us' l0', PGood L n us' l0' k ∧
      (∀ p, Us us' p = if base ≤ p ∧ p < base + c then used else Us us p) ∧ ret (.tuple #[]) (pagesH L n us' (levels k l0') + r) e m' := by
  have hnle := g.nle
  rw [hs.eq]
  refine F63_fn ?_
  unfold F63
  refine hLoop_of (fun d x m' => ∃ (a : Nat) (us' : List (BitVec 64)) (l0' : List Sum), base ≤ a ∧ a ≤ base + c ∧ d = base + c - a ∧ x = ((a : Int), ()) ∧ PGood L n us' l0' k ∧
    (∀ p, Us us' p = if base ≤ p ∧ p < a then used else Us us p) ∧ Over (pagesH L n us' (levels k l0') + r) m') ?_ ?_
  · exact ⟨_, base, us, l0, by omega, by omega, rfl, rfl, g, fun p => by rw [if_neg (by omega)], Over.refl _⟩
  rintro d x m' ⟨a, us', l0', ha1, ha2, rfl, rfl, g', hU, gg, rfl⟩
  have hch := g'.chunks
  refine hAll_of fun _ => ?_
  unfold F63_l1
  dsimp only
  refine hInt_i64 (by omega) (by omega) (hIf_dec (fun h => ?_) (fun h => ?_))
  · refine hQuo_pos (by omega) (by omega) (by omega) (hRem_pos (by omega) (by omega) ?_)
    refine hInt_i64 (by omega) (by omega) (hInt_i64 (by omega) (by omega) (hInt_i64 (by omega) (by omega) ?_))
    have hto : ∃ to : Nat, (if ((a : Int) % 64 + base + c - a) < 64 then ((a : Int) % 64 + base + c - a) else 64) = (to : Int) ∧ to ≤ 64 ∧ a % 64 < to ∧ a - a % 64 + to ≤ base + c ∧ (to < 64 → a - a % 64 + to = base + c) := by
      rcases Int.lt_or_le ((a : Int) % 64 + base + c - a) 64 with h1 | h1
      · exact ⟨a % 64 + (base + c - a), by rw [if_pos h1]; omega, by omega, by omega, by omega, by omega⟩
      · exact ⟨64, by rw [if_neg (by omega)]; rfl, by omega, by omega, by omega, by omega⟩
    obtain ⟨to, hto1, hto2, hto3, hto4, hto5⟩ := hto
    rw [hto1]
    rw [cAll]
    refine hShl_W (by omega) (hInt_i64 (by omega) (by omega) (hShr_W (by omega) ?_))
    rw [bitv_and]
    have hmask : (BitVec.allOnes 64 <<< ((a : Int) % 64).toNat &&& BitVec.allOnes 64 >>> (64 - (to : Int)).toNat) = maskW (a % 64) to := by
      unfold maskW
      rw [show ((a : Int) % 64).toNat = a % 64 by omega, show (64 - (to : Int)).toNat = 64 - to by omega]
    rw [hmask]
    have hi : a / 64 < us'.length := by omega
    have hw : us'[a / 64]? = some us'[a / 64] := List.getElem?_eq_getElem hi
    generalize us'[a / 64] = w at hw
    have hsz := rowsW_size us'
    have eo : 0 + ((a : Int) / 64).toNat * 1 = a / 64 * 1 := by omega
    have hput := pages_putU L n us' (us'.set (a / 64) (setW w (a % 64) to used)) (levels k l0') (by simp)
    refine hLet_of (fun _ m' => m' = pagesH L n (us'.set (a / 64) (setW w (a % 64) to used)) (levels k l0') + (r + gg)) ?_ ?_
    · refine hIf_split (fun hu => ?_) (fun hu => ?_)
      · subst hu
        refine hNil_some (hLoad_add (hLoad_slice (by rfl) ?_))
        dsimp only
        refine hIdx_of (by omega) (by omega) ?_
        rw [eo]
        refine hLoad_int (rowsW (i := a / 64) rfl hw) (hIdx_of (by omega) (by omega) ?_)
        rw [eo, bitv_or]
        refine hStore_at (by omega) ?_
        rw [rowsW_set rfl hw, ← hput, HP.add_assoc, HP.add_assoc]
        rfl
      · subst hu
        refine hNil_some (hLoad_add (hLoad_slice (by rfl) ?_))
        dsimp only
        refine hIdx_of (by omega) (by omega) ?_
        rw [eo]
        refine hLoad_int (rowsW (i := a / 64) rfl hw) (hIdx_of (by omega) (by omega) ?_)
        rw [eo, bitv_andNot]
        refine hStore_at (by omega) ?_
        rw [rowsW_set rfl hw, ← hput, HP.add_assoc, HP.add_assoc]
        rfl
    · rintro _ m' rfl
      refine hAll_of fun _ => ?_
      unfold F63_j8
      dsimp only
      rw [hto1]
      have hU' := fun p => Us_set (lo := a % 64) (used := used) hw hto2 p
      have hw' : (us'.set (a / 64) (setW w (a % 64) to used))[a / 64]? = some (setW w (a % 64) to used) := by rw [List.getElem?_set, if_pos rfl, if_pos hi]
      rw [show ((a : Int) / 64) = ((a / 64 : Nat) : Int) by omega]
      refine hCall_of (renew_does L (n := n) (l0 := l0') (k := k) g'.lay ⟨g'.kpos, g'.kle⟩ (by rw [List.length_set]; exact g'.len) (by rw [List.length_set]; omega) g'.bnd hw') ?_
      rintro e m' ⟨s, hsum, rfl, ho⟩
      refine ⟨_, ho, ?_⟩
      refine hInt_i64 (by omega) (by omega) (hInt_i64 (by omega) (by omega) ?_)
      refine ⟨base + c - (a - a % 64 + to), by omega, a - a % 64 + to, us'.set (a / 64) (setW w (a % 64) to used), l0'.set (a / 64) s, by omega, by omega, rfl, ?_, g'.renewed hsum (fun p hp => ?_), fun p => ?_, Over.of _ _⟩
      · rw [show (a : Int) + ((to : Int) - (a : Int) % 64) = ((a - a % 64 + to : Nat) : Int) by omega]
      · rw [hU', if_neg (by omega)]; exact g'.tail p hp
      · rw [hU', hU]
        have e64 : 64 * (a / 64) = a - a % 64 := by omega
        by_cases h1 : 64 * (a / 64) + a % 64 ≤ p ∧ p < 64 * (a / 64) + to
        · rw [if_pos h1, if_pos (by omega)]
        · rw [if_neg h1]
          by_cases h2 : base ≤ p ∧ p < a
          · rw [if_pos h2, if_pos (by omega)]
          · rw [if_neg h2, if_neg (by omega)]
  · obtain rfl : a = base + c := by omega
    exact ⟨us', l0', g', hU, ret.mk (Over.of _ _)⟩

/-! ### Alloc -/
theorem palloc_does (L : PL) {n : Nat} {us : List (BitVec 64)} {l0 : List Sum} {k : Nat} (g : PGood L n us l0 k) (c : Int) (hc' : c ≤ 9223372036854775807) {m r r2 : HP} {T : TypeId} {fr : Nat × Nat} [hs : Sub (pagesH L n us (levels k l0)) m r] [Has 0 r (.cells deBc T fr) r2] :
    Does Tryd.prog 38 #[.pointer (some ⟨L.p, 0, none⟩), .int .i64 c] m fun e m' =>
      (c < 1 ∧ ret (.tuple #[.int .i64 0, .int .i64 1]) (pagesH L n us (levels k l0) + r) e m') ∨
      (1 ≤ c ∧ Nowhere (Us us) c.toNat ∧ ret (.tuple #[.int .i64 0, .int .i64 3]) (pagesH L n us (levels k l0) + r) e m') ∨
      ∃ (a : Nat) (us' : List (BitVec 64)) (l0' : List Sum), 1 ≤ c ∧ First (Us us) c.toNat a ∧ PGood L n us' l0' k ∧ (∀ p, Us us' p = if a ≤ p ∧ p < a + c.toNat then true else Us us p) ∧
        ret (.tuple #[.int .i64 (a : Int), .int .i64 0]) (pagesH L n us' (levels k l0') + r) e m' := by
  rw [hs.eq]
  refine F38_fn ?_
  unfold F38
  refine hIf_false rfl (hIf_dec (fun h => .inl ⟨h, ret.mk (Over.refl _)⟩) (fun h => ?_))
  obtain ⟨x, rfl⟩ := Int.eq_ofNat_of_zero_le (a := c) (by omega)
  refine hCall_of (first_does L g x (by omega) hc') ?_
  rintro e m' (⟨hno, rfl, ho⟩ | ⟨a, hf, rfl, ho⟩)
  · refine ⟨_, ho, _, rfl, hIf_pos (by omega) (.inr (.inl ⟨by omega, by simpa using hno, ret.mk (Over.refl _)⟩))⟩
  · refine ⟨_, ho, _, rfl, hIf_neg (by omega) ?_⟩
    have hle : a + x ≤ n := by
      rcases Nat.lt_or_ge n (a + x) with h1 | h1
      · have := hf.1 (a + x - 1) (by omega) (by omega)
        rw [g.tail _ (by omega)] at this; cases this
      · exact h1
    refine hCall_of (set_does L g a x hle true) ?_
    rintro e m' ⟨us', l0', g', hU, rfl, ho⟩
    exact ⟨_, ho, .inr (.inr ⟨a, us', l0', by omega, by simpa using hf, g', by simpa using hU, ret.mk (Over.refl _)⟩)⟩

end Go.Proofs.YtolfcdjbchdkgaaDoor
