/- The document's pages (treadleref04). Own work. -/
import Derived.Test.YtolfcdjbchdkgaaDoorP5
import Derived.Test.YtolfcdjbchdkgaaDoorD11
import Derived.Test.YtolfcdjbchdkgaaDoorH16
namespace Go.Proofs.YtolfcdjbchdkgaaDoor
open Go Go.Hp
set_option maxRecDepth 100000
attribute [local irreducible] hLoad hStore hNew hInt hQuo hRem hShl hShr hIf hNil hIdx hCut hElem hByte hAppend hMake hCall hYield hGet hPut hDel hNewMap hLoop hLet hAll hRange hRec hEq hCmp bitv W Does HYield

def boolC (x : Bool) : List Value := [.bool x]
theorem boolC_len (x : Bool) : (boolC x).length = 1 := rfl
theorem rowsB {B : List Bool} {i o : Nat} {x : Bool} (ho : o = i * 1) (h : B[i]? = some x) : (rows boolC B)[o]? = some (.bool x) := by
  rw [rows_get boolC_len (i := i) (j := 0) (by omega) (by omega) h]; rfl
theorem rowsB_set {B : List Bool} {i o : Nat} {x y : Bool} (ho : o = i * 1) (h : B[i]? = some x) : (rows boolC B).setIfInBounds o (.bool y) = rows boolC (B.set i y) :=
  rows_set (j := 0) boolC_len (by omega) (by omega) h rfl
theorem rowsB_size (B : List Bool) : (rows boolC B).size = B.length * 1 := rows_size boolC_len B
def UB (B : List Bool) (p : Nat) : Bool := match B[p]? with | some b => b | none => true
theorem UB_ge {B : List Bool} {p : Nat} (h : B.length ≤ p) : UB B p = true := by unfold UB; rw [List.getElem?_eq_none h]
theorem UB_get {B : List Bool} {p : Nat} (h : p < B.length) : B[p]? = some (UB B p) := by unfold UB; rw [List.getElem?_eq_getElem h]
theorem UB_set {B : List Bool} {i p : Nat} {b : Bool} (h : i < B.length) : UB (B.set i b) p = if p = i then b else UB B p := by
  unfold UB
  rw [List.getElem?_set]
  by_cases e : i = p
  · subst e; simp [h]
  · rw [if_neg e, if_neg (Ne.symm e)]

def rpH (p ub : Nat) (B : List Bool) : HP := pt p (.cells #[.slice (some ⟨ub, 0, none⟩) B.length B.length] 92 (0, 0)) + pt ub (.cells (rows boolC B) 4 (0, 0))

theorem rrun_does {p ub : Nat} {B : List Bool} (hB : B.length ≤ 4096) (a : Nat) (ha : a ≤ 4096) {m r : HP} [hs : Sub (rpH p ub B) m r] :
    Does Tryd.prog 44 #[.pointer (some ⟨p, 0, none⟩), .int .i64 (a : Int)] m fun e m' => ∃ k : Nat, Free (UB B) a (a + k) ∧ UB B (a + k) = true ∧ ret (.int .i64 (k : Int)) (rpH p ub B + r) e m' := by
  rw [hs.eq]
  refine F44_fn ?_
  unfold F44 rpH
  refine hLoop_of (fun d x m' => ∃ k : Nat, (k = 0 ∨ a + k ≤ B.length) ∧ d = B.length - k ∧ x = ((k : Int), ()) ∧ Free (UB B) a (a + k) ∧ m' = pt p (.cells #[.slice (some ⟨ub, 0, none⟩) B.length B.length] 92 (0, 0)) + pt ub (.cells (rows boolC B) 4 (0, 0)) + r) ?_ ?_
  · exact ⟨_, 0, .inl rfl, rfl, rfl, fun q _ _ => by omega, rfl⟩
  rintro d x m' ⟨k, hk, rfl, rfl, hf, rfl⟩
  refine hAll_of fun _ => ?_
  unfold F44_l2
  dsimp only
  refine hInt_i64 (by omega) (by omega) (hNil_some (hLoad_slice (by rfl) ?_))
  dsimp only
  refine hIf_dec (fun h => ?_) (fun h => ?_)
  · refine hNil_some (hLoad_slice (by rfl) ?_)
    dsimp only
    refine hInt_i64 (by omega) (by omega) (hIdx_of (by omega) (by omega) ?_)
    refine hLoad_bool (rowsB (i := a + k) (by omega) (UB_get (by omega))) ?_
    refine hIf_not (hIf_split (fun h1 => ?_) (fun h1 => ?_))
    · exact ⟨k, hf, h1, ret.mk (Over.refl _)⟩
    · refine hInt_i64 (by omega) (by omega) ⟨B.length - (k + 1), by omega, k + 1, by omega, rfl, rfl, fun q h2 h3 => ?_, rfl⟩
      rcases Nat.lt_or_ge q (a + k) with h4 | h4
      · exact hf q h2 h4
      · obtain rfl : q = a + k := by omega
        exact h1
  · exact ⟨k, hf, UB_ge (by omega), ret.mk (Over.refl _)⟩

theorem rset_does {p ub : Nat} {B : List Bool} (hB : B.length ≤ 4096) (a c : Nat) (hac : a + c ≤ B.length) (v : Bool) {m r : HP} [hs : Sub (rpH p ub B) m r] :
    Does Tryd.prog 64 #[.pointer (some ⟨p, 0, none⟩), .int .i64 (a : Int), .int .i64 (c : Int), .bool v] m fun e m' => ∃ B', B'.length = B.length ∧ (∀ q, UB B' q = if a ≤ q ∧ q < a + c then v else UB B q) ∧ ret (.tuple #[]) (rpH p ub B' + r) e m' := by
  rw [hs.eq]
  refine F64_fn ?_
  unfold F64
  refine hLoop_of (fun d x m' => ∃ (i : Nat) (B' : List Bool), i ≤ c ∧ d = c - i ∧ x = (((a + i : Nat) : Int), ()) ∧ B'.length = B.length ∧ (∀ q, UB B' q = if a ≤ q ∧ q < a + i then v else UB B q) ∧ Over (rpH p ub B' + r) m') ?_ ?_
  · exact ⟨_, 0, B, by omega, rfl, rfl, rfl, fun q => by rw [if_neg (by omega)], Over.refl _⟩
  rintro d x m' ⟨i, B', hi, rfl, rfl, hl, hU, g, rfl⟩
  refine hAll_of fun _ => ?_
  unfold F64_l1 rpH
  dsimp only
  refine hInt_i64 (by omega) (by omega) (hIf_dec (fun h => ?_) (fun h => ?_))
  · refine hNil_some (hLoad_slice (by rfl) ?_)
    dsimp only
    refine hIdx_of (by omega) (by omega) ?_
    have hsz := rowsB_size B'
    have e0 : 0 + (((a + i : Nat)) : Int).toNat * 1 = (a + i) * 1 := by omega
    rw [e0]
    refine hStore_at (by omega) ?_
    rw [rowsB_set rfl (UB_get (by omega : a + i < B'.length))]
    refine hInt_i64 (by omega) (by omega) ⟨c - (i + 1), by omega, i + 1, B'.set (a + i) v, by omega, rfl, by rw [show (((a + i : Nat) : Int) + 1) = ((a + (i + 1) : Nat) : Int) by omega], by simp [hl], fun q => ?_, ?_⟩
    · rw [UB_set (by omega), hU]
      by_cases h1 : q = a + i
      · rw [if_pos h1, if_pos (by omega)]
      · rw [if_neg h1]
        by_cases h2 : a ≤ q ∧ q < a + i
        · rw [if_pos h2, if_pos (by omega)]
        · rw [if_neg h2, if_neg (by omega)]
    · simp only [List.length_set]; exact Over.of _ _
  · obtain rfl : i = c := by omega
    exact ⟨B', hl, hU, ret.mk (Over.of _ _)⟩

theorem ralloc_does {p ub : Nat} {B : List Bool} (hB : B.length ≤ 4096) (c : Int) (hc : c ≤ 9223372036854775807) {m r : HP} [hs : Sub (rpH p ub B) m r] :
    Does Tryd.prog 39 #[.pointer (some ⟨p, 0, none⟩), .int .i64 c] m fun e m' =>
      (c < 1 ∧ ret (.tuple #[.int .i64 0, .int .i64 1]) (rpH p ub B + r) e m') ∨
      (1 ≤ c ∧ Nowhere (UB B) c.toNat ∧ ret (.tuple #[.int .i64 0, .int .i64 3]) (rpH p ub B + r) e m') ∨
      ∃ (a : Nat) (B' : List Bool), 1 ≤ c ∧ First (UB B) c.toNat a ∧ B'.length = B.length ∧ (∀ q, UB B' q = if a ≤ q ∧ q < a + c.toNat then true else UB B q) ∧
        ret (.tuple #[.int .i64 (a : Int), .int .i64 0]) (rpH p ub B' + r) e m' := by
  rw [hs.eq]
  refine F39_fn ?_
  unfold F39
  refine hIf_dec (fun h => .inl ⟨h, ret.mk (Over.refl _)⟩) (fun h => ?_)
  obtain ⟨c, rfl⟩ := Int.eq_ofNat_of_zero_le (a := c) (by omega)
  refine hLoop_of (fun d x m' => ∃ a : Nat, a ≤ B.length + 1 ∧ d = B.length + 1 - a ∧ x = ((a : Int), ()) ∧ (∀ b, b < a → ¬ Free (UB B) b (b + c)) ∧ Over (rpH p ub B + r) m') ?_ ?_
  · exact ⟨_, 0, by omega, rfl, rfl, fun b h => by omega, Over.refl _⟩
  rintro d x m' ⟨a, ha, rfl, rfl, hno, g, rfl⟩
  refine hAll_of fun _ => ?_
  unfold F39_l4
  dsimp only
  refine hNil_some (show hLoad .slice ⟨p, 0, none⟩ _ (rpH p ub B + r + g) from ?_)
  haveI : Has p (rpH p ub B) (.cells #[.slice (some ⟨ub, 0, none⟩) B.length B.length] 92 (0, 0)) (pt ub (.cells (rows boolC B) 4 (0, 0))) := ⟨rfl⟩
  refine hLoad_slice (by rfl) ?_
  dsimp only
  refine hIf_dec (fun h1 => ?_) (fun h1 => ?_)
  · refine hCall_of (rrun_does (ub := ub) hB a (by omega)) ?_
    rintro e m' ⟨k, hf, hu, rfl, ho⟩
    refine ⟨_, ho, _, rfl, hIf_dec (fun h2 => ?_) (fun h2 => ?_)⟩
    · have hle : a + k ≤ B.length := by
        rcases Nat.lt_or_ge B.length (a + k) with h3 | h3
        · have := hf (a + k - 1) (by omega) (by omega)
          rw [UB_ge (by omega)] at this; cases this
        · exact h3
      refine hCall_of (rset_does (ub := ub) hB a c (by omega) true) ?_
      rintro e m' ⟨B', hl, hU, rfl, ho⟩
      refine ⟨_, ho, .inr (.inr ⟨a, B', by omega, ⟨fun q h3 h4 => hf q h3 (by simp at h4; omega), by simpa using hno⟩, hl, by simpa using hU, ret.mk (Over.of _ _)⟩)⟩
    · have hle : a + k ≤ B.length := by
        rcases Nat.eq_zero_or_pos k with rfl | h0
        · omega
        rcases Nat.lt_or_ge B.length (a + k) with h3 | h3
        · have := hf (a + k - 1) (by omega) (by omega)
          rw [UB_ge (by omega)] at this; cases this
        · exact h3
      refine hInt_i64 (by omega) (by omega) (hInt_i64 (by omega) (by omega) ⟨B.length + 1 - (a + k + 1), by omega, a + k + 1, by omega, rfl, rfl, fun b h3 h4 => ?_, Over.of _ _⟩)
      rcases Nat.lt_or_ge b a with h5 | h5
      · exact hno b h5 h4
      · have := h4 (a + k) (by omega) (by omega)
        rw [hu] at this; cases this
  · refine .inr (.inl ⟨by omega, fun b h2 => ?_, ret.mk (Over.of _ _)⟩)
    rw [Int.toNat_natCast] at h2
    rcases Nat.lt_or_ge b a with h5 | h5
    · exact hno b h5 h2
    · have := h2 b (Nat.le_refl _) (by omega)
      rw [UB_ge (by omega)] at this; cases this

/-- Pages that are used are freed. -/
theorem rturn_does {p ub : Nat} {B : List Bool} (hB : B.length ≤ 4096) (a c : Nat) (hc : 1 ≤ c) (hac : a + c ≤ B.length) (hu : ∀ q, a ≤ q → q < a + c → UB B q = true) {m r : HP} [hs : Sub (rpH p ub B) m r] :
    Does Tryd.prog 41 #[.pointer (some ⟨p, 0, none⟩), .int .i64 (a : Int), .int .i64 (c : Int), .bool false] m fun e m' => ∃ B', B'.length = B.length ∧ (∀ q, UB B' q = if a ≤ q ∧ q < a + c then false else UB B q) ∧ ret (.int .i64 0) (rpH p ub B' + r) e m' := by
  rw [hs.eq]
  refine F41_fn ?_
  unfold F41
  haveI : Has p (rpH p ub B) (.cells #[.slice (some ⟨ub, 0, none⟩) B.length B.length] 92 (0, 0)) (pt ub (.cells (rows boolC B) 4 (0, 0))) := ⟨rfl⟩
  haveI : Has ub (rpH p ub B) (.cells (rows boolC B) 4 (0, 0)) (pt p (.cells #[.slice (some ⟨ub, 0, none⟩) B.length B.length] 92 (0, 0))) := ⟨HP.add_comm _ _⟩
  refine hIf_neg (by omega) (hIf_neg (by omega) (hNil_some (hLoad_slice (by rfl) ?_)))
  dsimp only
  refine hIf_neg (by omega) (hNil_some (hLoad_slice (by rfl) ?_))
  dsimp only
  refine hInt_i64 (by omega) (by omega) (hIf_neg (by omega) ?_)
  refine hLoop_of (fun d x m' => ∃ i : Nat, i ≤ c ∧ d = c - i ∧ x = (((a + i : Nat) : Int), ()) ∧ m' = rpH p ub B + r) ?_ ?_
  · exact ⟨_, 0, by omega, rfl, rfl, rfl⟩
  rintro d x m' ⟨i, hi, rfl, rfl, rfl⟩
  refine hAll_of fun _ => ?_
  unfold F41_l4
  dsimp only
  refine hInt_i64 (by omega) (by omega) (hIf_dec (fun h => ?_) (fun h => ?_))
  · refine hNil_some (hLoad_slice (by rfl) ?_)
    dsimp only
    refine hIdx_of (by omega) (by omega) ?_
    refine hLoad_bool (rowsB (i := a + i) (by omega) (UB_get (by omega))) ?_
    rw [hu _ (by omega) (by omega)]
    refine hIf_false rfl (hInt_i64 (by omega) (by omega) ⟨c - (i + 1), by omega, i + 1, by omega, rfl, ?_, rfl⟩)
    rw [show (((a + i : Nat) : Int) + 1) = ((a + (i + 1) : Nat) : Int) by omega]
  · refine hCall_of (rset_does (ub := ub) hB a c hac false) ?_
    rintro e m' ⟨B', hl, hU, rfl, ho⟩
    exact ⟨_, ho, B', hl, hU, ret.mk (Over.refl _)⟩

theorem rpnew_does (n : Int) {m : HP} :
    Does Tryd.prog 37 #[.int .i64 n] m fun e m' => (¬ (1 ≤ n ∧ n ≤ 4096) ∧ ret (.tuple #[.pointer none, .int .i64 1]) m e m') ∨
      ∃ p ub : Nat, (1 ≤ n ∧ n ≤ 4096) ∧ ret (.tuple #[.pointer (some ⟨p, 0, none⟩), .int .i64 0]) (rpH p ub (List.replicate n.toNat false) + m) e m' := by
  refine F37_fn ?_
  unfold F37
  refine hIf_dec (fun h => .inl ⟨by omega, ret.mk (Over.refl _)⟩) (fun h1 => hIf_dec (fun h => .inl ⟨by omega, ret.mk (Over.refl _)⟩) (fun h2 => ?_))
  refine hMake_of (by omega) (by omega) (by omega) (by omega) fun b2 => hNew_of fun b3 => .inr ⟨b3, b2, ⟨by omega, by omega⟩, ?_⟩
  have e : makeCells #[.bool false] (n.toNat * 1) = rows boolC (List.replicate n.toNat false) := rows_make (f := boolC) (z := false) (by decide) n.toNat
  rw [e]
  unfold rpH
  rw [List.length_replicate]
  exact ret.mk (Over.of _ _)

/-! ### Counts -/
theorem rcounts_does {p ub : Nat} {B : List Bool} (hB : B.length ≤ 4096) {m r : HP} [hs : Sub (rpH p ub B) m r] :
    Does Tryd.prog 18 #[.pointer (some ⟨p, 0, none⟩)] m fun e m' => ∃ x : Nat, Longest (UB B) x ∧ ret (.tuple #[.int .i64 (cntFree (UB B) B.length : Nat), .int .i64 (x : Int)]) (rpH p ub B + r) e m' := by
  rw [hs.eq]
  refine F18_fn ?_
  unfold F18
  haveI : Has p (rpH p ub B) (.cells #[.slice (some ⟨ub, 0, none⟩) B.length B.length] 92 (0, 0)) (pt ub (.cells (rows boolC B) 4 (0, 0))) := ⟨rfl⟩
  haveI : Has ub (rpH p ub B) (.cells (rows boolC B) 4 (0, 0)) (pt p (.cells #[.slice (some ⟨ub, 0, none⟩) B.length B.length] 92 (0, 0))) := ⟨HP.add_comm _ _⟩
  refine hLoop_of (fun d x m' => ∃ a y : Nat, a ≤ B.length ∧ y ≤ B.length ∧ d = B.length - a ∧ x = (((cntFree (UB B) a : Nat) : Int), (y : Int), (a : Int), ()) ∧ (∀ b c, b < a → Free (UB B) b (b + c) → c ≤ y) ∧ (∃ b, Free (UB B) b (b + y)) ∧ Over (rpH p ub B + r) m') ?_ ?_
  · exact ⟨_, 0, 0, by omega, by omega, rfl, rfl, fun b c h => by omega, ⟨0, fun q _ h => by omega⟩, Over.refl _⟩
  rintro d x m' ⟨a, y, ha, hyB, rfl, rfl, hall, ⟨b0, hb0⟩, g, rfl⟩
  refine hAll_of fun _ => ?_
  unfold F18_l3
  dsimp only
  refine hNil_some (hLoad_slice (by rfl) ?_)
  dsimp only
  have hcl := cntFree_le (UB B) a
  have hcs := cntFree_succ (UB B) a
  refine hIf_dec (fun h => ?_) (fun h => ?_)
  · refine hLet_of (fun s m' => ∃ y' : Nat, s = (((cntFree (UB B) (a + 1) : Nat) : Int), (y' : Int), ()) ∧ y' ≤ B.length ∧ (∀ b c, b < a + 1 → Free (UB B) b (b + c) → c ≤ y') ∧ (∃ b, Free (UB B) b (b + y')) ∧ Over (rpH p ub B + r) m') ?_ ?_
    · refine hNil_some (hLoad_slice (by rfl) ?_)
      dsimp only
      refine hIdx_of (by omega) (by omega) ?_
      refine hLoad_bool (rowsB (i := a) (by omega) (UB_get (by omega))) ?_
      refine hIf_not (hIf_split (fun h1 => ?_) (fun h1 => ?_))
      · rw [h1] at hcs
        refine ⟨y, by rw [hcs]; rfl, hyB, fun b c hb hf => ?_, ⟨b0, hb0⟩, Over.of _ _⟩
        rcases Nat.lt_or_ge b a with h2 | h2
        · exact hall b c h2 hf
        · obtain rfl : b = a := by omega
          rcases Nat.eq_zero_or_pos c with rfl | h3
          · omega
          · have := hf b (by omega) (by omega); rw [h1] at this; cases this
      · rw [h1] at hcs
        refine hInt_i64 (by omega) (by omega) (hCall_of (rrun_does (ub := ub) hB a (by omega)) ?_)
        rintro e m' ⟨k, hf, hu, rfl, ho⟩
        have hk : ∀ c, Free (UB B) a (a + c) → c ≤ k := fun c hc => by
          rcases Nat.lt_or_ge k c with h2 | h2
          · have := hc (a + k) (by omega) (by omega); rw [hu] at this; cases this
          · exact h2
        have hkB : a + k ≤ B.length := by
          rcases Nat.eq_zero_or_pos k with rfl | h0
          · omega
          rcases Nat.lt_or_ge B.length (a + k) with h3 | h3
          · have := hf (a + k - 1) (by omega) (by omega)
            rw [UB_ge (by omega)] at this; cases this
          · exact h3
        simp only [Bool.false_eq_true, if_false] at hcs
        refine ⟨_, ho, _, rfl, hIf_dec (fun h2 => ?_) (fun h2 => ?_)⟩
        · refine ⟨k, by rw [hcs]; rfl, by omega, fun b c hb hfb => ?_, ⟨a, hf⟩, Over.of _ _⟩
          rcases Nat.lt_or_ge b a with h3 | h3
          · have := hall b c h3 hfb; omega
          · obtain rfl : b = a := by omega
            exact hk c hfb
        · refine ⟨y, by rw [hcs]; rfl, hyB, fun b c hb hfb => ?_, ⟨b0, hb0⟩, Over.of _ _⟩
          rcases Nat.lt_or_ge b a with h3 | h3
          · exact hall b c h3 hfb
          · obtain rfl : b = a := by omega
            have := hk c hfb; omega
    · rintro s m' ⟨y', rfl, hy', h1, h2, g2, rfl⟩
      refine hAll_of fun _ => ?_
      unfold F18_j4
      dsimp only
      exact hInt_i64 (by omega) (by omega) ⟨B.length - (a + 1), by omega, a + 1, y', by omega, hy', rfl, rfl, h1, h2, Over.of _ _⟩
  · obtain rfl : a = B.length := by omega
    refine ⟨y, ⟨fun b c hf => ?_, b0, hb0⟩, ret.mk (Over.of _ _)⟩
    rcases Nat.lt_or_ge b B.length with h1 | h1
    · exact hall b c h1 hf
    · rcases Nat.eq_zero_or_pos c with rfl | h3
      · omega
      · have := hf b (by omega) (by omega); rw [UB_ge h1] at this; cases this

end Go.Proofs.YtolfcdjbchdkgaaDoor
