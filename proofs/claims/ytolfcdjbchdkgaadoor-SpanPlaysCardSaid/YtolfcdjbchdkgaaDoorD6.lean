/- Pages: first. Own work. -/
import Derived.Test.YtolfcdjbchdkgaaDoorD5
namespace Go.Proofs.YtolfcdjbchdkgaaDoor
open Go Go.Hp
set_option maxRecDepth 100000
attribute [local irreducible] hLoad hStore hNew hInt hQuo hRem hShl hShr hIf hNil hIdx hCut hElem hByte hAppend hMake hCall hYield hGet hPut hDel hNewMap hLoop hLet hAll hRange hRec hEq hCmp bitv W Does HYield

/-- All about a map of pages, but for its memory. -/
structure PGood (L : PL) (n : Nat) (us : List (BitVec 64)) (l0 : List Sum) (k : Nat) : Prop where
  lay : PLok L k fun j => (it j l0).length
  kpos : 1 ≤ k
  kle : k ≤ 64
  npos : 1 ≤ n
  nle : n ≤ 4096
  chunks : us.length = (n + 63) / 64
  len : l0.length = us.length
  bnd : Bnd l0
  sums : ∀ (i : Nat) (w : BitVec 64) (s : Sum), us[i]? = some w → l0[i]? = some s → IsSum w.getLsbD 0 64 s
  top : (it (k - 1) l0).length = 1
  tail : ∀ p, n ≤ p → Us us p = true

theorem Us_at {us : List (BitVec 64)} {i b : Nat} {w : BitVec 64} (h : us[i]? = some w) (hb : b < 64) : Us us (64 * i + b) = w.getLsbD b := by
  unfold Us
  rw [show (64 * i + b) / 64 = i by omega, h, show (64 * i + b) % 64 = b by omega]
theorem Us_ge {us : List (BitVec 64)} {p : Nat} (h : 64 * us.length ≤ p) : Us us p = true := by
  unfold Us; rw [List.getElem?_eq_none (by omega)]
theorem PGood.sum {L : PL} {n : Nat} {us : List (BitVec 64)} {l0 : List Sum} {k : Nat} (g : PGood L n us l0 k) {i : Nat} {s : Sum} (h : l0[i]? = some s) : IsSum (Us us) (64 * i) (64 * i + 64) s := by
  have hi : i < us.length := by have := (List.getElem?_eq_some_iff.1 h).1; rw [← g.len]; exact this
  have hw : us[i]? = some us[i] := List.getElem?_eq_getElem hi
  exact (g.sums i _ s hw h).shift fun b hb => Us_at hw hb

theorem fold_sum {U : Nat → Bool} {B : Nat → Nat} {l : List Sum} (hB : ∀ i s, l[i]? = some s → IsSum U (B i) (B (i + 1)) s) (q : Nat) : ∀ t, t ≤ (group l q).length → IsSum U (B (8 * q)) (B (8 * q + t)) (foldS ((group l q).take t)) := by
  intro t
  induction t with
  | zero => intro _; exact IsSum.zero U _
  | succ t ih =>
    intro ht
    rw [fold_next (by omega)]
    exact (ih (by omega)).both (hB _ _ (group_get (by omega)))
theorem level_sum {U : Nat → Bool} {l0 : List Sum} (h0 : ∀ i s, l0[i]? = some s → IsSum U (64 * i) (64 * i + 64) s) : ∀ j, ∃ B : Nat → Nat, B 0 = 0 ∧ B (it j l0).length = 64 * l0.length ∧ ∀ i s, (it j l0)[i]? = some s → IsSum U (B i) (B (i + 1)) s := by
  intro j
  induction j with
  | zero => exact ⟨fun i => 64 * i, rfl, rfl, fun i s h => h0 i s h⟩
  | succ j ih =>
    obtain ⟨B, hB0, hBn, hB⟩ := ih
    refine ⟨fun i => B (min (8 * i) (it j l0).length), by simp [hB0], ?_, fun i s h => ?_⟩
    · simp only [it, groups_len]
      rw [Nat.min_eq_right (by omega)]; exact hBn
    · have hi : i < ((it j l0).length + 7) / 8 := by
        have := (List.getElem?_eq_some_iff.1 h).1
        simpa [it, groups_len] using this
      simp only [it] at h
      rw [groups_get _ _ hi] at h
      obtain rfl : foldS (group (it j l0) i) = s := by simpa using h
      have := fold_sum hB i (group (it j l0) i).length (Nat.le_refl _)
      rw [List.take_length, group_len] at this
      dsimp only
      rw [Nat.min_eq_left (by omega : 8 * i ≤ (it j l0).length)]
      rwa [show min (8 * (i + 1)) (it j l0).length = 8 * i + min 8 ((it j l0).length - 8 * i) by omega]
theorem PGood.topsum {L : PL} {n : Nat} {us : List (BitVec 64)} {l0 : List Sum} {k : Nat} (g : PGood L n us l0 k) : ∃ s, (it (k - 1) l0)[0]? = some s ∧ IsSum (Us us) 0 (64 * us.length) s ∧ s.all ≤ 4096 := by
  obtain ⟨B, h1, h2, h3⟩ := level_sum (fun i s h => g.sum h) (k - 1)
  have ht := g.top
  have h0 : (it (k - 1) l0)[0]? = some (it (k - 1) l0)[0] := List.getElem?_eq_getElem (by omega)
  have := h3 0 _ h0
  rw [h1, show 0 + 1 = (it (k - 1) l0).length by omega, h2, g.len] at this
  refine ⟨_, h0, this, ?_⟩
  rw [this.all]; have := g.chunks; have := g.nle; omega

/-- The first row of c free pages begins at a. -/
def First (U : Nat → Bool) (c a : Nat) : Prop := Free U a (a + c) ∧ ∀ b, b < a → ¬ Free U b (b + c)
def Nowhere (U : Nat → Bool) (c : Nat) : Prop := ∀ b, ¬ Free U b (b + c)
theorem runFits {us : List (BitVec 64)} {a c : Nat} (h : Free (Us us) a (a + c)) (hc : 1 ≤ c) : a + c ≤ 64 * us.length := by
  rcases Nat.lt_or_ge (64 * us.length) (a + c) with h1 | h1
  · have := h (a + c - 1) (by omega) (by omega)
    rw [Us_ge (by omega)] at this; cases this
  · exact h1

theorem first_does (L : PL) {n : Nat} {us : List (BitVec 64)} {l0 : List Sum} {k : Nat} (g : PGood L n us l0 k) (c : Nat) (hc : 1 ≤ c) (hc' : (c : Int) ≤ 9223372036854775807) {m r r2 : HP} {T : TypeId} {fr : Nat × Nat} [hs : Sub (pagesH L n us (levels k l0)) m r] [Has 0 r (.cells deBc T fr) r2] :
    Does Tryd.prog 62 #[.pointer (some ⟨L.p, 0, none⟩), .int .i64 (c : Int)] m fun e m' => (Nowhere (Us us) c ∧ ret (.int .i64 (-1)) (pagesH L n us (levels k l0) + r) e m') ∨ ∃ a : Nat, First (Us us) c a ∧ ret (.int .i64 (a : Int)) (pagesH L n us (levels k l0) + r) e m' := by
  have hlv : (levels k l0).length = k := levels_len k l0
  obtain ⟨hLb, hLs⟩ := g.lay
  have hk1 := g.kpos
  have hkle := g.kle
  have hnle := g.nle
  have hch := g.chunks
  have hlen := g.len
  rw [hs.eq]
  refine F62_fn ?_
  unfold F62
  obtain ⟨st, hst, hsum, hall⟩ := g.topsum
  have hbk : L.bs[k - 1]? = some L.bs[k - 1] := List.getElem?_eq_getElem (by omega)
  have hsk := hLs (k - 1) _ hbk
  obtain ⟨rk, hHk, hpk⟩ := pages_level L n us (levels k l0) hbk (levels_get (by omega))
  have hb0 : L.bs[0]? = some L.bs[0] := List.getElem?_eq_getElem (by omega)
  obtain ⟨r0, hH0, hp0⟩ := pages_level L n us (levels k l0) hb0 (levels_get (by omega))
  have hs0 := hLs 0 _ hb0
  simp only [it] at hs0 hH0
  have hok := hsum.ok
  obtain ⟨hok1, hok2, hok3⟩ := hok
  refine hNil_some (hLoad_add (hLoad_slice (by rfl) (hNil_some (hLoad_add (hLoad_slice (by rfl) ?_)))))
  dsimp only
  refine hInt_i64 (by omega) (by omega) (hIdx_of (by omega) (by omega) ?_)
  refine hLoad_slice (by rw [show 0 + ((((levels k l0).length : Nat) : Int) - 1).toNat * 1 = k - 1 by omega]; exact hsk) ?_
  dsimp only
  have htop := g.top
  refine hIdx_of (by omega) (by omega) ?_
  refine hLoad_add ?_
  haveI := hHk
  refine hLoad_int (x := (st.most : Int)) (by rw [rowsS (i := 0) (j := 1) (by omega) (by omega) hst]; rfl) ?_
  refine hIf_dec (fun h => ?_) (fun h => ?_)
  · have h : (st.most : Int) < c := h
    refine .inl ⟨fun b hb => ?_, ret.mk (Over.refl _)⟩
    have := hsum.most b c (by omega) (runFits hb hc) hb
    omega
  refine hNil_some (hLoad_add (hLoad_slice (by rfl) ?_))
  haveI := hH0
  refine hLoop_of (fun d x m' => ∃ i run : Nat, i ≤ us.length ∧ d = us.length - i ∧ x = ((run : Int), (i : Int), ()) ∧ run ≤ 64 * i ∧ run < c ∧ Free (Us us) (64 * i - run) (64 * i) ∧
    (∀ b, Free (Us us) b (b + c) → 64 * i - run ≤ b) ∧ Over (pagesH L n us (levels k l0) + r) m') ?_ ?_
  · exact ⟨us.length, 0, 0, by omega, rfl, rfl, by omega, by omega, fun p _ h => by omega, fun b _ => by omega, Over.refl _⟩
  rintro d x m' ⟨i, run, hi, rfl, rfl, hrun, hrc, hfree, hmin, gg, rfl⟩
  refine hAll_of fun _ => ?_
  unfold F62_l6
  dsimp only
  refine hIf_dec (fun h => ?_) (fun h => ?_)
  · have hi' : i < us.length := by omega
    refine hLet_strong ?_
    have hw : us[i]? = some us[i] := List.getElem?_eq_getElem hi'
    have hl : l0[i]? = some l0[i] := List.getElem?_eq_getElem (by omega)
    have hS := g.sum hl
    have hS' := g.sums i _ _ hw hl
    generalize us[i] = w at hw hS'
    generalize l0[i] = s at hl hS hS'
    have hall' := hS.all
    have hst := hS.start_le; have hen := hS.fin_le
    have hmo := hS.ok.2.1
    refine hIdx_of (by omega) (by omega) ?_
    refine hLoad_int (rowsW (i := i) (by omega) hw) ?_
    refine hNil_some (hLoad_add (hLoad_slice (by rfl) ?_))
    dsimp only
    refine hIdx_of (by omega) (by omega) ?_
    refine hLoad_slice (by simpa using hs0) ?_
    dsimp only
    refine hIdx_of (by omega) (by omega) ?_
    have e0 : 0 + (i : Int).toNat * 4 = i * 4 := by omega
    rw [e0]
    refine hLoad_int (rowsS (j := 0) (by omega) (by omega) hl) ?_
    refine hLoad_add (hLoad_int (rowsS (j := 1) (by omega) (by omega) hl) ?_)
    refine hLoad_add (hLoad_int (rowsS (j := 2) (by omega) (by omega) hl) ?_)
    refine hLoad_add (hLoad_int (rowsS (j := 3) (by omega) (by omega) hl) ?_)
    refine hNew_of fun b30 => ?_
    refine hStore4_0 (hStore4_1 (hStore4_2 (hStore4_3 ?_)))
    refine hLoad_int (by rfl) (hInt_i64 (by omega) (by omega) ?_)
    -- a row across the beginning of the chunk is too short
    have hfm : s.fin ≤ s.most := hS.most (64 * i + 64 - s.fin) s.fin (by omega) (by omega) (by rw [show 64 * i + 64 - s.fin + s.fin = 64 * i + 64 by omega]; exact hS.fin)
    have across : ∀ b, Free (Us us) b (b + c) → b < 64 * i → run + s.start < c → (s.start ≠ 64 ∨ c ≤ 64) → False := by
      intro b hb hbi hlt hor
      have h1 := hmin b hb
      rcases Nat.lt_or_ge (b + c) (64 * i + s.start + 1) with h2 | h2
      · omega
      · have := hS.start_end
        rcases Nat.lt_or_ge s.start s.all with h3 | h3
        · have h4 := this h3; rw [hb _ (by omega) (by omega)] at h4; cases h4
        · omega
    refine hIf_dec (fun h1 => ?_) (fun h1 => ?_)
    · refine hInt_i64 (by omega) (by omega) (hInt_i64 (by omega) (by omega) (.inr ⟨64 * i - run, ⟨fun p h2 h3 => ?_, fun b hb hf => ?_⟩, ?_⟩))
      · rcases Nat.lt_or_ge p (64 * i) with h4 | h4
        · exact hfree p h2 h4
        · exact hS.start p h4 (by omega)
      · have := hmin b hf; omega
      · rw [show (i : Int) * 64 - run = ((64 * i - run : Nat) : Int) by omega]; exact ret.mk (Over.of _ _)
    refine hLoad_int (by rfl) ?_
    refine hIf_dec (fun h2 => ?_) (fun h2 => ?_)
    · refine hInt_i64 (by omega) (by omega) ?_
      refine hCall_of (within_does w c ⟨hc, by omega⟩) ?_
      rintro e m' ⟨f, hf, rfl, ho⟩
      refine ⟨_, ho, _, rfl, ?_⟩
      have hft := tz_le f
      refine hInt_i64 (by omega) (by omega) ?_
      have hex : tz f < 64 := by
        obtain ⟨x, hx1, hx2, hx3⟩ := hS'.most_at
        have hbit := (hf x (by omega)).2 ⟨by omega, fun j hj => hx3 _ (by omega) (by omega)⟩
        rcases Nat.lt_or_ge (tz f) 64 with h | h
        · exact h
        · rw [tz_low (by omega)] at hbit; cases hbit
      have hbit := (hf _ hex).1 (tz_bit hex)
      refine .inr ⟨64 * i + tz f, ⟨fun p h3 h4 => ?_, fun b hb hfb => ?_⟩, ?_⟩
      · rw [show p = 64 * i + (p - 64 * i) by omega, Us_at hw (by omega)]
        have := hbit.2 (p - 64 * i - tz f) (by omega)
        rwa [show tz f + (p - 64 * i - tz f) = p - 64 * i by omega] at this
      · rcases Nat.lt_or_ge b (64 * i) with h3 | h3
        · exact across b hfb h3 (by omega) (by omega)
        · have h4 := (hf (b - 64 * i) (by omega)).2 ⟨by omega, fun j hj => by
            have := hfb (b + j) (by omega) (by omega)
            rw [show b + j = 64 * i + (b - 64 * i + j) by omega, Us_at hw (by omega)] at this
            exact this⟩
          rw [tz_low (by omega)] at h4; cases h4
      · rw [show (i : Int) * 64 + (tz f : Int) = ((64 * i + tz f : Nat) : Int) by omega]; exact ret.mk (Over.of _ _)
    refine hLoad_int (by rfl) ?_
    have inside : ∀ b, Free (Us us) b (b + c) → 64 * i ≤ b → b + c ≤ 64 * i + 64 → False := fun b hb h3 h4 => by
      have := hS.most b c h3 h4 hb; omega
    refine hIf_eq (fun h3 => ?_) (fun h3 => ?_)
    · refine hInt_i64 (by omega) (by omega) (hAll_of fun _ => ?_)
      unfold F62_j16
      dsimp only
      refine hInt_i64 (by omega) (by omega) ⟨us.length - (i + 1), by omega, i + 1, run + 64, by omega, rfl, rfl, by omega, by omega, fun p h4 h5 => ?_, fun b hb => ?_, Over.of _ _⟩
      · rcases Nat.lt_or_ge p (64 * i) with h6 | h6
        · exact hfree p (by omega) h6
        · exact hS.start p h6 (by omega)
      · have := hmin b hb; omega
    · refine hLoad_int (by rfl) (hAll_of fun _ => ?_)
      unfold F62_j16
      dsimp only
      refine hInt_i64 (by omega) (by omega) ⟨us.length - (i + 1), by omega, i + 1, s.fin, by omega, rfl, rfl, by omega, by omega, fun p h4 h5 => hS.fin p (by omega) (by omega), fun b hb => ?_, Over.of _ _⟩
      rcases Nat.lt_or_ge b (64 * i) with h4 | h4
      · exact (across b hb h4 (by omega) (by omega)).elim
      · rcases Nat.lt_or_ge (64 * i + 64) (b + c) with h5 | h5
        · rcases Nat.lt_or_ge b (64 * (i + 1) - s.fin) with h6 | h6
          · have h7 := hS.fin_end (by omega)
            rw [hb _ (by omega) (by omega)] at h7; cases h7
          · exact h6
        · exact (inside b hb h4 h5).elim
  · obtain rfl : i = us.length := by omega
    refine .inl ⟨fun b hb => ?_, ret.mk (Over.of _ _)⟩
    have h1 := hmin b hb
    have h2 := runFits hb hc
    omega

end Go.Proofs.YtolfcdjbchdkgaaDoor
