/- Pages: the sums. Own work. -/
import Derived.Test.YtolfcdjbchdkgaaDoorD1
namespace Go.Proofs.YtolfcdjbchdkgaaDoor
open Go Go.Hp
set_option maxRecDepth 100000
attribute [local irreducible] hLoad hStore hNew hInt hQuo hRem hShl hShr hIf hNil hIdx hCut hElem hByte hAppend hMake hCall hYield hGet hPut hDel hNewMap hLoop hLet hAll hRange hRec hEq hCmp bitv W Does HYield

/-- What is told of a row of pages. -/
structure Sum where
  start : Nat
  most : Nat
  fin : Nat
  all : Nat

def sumC (s : Sum) : List Value := [.int .i64 (s.start : Int), .int .i64 (s.most : Int), .int .i64 (s.fin : Int), .int .i64 (s.all : Int)]
theorem sumC_len (s : Sum) : (sumC s).length = 4 := rfl

/-- No page of these is used. -/
def Free (U : Nat → Bool) (lo hi : Nat) : Prop := ∀ p, lo ≤ p → p < hi → U p = false

structure IsSum (U : Nat → Bool) (lo hi : Nat) (s : Sum) : Prop where
  le : lo ≤ hi
  all : s.all = hi - lo
  start_le : s.start ≤ s.all
  start : Free U lo (lo + s.start)
  start_end : s.start < s.all → U (lo + s.start) = true
  fin_le : s.fin ≤ s.all
  fin : Free U (hi - s.fin) hi
  fin_end : s.fin < s.all → U (hi - s.fin - 1) = true
  most : ∀ a n, lo ≤ a → a + n ≤ hi → Free U a (a + n) → n ≤ s.most
  most_at : ∃ a, lo ≤ a ∧ a + s.most ≤ hi ∧ Free U a (a + s.most)

def Sum.zero : Sum := ⟨0, 0, 0, 0⟩
theorem IsSum.zero (U : Nat → Bool) (lo : Nat) : IsSum U lo lo .zero where
  le := by simp
  all := by simp [Sum.zero]
  start_le := by simp [Sum.zero]
  start := by intro p h1 h2; simp [Sum.zero] at h2; omega
  start_end := by simp [Sum.zero]
  fin_le := by simp [Sum.zero]
  fin := by intro p h1 h2; simp [Sum.zero] at h1; omega
  fin_end := by simp [Sum.zero]
  most := by intro a n h1 h2 _; simp [Sum.zero]; omega
  most_at := ⟨lo, by simp [Sum.zero], by simp [Sum.zero], by intro p h1 h2; simp [Sum.zero] at h2; omega⟩

def Sum.both (a b : Sum) : Sum :=
  ⟨if a.start = a.all then a.start + b.start else a.start, max (max a.most b.most) (a.fin + b.start), if b.fin = b.all then b.fin + a.fin else b.fin, a.all + b.all⟩

theorem IsSum.both {U : Nat → Bool} {lo mid hi : Nat} {a b : Sum} (ha : IsSum U lo mid a) (hb : IsSum U mid hi b) : IsSum U lo hi (a.both b) where
  le := by have := ha.le; have := hb.le; omega
  all := by have := ha.le; have := hb.le; have := ha.all; have := hb.all; simp only [Sum.both]; omega
  start_le := by have := ha.start_le; have := hb.start_le; simp only [Sum.both]; split <;> omega
  start := by
    intro p h1 h2
    simp only [Sum.both] at h2
    have := ha.le; have := ha.all
    split at h2
    · rename_i e
      rcases Nat.lt_or_ge p mid with h | h
      · exact ha.start p h1 (by omega)
      · exact hb.start p h (by omega)
    · exact ha.start p h1 h2
  start_end := by
    intro h
    simp only [Sum.both] at h ⊢
    have := ha.le; have := ha.all; have := ha.start_le
    split at h
    · rename_i e
      rw [if_pos e]
      have := hb.start_end (by omega)
      rwa [show lo + (a.start + b.start) = mid + b.start by omega]
    · rename_i e; rw [if_neg e]; exact ha.start_end (by omega)
  fin_le := by have := ha.fin_le; have := hb.fin_le; simp only [Sum.both]; split <;> omega
  fin := by
    intro p h1 h2
    simp only [Sum.both] at h1
    have := hb.le; have := hb.all
    split at h1
    · rename_i e
      rcases Nat.lt_or_ge p mid with h | h
      · exact ha.fin p (by omega) h
      · exact hb.fin p (by omega) h2
    · exact hb.fin p h1 h2
  fin_end := by
    intro h
    simp only [Sum.both] at h ⊢
    have := hb.le; have := hb.all; have := hb.fin_le; have := ha.le; have := ha.all
    split at h
    · rename_i e
      rw [if_pos e]
      have := ha.fin_end (by omega)
      rwa [show hi - (b.fin + a.fin) - 1 = mid - a.fin - 1 by omega]
    · rename_i e; rw [if_neg e]; exact hb.fin_end (by omega)
  most := by
    intro x n h1 h2 hf
    simp only [Sum.both]
    have := ha.le; have := ha.all; have := hb.le; have := hb.all
    rcases Nat.le_total (x + n) mid with h | h
    · have := ha.most x n h1 h hf; omega
    · rcases Nat.le_total mid x with h' | h'
      · have := hb.most x n h' h2 hf; omega
      · -- across
        have h3 : mid - x ≤ a.fin := by
          rcases Nat.lt_or_ge a.fin (mid - x) with hlt | hge
          · have := ha.fin_end (by omega)
            rw [hf _ (by omega) (by omega)] at this; cases this
          · exact hge
        have h4 : x + n - mid ≤ b.start := by
          rcases Nat.lt_or_ge b.start (x + n - mid) with hlt | hge
          · have := hb.start_end (by omega)
            rw [hf _ (by omega) (by omega)] at this; cases this
          · exact hge
        omega
  most_at := by
    simp only [Sum.both]
    have := ha.le; have := ha.all; have := hb.le; have := hb.all; have := ha.fin_le; have := hb.start_le
    obtain ⟨x, hx1, hx2, hx3⟩ := ha.most_at
    obtain ⟨y, hy1, hy2, hy3⟩ := hb.most_at
    rcases Nat.le_total (max a.most b.most) (a.fin + b.start) with h | h
    · rw [Nat.max_eq_right h]
      refine ⟨mid - a.fin, by omega, by omega, fun p h1 h2 => ?_⟩
      rcases Nat.lt_or_ge p mid with h' | h'
      · exact ha.fin p h1 h'
      · exact hb.start p h' (by omega)
    · rw [Nat.max_eq_left h]
      rcases Nat.le_total a.most b.most with h' | h'
      · rw [Nat.max_eq_right h']; exact ⟨y, by omega, hy2, hy3⟩
      · rw [Nat.max_eq_left h']; exact ⟨x, hx1, by omega, hx3⟩

theorem imax (a b : Nat) : (if (b : Int) > (a : Int) then (b : Int) else (a : Int)) = ((max a b : Nat) : Int) := by split <;> omega
/-! ### both -/
theorem both_does (a b : Sum) (ha : a.start ≤ 4096 ∧ a.most ≤ 4096 ∧ a.fin ≤ 4096 ∧ a.all ≤ 4096) (hb : b.start ≤ 4096 ∧ b.most ≤ 4096 ∧ b.fin ≤ 4096 ∧ b.all ≤ 4096) (m : HP) :
    Does Tryd.prog 79 #[.agg (sumC a).toArray, .agg (sumC b).toArray] m (ret (.agg (sumC (a.both b)).toArray) m) := by
  refine F79_fn ?_
  unfold F79
  refine hNew_of fun b9 => hNew_of fun b10 => hNew_of fun b11 => ?_
  repeat' first
    | refine hLoad_int (by rfl) ?_
    | refine hStore4_0 ?_
    | refine hStore4_1 ?_
    | refine hStore4_2 ?_
    | refine hStore4_3 ?_
    | refine hNew_of fun _ => ?_
    | refine hInt_i64 (by omega) (by omega) ?_
    | refine hLet_strong ?_
    | refine hAll_of fun _ => ?_
    | refine hIf_eq (fun h => ?_) (fun h => ?_)
    | unfold F79_j4
    | unfold F79_j6
  all_goals
    refine ret.eq (agg4 ?_ ?_ ?_ ?_) (Over.of _ _)
    all_goals
      simp only [Sum.both, imax]
      repeat' split
      all_goals omega

theorem IsSum.congr {U U' : Nat → Bool} {lo hi : Nat} {s : Sum} (h : IsSum U lo hi s) (e : ∀ p, lo ≤ p → p < hi → U' p = U p) : IsSum U' lo hi s where
  le := h.le
  all := h.all
  start_le := h.start_le
  start := fun p h1 h2 => by have := h.all; have := h.start_le; have := h.le; rw [e p h1 (by omega)]; exact h.start p h1 h2
  start_end := fun hl => by have := h.all; have := h.le; rw [e _ (by omega) (by omega)]; exact h.start_end hl
  fin_le := h.fin_le
  fin := fun p h1 h2 => by have := h.all; have := h.fin_le; have := h.le; rw [e p (by omega) h2]; exact h.fin p h1 h2
  fin_end := fun hl => by have := h.all; have := h.le; rw [e _ (by omega) (by omega)]; exact h.fin_end hl
  most := fun a n h1 h2 hf => h.most a n h1 h2 fun p h3 h4 => by rw [← e p (by omega) (by omega)]; exact hf p h3 h4
  most_at := by
    obtain ⟨a, h1, h2, h3⟩ := h.most_at
    exact ⟨a, h1, h2, fun p h4 h5 => by rw [e p (by omega) (by omega)]; exact h3 p h4 h5⟩

/-- The same, further on. -/
theorem IsSum.shift {U U' : Nat → Bool} {n k : Nat} {s : Sum} (h : IsSum U 0 n s) (e : ∀ i, i < n → U' (k + i) = U i) : IsSum U' k (k + n) s where
  le := by omega
  all := by rw [h.all]; omega
  start_le := h.start_le
  start := fun p h1 h2 => by
    have := h.all; have := h.start_le
    rw [show p = k + (p - k) by omega, e _ (by omega)]; exact h.start _ (by omega) (by omega)
  start_end := fun hl => by have := h.all; rw [e _ (by omega)]; have := h.start_end hl; rwa [Nat.zero_add] at this
  fin_le := h.fin_le
  fin := fun p h1 h2 => by
    have := h.all; have := h.fin_le
    rw [show p = k + (p - k) by omega, e _ (by omega)]; exact h.fin _ (by omega) (by omega)
  fin_end := fun hl => by have := h.all; have := h.fin_end hl; rw [show k + n - s.fin - 1 = k + (n - s.fin - 1) by omega, e _ (by omega)]; exact this
  most := fun a l h1 h2 hf => h.most (a - k) l (by omega) (by omega) fun p h3 h4 => by rw [← e p (by omega)]; exact hf _ (by omega) (by omega)
  most_at := by
    obtain ⟨a, h1, h2, h3⟩ := h.most_at
    refine ⟨k + a, by omega, by omega, fun p h4 h5 => ?_⟩
    rw [show p = k + (p - k) by omega, e _ (by omega)]; exact h3 _ (by omega) (by omega)

/-! ### of -/
/-- After k rounds: where more than k free pages begin. -/
def RunsOf (w f : BitVec 64) (k : Nat) : Prop := ∀ p, p < 64 → (f.getLsbD p = true ↔ p + k < 64 ∧ ∀ j, j ≤ k → w.getLsbD (p + j) = false)
theorem RunsOf.first (w : BitVec 64) : RunsOf w (~~~w) 0 := by
  intro p hp
  simp only [BitVec.getLsbD_not, Bool.and_eq_true, decide_eq_true_eq, Bool.not_eq_true', Nat.add_zero]
  refine ⟨fun h => ⟨hp, fun j hj => ?_⟩, fun h => ⟨hp, ?_⟩⟩
  · obtain rfl : j = 0 := by omega
    simpa using h.2
  · have := h.2 0 (by omega); simpa using this
theorem RunsOf.next {w f : BitVec 64} {k : Nat} (h : RunsOf w f k) : RunsOf w (f &&& f >>> 1) (k + 1) := by
  intro p hp
  rw [BitVec.getLsbD_and, BitVec.getLsbD_ushiftRight, Bool.and_eq_true, h p hp]
  constructor
  · rintro ⟨⟨h1, h2⟩, h3⟩
    have h4 : 1 + p < 64 := by
      rcases Nat.lt_or_ge (1 + p) 64 with h | h
      · exact h
      · rw [BitVec.getLsbD_of_ge _ _ h] at h3; cases h3
    obtain ⟨h5, h6⟩ := (h _ h4).1 h3
    refine ⟨by omega, fun j hj => ?_⟩
    rcases Nat.eq_zero_or_pos j with rfl | hj0
    · exact h2 0 (by omega)
    · have := h6 (j - 1) (by omega); rwa [show 1 + p + (j - 1) = p + j by omega] at this
  · rintro ⟨h1, h2⟩
    refine ⟨⟨by omega, fun j hj => h2 j (by omega)⟩, ?_⟩
    rw [h _ (by omega)]
    refine ⟨by omega, fun j hj => ?_⟩
    have := h2 (j + 1) (by omega); rwa [show 1 + p + j = p + (j + 1) by omega]

theorem of_sum {w f : BitVec 64} {k e : Nat} (hr : RunsOf w f k) (hf : f = 0#64) (ha : ∃ a, a + k ≤ 64 ∧ Free w.getLsbD a (a + k)) (he : IsLz w e) : IsSum w.getLsbD 0 64 ⟨tz w, k, e, 64⟩ where
  le := by omega
  all := rfl
  start_le := tz_le w
  start := fun p _ h2 => tz_low (by simpa using h2)
  start_end := fun h => by simpa using tz_bit h
  fin_le := he.1
  fin := fun p h1 h2 => he.2.1 p h1 h2
  fin_end := fun h => by have := he.2.2 h; simp only; rwa [show 64 - e - 1 = 63 - e by omega]
  most := fun a n _ h2 hfr => by
    simp only
    rcases Nat.lt_or_ge k n with hlt | hge
    · have := (hr a (by omega)).2 ⟨by omega, fun j hj => hfr _ (by omega) (by omega)⟩
      rw [hf] at this; simp at this
    · exact hge
  most_at := by obtain ⟨a, h1, h2⟩ := ha; exact ⟨a, by omega, h1, h2⟩

theorem of_does (w : BitVec 64) {m r : HP} {T : TypeId} {fr : Nat × Nat} [Has 0 m (.cells deBc T fr) r] :
    Does Tryd.prog 78 #[.int .u64 (W w)] m fun e m' => ∃ s, IsSum w.getLsbD 0 64 s ∧ ret (.agg (sumC s).toArray) m e m' := by
  refine F78_fn ?_
  unfold F78
  refine hNew_of fun b2 => ?_
  refine hCall_ret (tz_does w) ⟨_, rfl, ?_⟩
  refine hCall_of (lz_does w _) ?_
  rintro e m' ⟨z, hz, rfl, ho⟩
  refine ⟨_, ho, _, rfl, ?_⟩
  have hz' := hz.1
  have ht' := tz_le w
  refine hNew_of fun b7 => ?_
  refine hStore4_0 (hStore4_1 (hStore4_2 (hStore4_3 ?_)))
  rw [bitv_not]
  refine hLoop_of (fun n x m' => ∃ (k : Nat) (f : BitVec 64), n = 64 - k ∧ x = (W f, ()) ∧ RunsOf w f k ∧ (∃ a, a + k ≤ 64 ∧ Free w.getLsbD a (a + k)) ∧
    m' = pt b7 (.cells #[.int .i64 (tz w : Nat), .int .i64 (k : Nat), .int .i64 (z : Nat), .int .i64 64] 131 (0, 0)) + (pt b2 (.cells #[.int .i64 0, .int .i64 0, .int .i64 0, .int .i64 0] 131 (0, 0)) + m)) ?_ ?_
  · exact ⟨64, 0, ~~~w, rfl, rfl, RunsOf.first w, ⟨0, by omega, fun p h1 h2 => by omega⟩, rfl⟩
  rintro n x m' ⟨k, f, rfl, rfl, hr, ⟨a, ha1, ha2⟩, rfl⟩
  refine hAll_of fun _ => ?_
  unfold F78_l3
  dsimp only
  refine hIf_neW0 (fun h => ?_) (fun h => ?_)
  · have hp : ∃ p, p < 64 ∧ f.getLsbD p = true := by
      rcases Classical.em (∃ p, p < 64 ∧ f.getLsbD p = true) with h' | h'
      · exact h'
      · exact absurd (BitVec.eq_of_getLsbD_eq fun i hi => by
          rcases hb : f.getLsbD i with _ | _
          · simp
          · exact absurd ⟨i, hi, hb⟩ h') h
    obtain ⟨p, hp1, hp2⟩ := hp
    have h3 := (hr p hp1).1 hp2
    refine hLoad_int (by rfl) (hInt_i64 (by omega) (by omega) (hStore4_1 (hShr_W (by decide) ?_)))
    rw [bitv_and]
    refine ⟨63 - k, by omega, k + 1, _, by omega, rfl, hr.next, ⟨p, by omega, fun q h4 h5 => ?_⟩, ?_⟩
    · have := h3.2 (q - p) (by omega); rwa [show p + (q - p) = q by omega] at this
    · rfl
  · repeat' first
      | refine hLoad_int (by rfl) ?_
      | refine hStore4_0 ?_
      | refine hStore4_1 ?_
      | refine hStore4_2 ?_
      | refine hStore4_3 ?_
    exact ⟨⟨tz w, k, z, 64⟩, of_sum hr h ⟨a, ha1, ha2⟩ hz, ret.mk (Over.of _ _)⟩

/-! ### within -/
theorem within_does (w : BitVec 64) (n : Nat) (hn : 1 ≤ n ∧ n ≤ 4096) {m r : HP} {T : TypeId} {fr : Nat × Nat} [Has 0 m (.cells deBc T fr) r] :
    Does Tryd.prog 80 #[.int .u64 (W w), .int .i64 n] m fun e m' => ∃ f, RunsOf w f (n - 1) ∧ ret (.int .i64 (tz f : Nat)) m e m' := by
  refine F80_fn ?_
  unfold F80
  refine hInt_i64 (by omega) (by omega) ?_
  rw [bitv_not]
  refine hLoop_of (fun c x m' => ∃ (k : Nat) (f : BitVec 64), c = n - 1 - k ∧ x = (W f, (k : Int), ()) ∧ k ≤ n - 1 ∧ RunsOf w f k ∧ m' = m) ?_ ?_
  · exact ⟨n - 1, 0, ~~~w, rfl, rfl, by omega, RunsOf.first w, rfl⟩
  rintro c x m' ⟨k, f, rfl, rfl, hk, hr, rfl⟩
  refine hAll_of fun _ => ?_
  unfold F80_l3
  dsimp only
  refine hIf_dec (fun h => ?_) (fun h => ?_)
  · refine hShr_W (by decide) (hInt_i64 (by omega) (by omega) ?_)
    rw [bitv_and]
    exact ⟨_, by omega, k + 1, _, rfl, rfl, by omega, hr.next, rfl⟩
  · refine hCall_ret (tz_does f) ⟨_, rfl, ?_⟩
    obtain rfl : k = n - 1 := by omega
    exact ⟨f, hr, rfl, Over.refl _⟩

end Go.Proofs.YtolfcdjbchdkgaaDoor
