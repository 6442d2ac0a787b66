/- Pages: turn, Free, Counts. Own work. -/
import Derived.Test.YtolfcdjbchdkgaaDoorD7
namespace Go.Proofs.YtolfcdjbchdkgaaDoor
open Go Go.Hp
set_option maxRecDepth 100000
attribute [local irreducible] hLoad hStore hNew hInt hQuo hRem hShl hShr hIf hNil hIdx hCut hElem hByte hAppend hMake hCall hYield hGet hPut hDel hNewMap hLoop hLet hAll hRange hRec hEq hCmp bitv W Does HYield

theorem PGood.le64 {L : PL} {n : Nat} {us : List (BitVec 64)} {l0 : List Sum} {k : Nat} (g : PGood L n us l0 k) : n ≤ 64 * us.length := by have := g.chunks; omega
theorem usedI_nat {n : Nat} {us : List (BitVec 64)} {a : Nat} (h : a < n) : usedI n us (a : Int) = Us us a := by
  unfold usedI
  have h1 : ¬ (a : Int) < 0 := by omega
  have h2 : ¬ (n : Int) ≤ a := by omega
  simp [h1, h2]

/-- Some of these pages are not within. -/
def Outside (n : Nat) (base c : Int) : Prop := base < 0 ∨ c < 1 ∨ base ≥ n ∨ c > n - base

theorem pfree_does (L : PL) {n : Nat} {us : List (BitVec 64)} {l0 : List Sum} {k : Nat} (g : PGood L n us l0 k) (base c : Int) {m r r2 : HP} {T : TypeId} {fr : Nat × Nat} [hs : Sub (pagesH L n us (levels k l0)) m r] [Has 0 r (.cells deBc T fr) r2] :
    Does Tryd.prog 40 #[.pointer (some ⟨L.p, 0, none⟩), .int .i64 base, .int .i64 c] m fun e m' =>
      (Outside n base c ∧ ret (.int .i64 1) (pagesH L n us (levels k l0) + r) e m') ∨
      (¬ Outside n base c ∧ (∃ p, base.toNat ≤ p ∧ p < base.toNat + c.toNat ∧ Us us p = false) ∧ ret (.int .i64 5) (pagesH L n us (levels k l0) + r) e m') ∨
      ∃ (us' : List (BitVec 64)) (l0' : List Sum), ¬ Outside n base c ∧ (∀ p, base.toNat ≤ p → p < base.toNat + c.toNat → Us us p = true) ∧ PGood L n us' l0' k ∧
        (∀ p, Us us' p = if base.toNat ≤ p ∧ p < base.toNat + c.toNat then false else Us us p) ∧ ret (.int .i64 0) (pagesH L n us' (levels k l0') + r) e m' := by
  have hnle := g.nle
  rw [hs.eq]
  refine F40_fn ?_
  unfold F40
  refine hCall_of (R := fun e m' => ∃ v, e = .returned (.int .i64 v) ∧ _) (F65_fn (R := fun e m' => ∃ v : Int, e = .returned (.int .i64 v) ∧ (
      (Outside n base c ∧ v = 1 ∧ Over (pagesH L n us (levels k l0) + r) m') ∨
      (¬ Outside n base c ∧ (∃ p, base.toNat ≤ p ∧ p < base.toNat + c.toNat ∧ Us us p = false) ∧ v = 5 ∧ Over (pagesH L n us (levels k l0) + r) m') ∨
      ∃ (us' : List (BitVec 64)) (l0' : List Sum), ¬ Outside n base c ∧ (∀ p, base.toNat ≤ p → p < base.toNat + c.toNat → Us us p = true) ∧ PGood L n us' l0' k ∧
        (∀ p, Us us' p = if base.toNat ≤ p ∧ p < base.toNat + c.toNat then false else Us us p) ∧ v = 0 ∧ Over (pagesH L n us' (levels k l0') + r) m')) ?_) ?_
  · unfold F65
    refine hIf_false rfl ?_
    refine hCall_ret (outside_does L (us := us) (ls := levels k l0) hnle base c) ⟨_, rfl, ?_⟩
    refine hIf_dec (fun h => ⟨_, rfl, .inl ⟨h, rfl, Over.refl _⟩⟩) (fun h => ?_)
    have hin : ¬ Outside n base c := h
    unfold Outside at h
    obtain ⟨b, rfl⟩ := Int.eq_ofNat_of_zero_le (a := base) (by omega)
    obtain ⟨x, rfl⟩ := Int.eq_ofNat_of_zero_le (a := c) (by omega)
    refine hLoop_of (fun d y m' => ∃ a : Nat, b ≤ a ∧ a ≤ b + x ∧ d = b + x - a ∧ y = ((a : Int), ()) ∧ (∀ p, b ≤ p → p < a → Us us p = true) ∧ Over (pagesH L n us (levels k l0) + r) m') ?_ ?_
    · exact ⟨_, b, by omega, by omega, rfl, rfl, fun p _ _ => by omega, Over.refl _⟩
    rintro d y m' ⟨a, ha1, ha2, rfl, rfl, hall, gg, rfl⟩
    refine hAll_of fun _ => ?_
    unfold F65_l6
    dsimp only
    refine hInt_i64 (by omega) (by omega) (hIf_dec (fun h1 => ?_) (fun h1 => ?_))
    · refine hCall_ret (used_does L (ls := levels k l0) g.le64 hnle (a : Int)) ⟨_, rfl, ?_⟩
      rw [usedI_nat (by omega)]
      refine hIf_split (fun h2 => ?_) (fun h2 => ?_)
      · exact ⟨_, rfl, .inr (.inl ⟨hin, ⟨a, by simp; omega, by simp; omega, by simpa using h2⟩, rfl, Over.of _ _⟩)⟩
      · refine hInt_i64 (by omega) (by omega) ⟨b + x - (a + 1), by omega, a + 1, by omega, by omega, rfl, rfl, fun p h3 h4 => ?_, Over.of _ _⟩
        rcases Nat.lt_or_ge p a with h5 | h5
        · exact hall p h3 h5
        · obtain rfl : p = a := by omega
          simpa using h2
    · obtain rfl : a = b + x := by omega
      refine hCall_of (set_does L g b x (by omega) false) ?_
      rintro e m' ⟨us', l0', g', hU, rfl, ho⟩
      refine ⟨_, ho, _, rfl, .inr (.inr ⟨us', l0', hin, by simpa using hall, g', by simpa using hU, rfl, Over.of _ _⟩)⟩
  · rintro e m' ⟨v, rfl, h⟩
    refine ⟨m', Over.refl _, _, rfl, ?_⟩
    rcases h with ⟨h1, rfl, h2⟩ | ⟨h1, h2, rfl, h3⟩ | ⟨us', l0', h1, h2, h3, h4, rfl, h5⟩
    · exact .inl ⟨h1, ret.mk h2⟩
    · exact .inr (.inl ⟨h1, h2, ret.mk h3⟩)
    · exact .inr (.inr ⟨us', l0', h1, h2, h3, h4, ret.mk h5⟩)

/-! ### Counts -/
/-- How many of the first n pages are free. -/
def cntFree (U : Nat → Bool) (n : Nat) : Nat := ((List.range n).filter fun p => !U p).length
theorem cntFree_succ (U : Nat → Bool) (n : Nat) : cntFree U (n + 1) = cntFree U n + if U n then 0 else 1 := by
  unfold cntFree
  rw [List.range_succ, List.filter_append, List.length_append]
  cases h : U n <;> simp [h]
theorem cntFree_free {U : Nat → Bool} {a : Nat} : ∀ j, Free U a (a + j) → cntFree U (a + j) = cntFree U a + j
  | 0, _ => rfl
  | j + 1, h => by
    rw [← Nat.add_assoc, cntFree_succ, cntFree_free j (fun p h1 h2 => h p h1 (by omega)), h (a + j) (by omega) (by omega)]
    simp; omega
theorem cntFree_le (U : Nat → Bool) (n : Nat) : cntFree U n ≤ n := by
  unfold cntFree; have := List.length_filter_le (fun p => !U p) (List.range n); simpa using this
theorem cntFree_min {U : Nat → Bool} {n : Nat} (h : ∀ p, n ≤ p → U p = true) : ∀ j, cntFree U (n + j) = cntFree U n
  | 0 => rfl
  | j + 1 => by rw [← Nat.add_assoc, cntFree_succ, cntFree_min h j, h (n + j) (by omega)]; simp

theorem runs_does (L : PL) {n : Nat} {us : List (BitVec 64)} {l0 : List Sum} {k : Nat} (g : PGood L n us l0 k) (b2 c0 : Nat) {r : HP} (l : Nat) (rc0 : Loop) (hl : IsLoop 32 [(4, .pointer (some ⟨b2, 0, none⟩))] (rangeAt 0 code43) rc0) :
    Does Tryd.prog 82 #[.func (.yield l) #[] #[], .pointer (some ⟨c0, 0, none⟩)]
      (pt l (.loop rc0) + (pt b2 (.cells #[.int .i64 0] 3 (0, 0)) + (pt c0 (.cells #[.pointer (some ⟨L.p, 0, none⟩)] 80 (0, 0)) + (pagesH L n us (levels k l0) + r))))
      fun e m' => (∃ v, e = .returned v) ∧ Over (pt l (.loop (rcNext rc0)) + (pt b2 (.cells #[.int .i64 (cntFree (Us us) n : Nat)] 3 (0, 0)) + (pagesH L n us (levels k l0) + r))) m' := by
  have hnle := g.nle
  refine F82_fn ?_
  unfold F82
  refine hLoad_ptr (by rfl) ?_
  refine hIf_false rfl ?_
  rw [show pt l (.loop rc0) = pt l (.loop (rcNext rc0)) by rw [hl.next]]
  refine hLoop_of (fun d x m' => ∃ a : Nat, a ≤ n + 1 ∧ d = n + 1 - a ∧ x = ((a : Int), ()) ∧
    Over (pt l (.loop (rcNext rc0)) + (pt b2 (.cells #[.int .i64 (cntFree (Us us) a : Nat)] 3 (0, 0)) + (pt c0 (.cells #[.pointer (some ⟨L.p, 0, none⟩)] 80 (0, 0)) + (pagesH L n us (levels k l0) + r)))) m') ?_ ?_
  · exact ⟨_, 0, by omega, rfl, rfl, Over.refl _⟩
  rintro d x m' ⟨a, ha, rfl, rfl, gg, rfl⟩
  refine hAll_of fun _ => ?_
  unfold F82_l2
  dsimp only
  refine hLoad_ptr (by rfl) ?_
  refine hNil_some (hLoad_int (by rfl) ?_)
  refine hIf_dec (fun h => ?_) (fun h => ?_)
  · refine hLoop_of (fun d x m' => ∃ j : Nat, a + j ≤ n ∧ d = n - (a + j) ∧ x = ((j : Int), ()) ∧ Free (Us us) a (a + j) ∧
      Over (pt l (.loop (rcNext rc0)) + (pt b2 (.cells #[.int .i64 (cntFree (Us us) a : Nat)] 3 (0, 0)) + (pt c0 (.cells #[.pointer (some ⟨L.p, 0, none⟩)] 80 (0, 0)) + (pagesH L n us (levels k l0) + r)))) m') ?_ ?_
    · exact ⟨_, 0, by omega, rfl, rfl, fun p _ _ => by omega, Over.of _ _⟩
    rintro d x m' ⟨j, hj, rfl, rfl, hfree, g2, rfl⟩
    refine hAll_of fun _ => ?_
    unfold F82_l5
    dsimp only
    refine hLoad_ptr (by rfl) ?_
    refine hInt_i64 (by omega) (by omega) ?_
    refine hCall_ret (used_does L (ls := levels k l0) g.le64 hnle _) ⟨_, rfl, ?_⟩
    refine hIf_not (hIf_split (fun h1 => ?_) (fun h1 => ?_))
    · have hused : Us us (a + j) = true := by
        rcases Nat.lt_or_ge (a + j) n with h2 | h2
        · have e : ((a : Int) + (j : Int)) = ((a + j : Nat) : Int) := by omega
          rw [e, usedI_nat h2] at h1; exact h1
        · exact g.tail _ h2
      have hc := cntFree_free j hfree
      have hc1 := cntFree_succ (Us us) (a + j)
      rw [hused, hc] at hc1
      simp only [if_true, Nat.add_zero] at hc1
      have hcl := cntFree_le (Us us) a
      refine hIf_dec (fun h2 => ?_) (fun h2 => ?_)
      · refine hYield_of (F43_y0 (rc := rcNext rc0) (y_28 := .int .i64 a) (y_29 := (j : Int)) (R := ret (.bool true) (pt l (.loop (rcNext rc0)) + (pt b2 (.cells #[.int .i64 (cntFree (Us us) a + j : Nat)] 3 (0, 0)) + (pt c0 (.cells #[.pointer (some ⟨L.p, 0, none⟩)] 80 (0, 0)) + (pagesH L n us (levels k l0) + r))))) hl rfl (by rw [HP.add_assoc]) ?_) ?_
        · unfold F43_r0
          refine hAll_of fun _ => hRec_of (hLoad_int (by rfl) (hInt_i64 (by omega) (by omega) (hStore1_0 (hRec_of ?_))))
          rw [show ((cntFree (Us us) a : Nat) : Int) + (j : Int) = ((cntFree (Us us) a + j : Nat) : Int) by omega]
          rw [show rcNext (rcNext rc0) = rcNext rc0 from rfl]
          exact ret.mk (Over.of _ _)
        · rintro e m' ⟨rfl, ho⟩
          refine ⟨_, ho, _, rfl, hIf_false rfl (hInt_i64 (by omega) (by omega) (hInt_i64 (by omega) (by omega) ?_))⟩
          refine ⟨n + 1 - (a + j + 1), by omega, a + j + 1, by omega, rfl, rfl, ?_⟩
          rw [hc1]; exact Over.refl _
      · obtain rfl : j = 0 := by omega
        refine hInt_i64 (by omega) (by omega) (hInt_i64 (by omega) (by omega) ⟨n + 1 - (a + 0 + 1), by omega, a + 0 + 1, by omega, rfl, rfl, ?_⟩)
        rw [hc1]; exact Over.of _ _
    · have hlt : a + j < n := by
        rcases Nat.lt_or_ge (a + j) n with h2 | h2
        · exact h2
        · have : usedI n us ((a : Int) + j) = true := by
            unfold usedI
            have : (n : Int) ≤ (a : Int) + j := by omega
            simp [this]
          rw [this] at h1; cases h1
      have e : ((a : Int) + (j : Int)) = ((a + j : Nat) : Int) := by omega
      rw [e, usedI_nat hlt] at h1
      refine hInt_i64 (by omega) (by omega) ⟨n - (a + (j + 1)), by omega, j + 1, by omega, rfl, rfl, fun p h2 h3 => ?_, Over.of _ _⟩
      rcases Nat.lt_or_ge p (a + j) with h4 | h4
      · exact hfree p h2 h4
      · obtain rfl : p = a + j := by omega
        exact h1
  · refine ⟨⟨_, rfl⟩, ?_⟩
    have : cntFree (Us us) a = cntFree (Us us) n := by
      obtain ⟨j, rfl⟩ : ∃ j, a = n + j := ⟨a - n, by omega⟩
      exact cntFree_min g.tail j
    rw [← this]
    exact Over.of _ _

/-- The longest row of free pages. -/
def Longest (U : Nat → Bool) (x : Nat) : Prop := (∀ a c, Free U a (a + c) → c ≤ x) ∧ ∃ a, Free U a (a + x)
theorem pcounts_does (L : PL) {n : Nat} {us : List (BitVec 64)} {l0 : List Sum} {k : Nat} (g : PGood L n us l0 k) {m r : HP} [hs : Sub (pagesH L n us (levels k l0)) m r] :
    Does Tryd.prog 43 #[.pointer (some ⟨L.p, 0, none⟩)] m fun e m' => ∃ x : Nat, Longest (Us us) x ∧ ret (.tuple #[.int .i64 (cntFree (Us us) n : Nat), .int .i64 (x : Int)]) (pagesH L n us (levels k l0) + r) e m' := by
  have hlv : (levels k l0).length = k := levels_len k l0
  obtain ⟨hLb, hLs⟩ := g.lay
  have hk1 := g.kpos
  have hkle := g.kle
  obtain ⟨st, hst, hsum, hall⟩ := g.topsum
  have hbk : L.bs[k - 1]? = some L.bs[k - 1] := List.getElem?_eq_getElem (by omega)
  have hsk := hLs (k - 1) _ hbk
  obtain ⟨rk, hHk, hpk⟩ := pages_level L n us (levels k l0) hbk (levels_get (by omega))
  have htop := g.top
  have hlong : Longest (Us us) st.most := by
    obtain ⟨a, h1, h2, h3⟩ := hsum.most_at
    refine ⟨fun b c hb => ?_, a, h3⟩
    rcases Nat.eq_zero_or_pos c with rfl | hc
    · omega
    · exact hsum.most b c (by omega) (runFits hb hc) hb
  rw [hs.eq]
  refine F43_fn (fun ch m' h => by obtain ⟨x, _, h, _⟩ := h; cases h) ?_
  unfold F43
  refine hIf_false rfl (hNew_of fun b2 => hStore1_0 ?_)
  refine hCall_of (R := fun e m' => ∃ c0, e = .returned (.func (.func 82) #[] #[.pointer (some ⟨c0, 0, none⟩)]) ∧ m' = pt c0 (.cells #[.pointer (some ⟨L.p, 0, none⟩)] 80 (0, 0)) + (pt b2 (.cells #[.int .i64 0] 3 (0, 0)) + (pagesH L n us (levels k l0) + r)))
    (F66_fn (by unfold F66; exact hNew_of fun c0 => ⟨c0, rfl, rfl⟩)) ?_
  rintro e m' ⟨c0, rfl, rfl⟩
  refine ⟨_, Over.refl _, _, rfl, ?_⟩
  refine hRange_end (pt b2 (.cells #[.int .i64 (cntFree (Us us) n : Nat)] 3 (0, 0)) + (pagesH L n us (levels k l0) + r)) (fun l r' rc0 hl => ?_) (fun l r' rc => ?_)
  · refine ((runs_does L g b2 c0 (r := pt r' (.deferred (some [])) + r) l rc0 hl).from ?_).mono ?_
    · exact ⟨0, by rw [HP.add_zero]; ac_rfl⟩
    · rintro e m3 ⟨h1, h2⟩
      exact ⟨h1, h2.trans' (by ac_rfl)⟩
  · haveI := hHk
    refine hLoad_int (by rfl) (hNil_some (hLoad_add (hLoad_slice (by rfl) (hNil_some (hLoad_add (hLoad_slice (by rfl) ?_))))))
    dsimp only
    refine hInt_i64 (by omega) (by omega) (hIdx_of (by omega) (by omega) ?_)
    refine hLoad_slice (by rw [show 0 + ((((levels k l0).length : Nat) : Int) - 1).toNat * 1 = k - 1 by omega]; exact hsk) ?_
    dsimp only
    refine hIdx_of (by omega) (by omega) ?_
    refine hLoad_add (hLoad_int (x := (st.most : Int)) (by rw [rowsS (i := 0) (j := 1) (by omega) (by omega) hst]; rfl) ?_)
    exact gone ⟨st.most, hlong, ret.mk (Over.of _ _)⟩

end Go.Proofs.YtolfcdjbchdkgaaDoor
