/- Cells: New; a nil room. Own work. -/
import Derived.Test.YtolfcdjbchdkgaaDoorM4
import Derived.Test.YtolfcdjbchdkgaaDoorM2
import Derived.Test.YtolfcdjbchdkgaaDoorM3
import Derived.Test.YtolfcdjbchdkgaaDoorTie
import Derived.Test.YtolfcdjbchdkgaaDoorCards
import Derived.SevenTiedAt
namespace Go.Proofs.YtolfcdjbchdkgaaDoor
open Go Go.Hp
set_option maxRecDepth 100000
attribute [local irreducible] hLoad hStore hNew hInt hQuo hRem hShl hShr hIf hNil hIdx hCut hElem hByte hAppend hMake hCall hYield hGet hPut hDel hNewMap hLoop hLet hAll hRange hRec hEq hCmp bitv W Does HYield

def slC (b : Nat) : List Value := [.slice (some ⟨b, 0, none⟩) 16 16]
theorem slC_len (b : Nat) : (slC b).length = 1 := rfl
theorem make_row (adr : Nat → Nat) : makeCells #[.pointer none] ((16 : Int).toNat * 1) = hrow adr fun _ => none := by
  have := rows_make (f := ptrC adr) (z := none) (by simp [ptrC]) 16
  exact this
def hrowsH (L : List Nat) : HP := sumB (fun b => pt b (.cells (hrow (fun _ => 0) fun _ => none) 102 (0, 0))) L
theorem hrow_none (adr adr' : Nat → Nat) : (hrow adr fun _ => none) = hrow adr' fun _ => none := rfl
theorem hrows_hold (C : CL) (adr : Nat → Nat) (L : List Nat) (hr : ∀ p b, L[p]? = some b → C.hr p = b) : holdH C adr (fun _ _ => none) L.length = hrowsH L := by
  unfold holdH hrowsH
  have e : L = (List.range L.length).map C.hr := by
    apply List.ext_getElem?
    intro i
    rw [List.getElem?_map]
    by_cases hi : i < L.length
    · rw [List.getElem?_range hi, List.getElem?_eq_getElem hi]
      simp only [Option.map_some, Option.some.injEq]
      exact (hr i _ (List.getElem?_eq_getElem hi)).symm
    · rw [List.getElem?_eq_none (by omega), List.getElem?_eq_none (by simpa using hi)]; rfl
  conv => rhs; rw [e]
  rw [sumB_map]
  rfl

theorem cnew_does (pages procs : Int) {m r2 : HP} {Tt : TypeId} {fr : Nat × Nat} [Has 0 m (.cells deBc Tt fr) r2] :
    Does Tryd.prog 21 #[.int .i64 pages, .int .i64 procs] m fun e m' =>
      (¬ ((1 ≤ procs ∧ procs ≤ 8) ∧ 1 ≤ pages ∧ pages ≤ 4096) ∧ ret (.tuple #[.pointer none, .int .i64 1]) m e m') ∨
      ∃ (C : CL) (X : HP), ((1 ≤ procs ∧ procs ≤ 8) ∧ 1 ≤ pages ∧ pages ≤ 4096) ∧ CellAt C pages.toNat procs.toNat [] [] X ∧ ret (.tuple #[.pointer (some ⟨C.c, 0, none⟩), .int .i64 0]) (X + m) e m' := by
  refine F21_fn ?_
  unfold F21
  refine hIf_dec (fun h1 => .inl ⟨by omega, ret.mk (Over.refl _)⟩) (fun h1 => hIf_dec (fun h2 => .inl ⟨by omega, ret.mk (Over.refl _)⟩) (fun h2 => ?_))
  obtain ⟨P, rfl⟩ := Int.eq_ofNat_of_zero_le (a := procs) (by omega)
  refine hCall_of (snew_does pages) ?_
  rintro e m' (⟨h3, rfl, ho⟩ | ⟨T, XT, h3, hT, rfl, ho⟩)
  · exact ⟨_, ho, _, _, rfl, hIf_neT (by omega) (.inl ⟨fun h => h3 h.2, ret.mk (Over.refl _)⟩)⟩
  refine ⟨_, ho, _, _, rfl, hIf_neF rfl (hNewMap_of fun b6 => hNew_of fun b7 => ?_)⟩
  refine hLoop_of (fun d x m' => ∃ (i : Nat) (L : List Nat) (s : Sl) (Hs : HP), i ≤ P ∧ L.length = i ∧ d = P - i ∧ x = ((i : Int), ()) ∧ Own 100 1 slC L s Hs ∧
    Over (pt b7 (.cells #[.pointer (some ⟨T.t, 0, none⟩), .map (some b6), .slice s.a s.n s.cap, .int .i64 0, .int .i64 0] 99 (0, 0)) + (Hs + (hrowsH L + (pt b6 (.map #[] 0) + (XT + m))))) m') ?_ ?_
  · exact ⟨_, 0, [], ⟨none, 0, 0⟩, 0, by omega, rfl, rfl, rfl, Own.nil, by simp only [hrowsH, sumB, HP.zero_add]; exact Over.refl _⟩
  rintro d x m' ⟨i, L, s, Hs, hi, hL, rfl, rfl, hO, g, rfl⟩
  refine hAll_of fun _ => ?_
  unfold F21_l8
  dsimp only
  refine hIf_dec (fun h4 => ?_) (fun h4 => ?_)
  · refine hNil_some (hLoad_add (hLoad_slice (by rfl) ?_))
    refine hCall_ret ccount_does ⟨_, rfl, hLoad_add (hLoad_slice (by rfl) ⟨rfl, ?_⟩)⟩
    refine hMake_of (by omega) (by omega) (by omega) (by omega) fun b16 => ?_
    rw [make_row fun _ => 0]
    refine hLoad_add (hLoad_slice (by rfl) ⟨rfl, hNew_of fun b18 => hLoad_add (hLoad_slice (by rfl) ⟨rfl, ?_⟩)⟩)
    refine hAppend_Own hO b16 slC_len (Row.of (c := #[.slice (some ⟨b16, 0, none⟩) 16 16]) (fun j v hj => by rw [Nat.zero_add]; simpa [slC] using hj)) rfl rfl (by omega) (by omega) (fun s2 H2 r2 hO2 hr2 => ?_)
    obtain ⟨g2, rfl⟩ := hr2
    refine hNil_some (hStore_add (hStore_at (by simp) ?_))
    refine hInt_i64 (by omega) (by omega) ⟨P - (i + 1), by omega, i + 1, L ++ [b16], s2, H2, by omega, by simp [hL], rfl, rfl, hO2, ?_⟩
    have e : hrowsH (L ++ [b16]) = hrowsH L + pt b16 (.cells (hrow (fun _ => 0) fun _ => none) 102 (0, 0)) := by
      unfold hrowsH; rw [sumB_append]; simp only [sumB, HP.add_zero]
    rw [e]
    simp only [List.setIfInBounds_toArray, Nat.zero_add, List.set_cons_succ, List.set_cons_zero]
    exact Over.of _ _
  · obtain rfl : i = P := by omega
    rcases hO with ⟨_, hL0, _⟩ | ⟨hb, cap, c, rfl, hc1, hc2, hc3, rfl⟩
    · rw [hL0] at hL; simp at hL; omega
    obtain ⟨C, hC⟩ : ∃ C : CL, C = ⟨b7, T, b6, hb, fun p => L.getD p 0⟩ := ⟨_, rfl⟩
    have hhr : ∀ p b, L[p]? = some b → C.hr p = b := fun p b hp => by rw [hC]; simp only; rw [List.getD_eq_getElem?_getD, hp]; rfl
    have hnle : pages.toNat ≤ 4096 := by omega
    refine .inr ⟨C, cellX C (fun _ => 0) i [] (cellsT [] : Nat) (wordsT [] : Nat) XT #[] 0 c cap (fun _ _ => none), by omega, ⟨fun _ => 0, ⟨[], XT, #[], 0, c, cap, fun _ _ => none, ⟨⟨hT.lok, by simp, by simp, by simp, by simp, by simp, by simp⟩, hnle, by omega, by rw [hC]; exact hT, rfl, MapIs.empty _, ?_, ?_⟩, rfl⟩, fun B hB => by simp at hB⟩, ret.eq (by rw [hC]) ?_⟩
    · intro p hp
      have hp' : p < L.length := by rw [Int.toNat_natCast] at hp; omega
      have := hc3 p (by omega)
      rw [show p = p * 1 + 0 by omega, flatMap_get slC_len (by omega), List.getElem?_eq_getElem hp'] at this
      rw [hhr p _ (List.getElem?_eq_getElem hp')]
      simpa [slC] using this
    · intro p c b hp hc
      simp
    · unfold cellX headC
      rw [← hL, hrows_hold C _ L hhr, hC, show ((cellsT [] : Nat) : Int) = 0 from rfl, show ((wordsT [] : Nat) : Int) = 0 from rfl]
      simp only [sumB, HP.add_zero]
      exact Over.of _ _

theorem nil_alloc (p w : Int) {m : HP} : Does Tryd.prog 23 #[.pointer none, .int .i64 p, .int .i64 w] m (ret (.tuple #[.int .i64 0, .int .i64 5]) m) := by
  refine F23_fn ?_; unfold F23; exact hIf_true rfl (ret.mk (Over.refl _))
theorem nil_find (a : Int) {m : HP} : Does Tryd.prog 24 #[.pointer none, .int .i64 a] m (ret (.tuple #[.int .i64 0, .int .i64 0, .bool false]) m) := by
  refine F24_fn ?_; unfold F24
  refine hCall_ret (v := .tuple #[.pointer none, .int .i64 0, .bool false]) (M := m) ?_ ⟨_, _, _, rfl, hIf_true rfl (ret.mk (Over.refl _))⟩
  refine F52_fn ?_; unfold F52; exact hIf_true rfl (ret.mk (Over.refl _))
theorem nil_pages (a : Int) {m : HP} : Does Tryd.prog 34 #[.pointer none, .int .i64 a] m (ret (.tuple #[.int .i64 0, .int .i64 5]) m) := by
  refine F34_fn ?_; unfold F34; exact hIf_true rfl (ret.mk (Over.refl _))
theorem nil_free (a : Int) {m : HP} : Does Tryd.prog 25 #[.pointer none, .int .i64 a] m (ret (.int .i64 5) m) := by
  refine F25_fn ?_; unfold F25; exact hIf_true rfl (ret.mk (Over.refl _))
theorem nil_flush (a : Int) {m : HP} : Does Tryd.prog 33 #[.pointer none, .int .i64 a] m (ret (.int .i64 5) m) := by
  refine F33_fn ?_; unfold F33; exact hIf_true rfl (ret.mk (Over.refl _))
theorem nil_give (a : Int) {m : HP} : Does Tryd.prog 35 #[.pointer none, .int .i64 a] m (ret (.int .i64 5) m) := by
  refine F35_fn ?_; unfold F35; exact hIf_true rfl (ret.mk (Over.refl _))
theorem nil_used (a : Int) {m : HP} : Does Tryd.prog 30 #[.pointer none, .int .i64 a] m (ret (.bool false) m) := by
  refine F30_fn ?_; unfold F30; exact hIf_true rfl (ret.mk (Over.refl _))
end Go.Proofs.YtolfcdjbchdkgaaDoor
/- Cells: awake. Own work. -/
namespace Go.Proofs.YtolfcdjbchdkgaaDoor
open Go Go.Hp
set_option maxRecDepth 100000
attribute [local irreducible] hLoad hStore hNew hInt hQuo hRem hShl hShr hIf hNil hIdx hCut hElem hByte hAppend hMake hCall hYield hGet hPut hDel hNewMap hLoop hLet hAll hRange hRec hEq hCmp bitv W Does HYield

section
variable {n P : Nat} {l : List Sp} {bs : List Blk}
def Blk.onPage (B : Blk) (p : Nat) : Prop := B.base ≤ p ∧ p < B.base + B.pages
theorem COk.UL_iff (hk : COk n P l bs) {p : Nat} : UL n l p = true ↔ n ≤ p ∨ ∃ B ∈ bs, B.onPage p := by
  rw [YtolfcdjbchdkgaaDoor.UL_iff]
  constructor
  · rintro (h | ⟨s, hs, h⟩)
    · exact .inl h
    · obtain ⟨B, hB, e⟩ := hk.cov s hs
      have h1 := hk.sp hB
      have h2 := (hk.lok.pos s hs).1
      have h3 := (hk.bok B hB).pos
      have := hk.lok.apart hs h1 (p := s.base) ⟨Nat.le_refl _, by omega⟩ ⟨by simp only; omega, by simp only; omega⟩
      subst this
      exact .inr ⟨B, hB, h⟩
  · rintro (h | ⟨B, hB, h⟩)
    · exact .inl h
    · exact .inr ⟨_, hk.sp hB, h⟩
theorem COk.free_iff (hk : COk n P l bs) {p : Nat} : UL n l p = false ↔ p < n ∧ ∀ B ∈ bs, ¬ B.onPage p := by
  rw [← Bool.not_eq_true, hk.UL_iff]
  constructor
  · intro h
    exact ⟨by rcases Nat.lt_or_ge p n with h1 | h1
              · exact h1
              · exact absurd (.inl h1) h, fun B hB hp => h (.inr ⟨B, hB, hp⟩)⟩
  · rintro ⟨h1, h2⟩ (h3 | ⟨B, hB, h3⟩)
    · omega
    · exact h2 B hB h3
theorem COk.used_iff (hk : COk n P l bs) {p : Int} : (findS l p).isSome = true ↔ ∃ B ∈ bs, (B.base : Int) ≤ p ∧ p < B.base + B.pages := by
  constructor
  · intro h
    obtain ⟨s, hs⟩ := Option.isSome_iff_exists.1 h
    obtain ⟨h1, h2, h3⟩ := findS_mem hs
    have h4 : UL n l p.toNat = true := YtolfcdjbchdkgaaDoor.UL_iff.2 (.inr ⟨s, h1, by omega, by omega⟩)
    have h5 := hk.lok.pos s h1
    rcases hk.UL_iff.1 h4 with h6 | ⟨B, hB, h6, h7⟩
    · omega
    · exact ⟨B, hB, by omega, by omega⟩
  · rintro ⟨B, hB, h1, h2⟩
    have := findS_eq hk.lok (hk.sp hB) (p := p.toNat) ⟨by simp only; omega, by simp only; omega⟩
    rw [show ((p.toNat : Nat) : Int) = p by omega] at this
    rw [this]; rfl
theorem isOf3 : IsOf 3 2 := ⟨by omega, by decide, by
  intro i hi
  have : i = 0 ∨ i = 1 := by omega
  rcases this with rfl | rfl <;> decide⟩

/-- A small cell, taken. -/
theorem AllocR.small {p w : Int} {bs' : List Blk} {v e : Int} {c : Nat} (h : AllocR n P l bs p w bs' v e) (hp : 0 ≤ p) (hp2 : p < P) (hw : 1 ≤ w) (hw2 : w ≤ 64) (hc : IsOf w.toNat c) :
    ∃ l' bs1 o, TakeR n l bs p.toNat c l' bs1 o ∧ ((o = none ∧ bs' = bs1 ∧ v = 0 ∧ e = 3) ∨ ∃ B k, B ∈ bs1 ∧ o = some B.base ∧ IsFree B k ∧ bs' = upd bs1 B.base (fun D => { D with used := setb B.used k }) ∧ v = (B.at_ k : Nat) ∧ e = 0) := by
  rcases h with ⟨h, _⟩ | ⟨_, h, _⟩ | ⟨_, _, h, _⟩ | ⟨_, _, h, _⟩ | ⟨_, _, c', l', bs1, o, h1, h2, h3⟩
  · omega
  · omega
  · omega
  · omega
  · obtain rfl := h1.uniq hc
    exact ⟨l', bs1, o, h2, h3⟩
theorem first_uniq {c a b : Nat} (h : First (UL n l) c a) (hb : Free (UL n l) b (b + c)) (hn : ∀ x, x < b → ¬ Free (UL n l) x (x + c)) : a = b := First.uniq h ⟨hb, hn⟩
end

def blk1 (u : BitVec 64) : Blk := ⟨0, 1, 2, u, some 0⟩
def blk2 (u : BitVec 64) : Blk := ⟨1, 1, 2, u, some 1⟩
theorem c21 : Blk.cells ⟨0, 1, 2, 0#64, some 0⟩ = 21 := rfl

theorem awake7_does {m r : HP} {Tt : TypeId} {fr : Nat × Nat} [Has 0 m (.cells deBc Tt fr) r] : Does Tryd.prog 22 #[] m (ret (.bool true) m) := by
  refine F22_fn ?_
  unfold F22
  refine hCall_of (cnew_does 8 2) ?_
  rintro e m' (⟨h, _⟩ | ⟨C, X, _, hC, rfl, ho⟩)
  · omega
  refine ⟨_, ho, _, _, rfl, hIf_false rfl (hIf_neF rfl ?_)⟩
  refine hCall_of (calloc_does hC 0 3) ?_
  rintro e m1 ⟨l1, bs1, v1, e1, X1, hA1, hC1, rfl, ho1⟩
  refine ⟨_, ho1, _, _, rfl, ?_⟩
  refine hCall_of (calloc_does hC1 0 3) ?_
  rintro e m2 ⟨l2, bs2, v2, e2, X2, hA2, hC2, rfl, ho2⟩
  refine ⟨_, ho2, _, _, rfl, ?_⟩
  refine hCall_of (calloc_does hC2 1 3) ?_
  rintro e m3 ⟨l3, bs3, v3, e3, X3, hA3, hC3, rfl, ho3⟩
  refine ⟨_, ho3, _, _, rfl, ?_⟩
  have ok0 : COk 8 2 [] [] := by obtain ⟨_, h, _⟩ := hC; exact h.ok
  have ok1 : COk 8 2 l1 bs1 := by obtain ⟨_, h, _⟩ := hC1; exact h.ok
  have ok2 : COk 8 2 l2 bs2 := by obtain ⟨_, h, _⟩ := hC2; exact h.ok
  have ok3 : COk 8 2 l3 bs3 := by obtain ⟨_, h, _⟩ := hC3; exact h.ok
  have w3 : wordsN 2 = 3 := rfl
  -- the first cell
  have s1 : bs1 = [blk1 (setb 0#64 0)] ∧ v1 = 0 ∧ e1 = 0 := by
    obtain ⟨l', b', o, hT, hrest⟩ := hA1.small (c := 2) (by omega) (by decide) (by omega) (by omega) isOf3
    have hT' : o = some 0 ∧ b' = [blk1 0#64] := by
      rcases hT with ⟨B, hB, _⟩ | ⟨_, ⟨B, hB, _⟩ | ⟨_, hN, _⟩ | ⟨_, a, hF, _, rfl, rfl⟩⟩
      · simp at hB
      · have := hB.1; simp [release] at this
      · exact absurd (fun p h1 h2 => ok0.free_iff.2 ⟨by have : pagesN 2 = 1 := rfl; omega, by simp⟩) (hN 0)
      · have := first_uniq (b := 0) hF (fun p h1 h2 => ok0.free_iff.2 ⟨by have : pagesN 2 = 1 := rfl; omega, by simp⟩) (fun x hx => by omega)
        subst this; exact ⟨rfl, rfl⟩
    obtain ⟨rfl, rfl⟩ := hT'
    rcases hrest with ⟨h, _⟩ | ⟨B, k, hB, _, hF, rfl, rfl, rfl⟩
    · cases h
    · rw [List.mem_singleton] at hB; subst hB
      have := hF.uniq (j := 0) ⟨by decide, by decide, fun i hi => by omega⟩
      subst this
      exact ⟨rfl, rfl, rfl⟩
  obtain ⟨rfl, rfl, rfl⟩ := s1
  have s2 : bs2 = [blk1 (setb (setb 0#64 0) 1)] ∧ v2 = 3 ∧ e2 = 0 := by
    obtain ⟨l', b', o, hT, hrest⟩ := hA2.small (c := 2) (by omega) (by decide) (by omega) (by omega) isOf3
    have hT' : o = some 0 ∧ b' = [blk1 (setb 0#64 0)] := by
      rcases hT with ⟨B, hB, _, _, _, _, rfl, rfl⟩ | ⟨hfull, _⟩
      · rw [List.mem_singleton] at hB; subst hB; exact ⟨rfl, rfl⟩
      · have := hfull _ (List.mem_singleton.2 rfl) rfl rfl 1 (by decide)
        exact absurd this (by decide)
    obtain ⟨rfl, rfl⟩ := hT'
    rcases hrest with ⟨h, _⟩ | ⟨B, k, hB, _, hF, rfl, rfl, rfl⟩
    · cases h
    · rw [List.mem_singleton] at hB; subst hB
      have := hF.uniq (j := 1) ⟨by decide, by decide, fun i hi => by rw [show i = 0 by omega]; decide⟩
      subst this
      exact ⟨rfl, rfl, rfl⟩
  obtain ⟨rfl, rfl, rfl⟩ := s2
  have s3 : bs3 = [blk1 (setb (setb 0#64 0) 1), blk2 (setb 0#64 0)] ∧ v3 = 64 ∧ e3 = 0 := by
    obtain ⟨l', b', o, hT, hrest⟩ := hA3.small (c := 2) (by omega) (by decide) (by omega) (by omega) isOf3
    have hrel : release [blk1 (setb (setb 0#64 0) 1)] 1 ((2 : Nat) : Int) = [blk1 (setb (setb 0#64 0) 1)] := rfl
    have hT' : o = some 1 ∧ b' = [blk1 (setb (setb 0#64 0) 1), blk2 0#64] := by
      rcases hT with ⟨B, hB, hh, _⟩ | ⟨_, ⟨B, hB, _⟩ | ⟨_, hN, _⟩ | ⟨_, a, hF, _, rfl, rfl⟩⟩
      · rw [List.mem_singleton] at hB; subst hB; cases hh
      · have h1 := hB.1; have h2 := hB.2.1.2.1
        rw [show (1 : Int).toNat = 1 from rfl, hrel, List.mem_singleton] at h1; subst h1; cases h2
      · refine absurd (fun p h1 h2 => ok2.free_iff.2 ⟨by have : pagesN 2 = 1 := rfl; omega, fun B hB => ?_⟩) (hN 1)
        rw [List.mem_singleton] at hB; subst hB
        unfold Blk.onPage blk1; simp only; omega
      · have := first_uniq (b := 1) hF (fun p h1 h2 => ok2.free_iff.2 ⟨by have : pagesN 2 = 1 := rfl; omega, fun B hB => by
          rw [List.mem_singleton] at hB; subst hB
          unfold Blk.onPage blk1; simp only; omega⟩) (fun x hx hf => by
            have h := hf x (by omega) (by have : pagesN 2 = 1 := rfl; omega)
            exact (ok2.free_iff.1 h).2 _ (List.mem_singleton.2 rfl) (by unfold Blk.onPage blk1; simp only; omega))
        subst this; exact ⟨rfl, rfl⟩
    obtain ⟨rfl, rfl⟩ := hT'
    rcases hrest with ⟨h, _⟩ | ⟨B, k, hB, hb, hF, rfl, rfl, rfl⟩
    · cases h
    · have hB2 : B = blk2 0#64 := by
        simp only [List.mem_cons, List.not_mem_nil, or_false] at hB
        rcases hB with rfl | rfl
        · simp [blk1] at hb
        · rfl
      subst hB2
      have := hF.uniq (j := 0) ⟨by decide, by decide, fun i hi => by omega⟩
      subst this
      exact ⟨rfl, rfl, rfl⟩
  obtain ⟨rfl, rfl, rfl⟩ := s3
  obtain ⟨adr, hM, hl⟩ := hC3
  refine hCall_of (cFind_does hM 5 (by omega)) ?_
  have hhit : Hit [blk1 (setb (setb 0#64 0) 1), blk2 (setb 0#64 0)] 5 (blk1 (setb (setb 0#64 0) 1)) 1 := ⟨by simp, by decide, by decide, by decide⟩
  rintro e m4 (⟨h, _⟩ | ⟨B, k, ht, rfl, ho4⟩)
  · exact absurd hhit (h _ _)
  obtain ⟨rfl, rfl⟩ := ht.uniq ok3 hhit
  refine ⟨_, ho4, _, _, _, rfl, ?_⟩
  refine hIf_true rfl (hIf_true rfl (hIf_true rfl (hIf_true rfl (hIf_true rfl (hIf_true rfl (hIf_true rfl (hIf_true rfl (hIf_true rfl ?_))))))))
  have hu1 : (findS l3 1).isSome = true := ok3.used_iff.2 ⟨blk2 (setb 0#64 0), by simp, by decide, by decide⟩
  have hu2 : (findS l3 2).isSome = false := by
    rw [← Bool.not_eq_true, ok3.used_iff]
    rintro ⟨B, hB, h1, h2⟩
    simp only [List.mem_cons, List.not_mem_nil, or_false] at hB
    rcases hB with rfl | rfl
    · unfold blk1 at h2; simp at h2
    · unfold blk2 at h2; simp at h2
  refine hCall_ret (cUsed_does hM 1) ⟨_, rfl, hIf_true hu1 (hCall_ret (cUsed_does hM 2) ⟨_, rfl, ?_⟩)⟩
  rw [hu2]
  exact ret.mk (Over.of _ _)
end Go.Proofs.YtolfcdjbchdkgaaDoor
/- Cells that are used: what Alloc, Free and Flush do to them (no program). Own work. -/
namespace Go.Proofs.YtolfcdjbchdkgaaDoor
open Go Go.Hp
set_option maxRecDepth 100000

/-- A used cell: where it begins, its words. -/
def UC (bs : List Blk) (a w : Nat) : Prop := ∃ B ∈ bs, ∃ k, B.bit k = true ∧ a = B.at_ k ∧ w = B.words
def NoPages (bs : List Blk) : Prop := ∀ B ∈ bs, B.cls ≠ -2

section
variable {n P : Nat} {l : List Sp} {bs : List Blk}
theorem UC.hit {a w : Nat} {x : Int} (h : UC bs a w) (h1 : (a : Int) ≤ x) (h2 : x < (a + w : Nat)) : ∃ B k, Hit bs x B k ∧ a = B.at_ k ∧ w = B.words := by
  obtain ⟨B, hB, k, hk, rfl, rfl⟩ := h
  exact ⟨B, k, ⟨hB, hk, h1, h2⟩, rfl, rfl⟩
theorem Hit.uc {x : Int} {B : Blk} {k : Nat} (h : Hit bs x B k) : UC bs (B.at_ k) B.words := ⟨B, h.mem, k, h.bit, rfl, rfl⟩
theorem UC.apart (hk : COk n P l bs) {a w a' w' : Nat} (h : UC bs a w) (h' : UC bs a' w') {x : Nat} (h1 : a ≤ x) (h2 : x < a + w) (h3 : a' ≤ x) (h4 : x < a' + w') : a = a' ∧ w = w' := by
  obtain ⟨B, k, ht, rfl, rfl⟩ := h.hit (x := (x : Int)) (by omega) (by omega)
  obtain ⟨B', k', ht', rfl, rfl⟩ := h'.hit (x := (x : Int)) (by omega) (by omega)
  obtain ⟨rfl, rfl⟩ := ht.uniq hk ht'
  exact ⟨rfl, rfl⟩
theorem UC.pos (hk : COk n P l bs) {a w : Nat} (h : UC bs a w) : 1 ≤ w := by
  obtain ⟨B, hB, k, hbk, rfl, rfl⟩ := h
  exact Blk.words_pos (hk.bok B hB)
theorem UC.le (hk : COk n P l bs) {a w : Nat} (h : UC bs a w) : a + w ≤ n * 64 := by
  obtain ⟨B, hB, k, hbk, rfl, rfl⟩ := h
  have hb := hk.bok B hB
  have h1 := hb.bit_lt hbk
  have h2 := Blk.room hb
  have h3 := hk.pages_le hB
  have h4 := Nat.mul_le_mul_right B.words (show k + 1 ≤ B.cells by omega)
  rw [Nat.add_mul] at h4
  unfold Blk.at_
  omega

theorem TakeR.ok (hk : COk n P l bs) {p c : Nat} (hp : p < P) (hc : c < 16) {l' : List Sp} {bs' : List Blk} {o : Option Nat} (h : TakeR n l bs p c l' bs' o) : COk n P l' bs' := by
  have hw := words_facts hc
  have hr := hk.release p (c : Int)
  rcases h with ⟨B, hB, h1, h2, h3, rfl, rfl, h4⟩ | ⟨hf, ⟨B, hB, rfl, rfl, h4⟩ | ⟨_, _, rfl, rfl, h4⟩ | ⟨_, a, hF, rfl, rfl, h4⟩⟩
  · exact hk
  · exact hr.hold hB.1 hp (by rw [hB.2.1.1]; omega) fun D hD e1 e2 => (release_no D hD e1 (by rw [e2, hB.2.1.1])).elim
  · exact hr
  · refine hr.add (N := ⟨a, pagesN c, (c : Int), 0#64, some p⟩) hF ⟨.inr (.inr ⟨by simp only; omega, by simp only; omega, by simp⟩), by simp only; omega, fun i _ => by unfold Blk.bit; simp, fun q hq => ?_⟩ (fun D hD q hq e1 e2 => ?_)
    · simp only [Option.some.injEq] at hq; subst hq; exact ⟨hp, by simp only; omega⟩
    · simp only [Option.some.injEq] at hq; subst hq; exact release_no D hD e1 e2
theorem uc_map {g : Blk → Blk} (hg : ∀ B ∈ bs, (g B).base = B.base ∧ (g B).pages = B.pages ∧ (g B).cls = B.cls ∧ (g B).used = B.used) (a w : Nat) : UC (bs.map g) a w ↔ UC bs a w := by
  have e : ∀ B ∈ bs, (∀ k, (g B).bit k = B.bit k) ∧ (g B).words = B.words ∧ ∀ k, (g B).at_ k = B.at_ k := fun B hB => by
    obtain ⟨e1, e2, e3, e4⟩ := hg B hB
    have ew : (g B).words = B.words := by unfold Blk.words; rw [e3, e2]
    exact ⟨fun k => by unfold Blk.bit; rw [e4], ew, fun k => by unfold Blk.at_; rw [e1, ew]⟩
  constructor
  · rintro ⟨D, hD, k, h1, h2, h3⟩
    obtain ⟨B, hB, rfl⟩ := List.mem_map.1 hD
    obtain ⟨e1, e2, e3⟩ := e B hB
    exact ⟨B, hB, k, by rw [← e1]; exact h1, by rw [← e3]; exact h2, by rw [← e2]; exact h3⟩
  · rintro ⟨B, hB, k, h1, h2, h3⟩
    obtain ⟨e1, e2, e3⟩ := e B hB
    exact ⟨g B, List.mem_map.2 ⟨B, hB, rfl⟩, k, by rw [e1]; exact h1, by rw [e3]; exact h2, by rw [e2]; exact h3⟩
theorem uc_release {p : Nat} {c : Int} (a w : Nat) : UC (release bs p c) a w ↔ UC bs a w := uc_map (fun B _ => by split <;> exact ⟨rfl, rfl, rfl, rfl⟩) a w
theorem uc_hold {b : Nat} {h : Option Nat} (a w : Nat) : UC (upd bs b fun D => { D with holder := h }) a w ↔ UC bs a w := uc_map (fun B _ => by split <;> exact ⟨rfl, rfl, rfl, rfl⟩) a w
theorem uc_append {b1 b2 : List Blk} (a w : Nat) : UC (b1 ++ b2) a w ↔ UC b1 a w ∨ UC b2 a w := by
  unfold UC
  constructor
  · rintro ⟨B, hB, h⟩
    rcases List.mem_append.1 hB with hB | hB
    · exact .inl ⟨B, hB, h⟩
    · exact .inr ⟨B, hB, h⟩
  · rintro (⟨B, hB, h⟩ | ⟨B, hB, h⟩)
    · exact ⟨B, List.mem_append.2 (.inl hB), h⟩
    · exact ⟨B, List.mem_append.2 (.inr hB), h⟩
theorem TakeR.uc {p c : Nat} {l' : List Sp} {bs' : List Blk} {o : Option Nat} (h : TakeR n l bs p c l' bs' o) (a w : Nat) : UC bs' a w ↔ UC bs a w := by
  rcases h with ⟨B, hB, h1, h2, h3, rfl, rfl, h4⟩ | ⟨hf, ⟨B, hB, rfl, rfl, h4⟩ | ⟨_, _, rfl, rfl, h4⟩ | ⟨_, b, hF, rfl, rfl, h4⟩⟩
  · exact Iff.rfl
  · rw [uc_hold, uc_release]
  · rw [uc_release]
  · rw [uc_append, uc_release]
    constructor
    · rintro (h | ⟨B, hB, k, h1, _⟩)
      · exact h
      · rw [List.mem_singleton] at hB; subst hB; unfold Blk.bit at h1; simp at h1
    · exact .inl
theorem TakeR.noPages {p c : Nat} {l' : List Sp} {bs' : List Blk} {o : Option Nat} (h : TakeR n l bs p c l' bs' o) (hn : NoPages bs) : NoPages bs' := by
  have hr : NoPages (release bs p c) := fun B hB => by
    obtain ⟨D, hD, rfl⟩ := List.mem_map.1 hB
    split <;> exact hn D hD
  rcases h with ⟨B, hB, h1, h2, h3, rfl, rfl, h4⟩ | ⟨hf, ⟨B, hB, rfl, rfl, h4⟩ | ⟨_, _, rfl, rfl, h4⟩ | ⟨_, b, hF, rfl, rfl, h4⟩⟩
  · exact hn
  · intro D hD
    obtain ⟨D', hD', rfl⟩ := List.mem_map.1 hD
    split <;> exact hr D' hD'
  · exact hr
  · intro D hD
    rcases List.mem_append.1 hD with hD | hD
    · exact hr D hD
    · rw [List.mem_singleton] at hD; subst hD; simp only; omega

theorem AllocR.cells (hk : COk n P l bs) {p w : Int} {bs' : List Blk} {v e : Int} (h : AllocR n P l bs p w bs' v e) :
    (e ≠ 0 ∧ (∀ a x, UC bs' a x ↔ UC bs a x) ∧ cellsT bs' = cellsT bs ∧ (NoPages bs → NoPages bs') ∧ (0 ≤ p → p < P → 1 ≤ w → w ≤ 1024 → e = 3)) ∨
    (e = 0 ∧ ∃ a x : Nat, v = a ∧ w ≤ x ∧ UC bs' a x ∧ (∀ y, ¬ UC bs a y) ∧ (∀ a' x', UC bs' a' x' ↔ UC bs a' x' ∨ (a' = a ∧ x' = x)) ∧ cellsT bs' = cellsT bs + 1 ∧ (NoPages bs → NoPages bs')) := by
  rcases h with ⟨h1, rfl, rfl, rfl⟩ | ⟨_, h1, rfl, rfl, rfl⟩ | ⟨_, _, _, _, rfl, rfl, rfl⟩ | ⟨h1, h2, h3, a, hF, rfl, rfl, rfl⟩ | ⟨h1, h2, c, l', bs1, o, hof, hT, hrest⟩
  · exact .inl ⟨by decide, fun _ _ => Iff.rfl, rfl, id, fun _ _ _ _ => by omega⟩
  · exact .inl ⟨by decide, fun _ _ => Iff.rfl, rfl, id, fun _ _ _ _ => by omega⟩
  · exact .inl ⟨by decide, fun _ _ => Iff.rfl, rfl, id, fun _ _ _ _ => rfl⟩
  · obtain ⟨N, hN⟩ : ∃ N : Blk, N = ⟨a, (w.toNat + 63) / 64, -1, 1#64, none⟩ := ⟨_, rfl⟩
    have hb : ∀ k, N.bit k = true ↔ k = 0 := fun k => by
      rw [hN]; unfold Blk.bit; simp only
      rw [show (1#64) = BitVec.twoPow 64 0 from rfl, BitVec.getLsbD_twoPow]; simp; omega
    have hw : N.words = (w.toNat + 63) / 64 * 64 := by rw [hN]; rfl
    have hat : N.at_ 0 = a * 64 := by rw [hN]; unfold Blk.at_; simp
    have hu : ∀ a' x', UC [N] a' x' ↔ (a' = a * 64 ∧ x' = N.words) := fun a' x' => by
      constructor
      · rintro ⟨B, hB, k, k1, k2, k3⟩
        rw [List.mem_singleton] at hB; subst hB
        rw [hb] at k1; subst k1
        exact ⟨by rw [k2, hat], k3⟩
      · rintro ⟨rfl, rfl⟩
        exact ⟨N, List.mem_singleton.2 rfl, 0, (hb 0).2 rfl, hat.symm, rfl⟩
    rw [← hN]
    refine .inr ⟨rfl, a * 64, N.words, rfl, by rw [hw]; omega, by rw [uc_append, hu]; exact .inr ⟨rfl, rfl⟩, fun y hy => ?_, fun a' x' => by rw [uc_append, hu], ?_, fun hn B hB => ?_⟩
    · have hy1 := hy.pos hk
      obtain ⟨B, k, ht, _, _⟩ := hy.hit (x := ((a * 64 : Nat) : Int)) (by omega) (by omega)
      have hh := ht.has hk
      unfold Blk.has at hh
      have hp : 1 ≤ (w.toNat + 63) / 64 := by omega
      exact hF.apart (hk.sp ht.mem) (p := a) (Nat.le_refl _) (by omega) ⟨by simp only; omega, by simp only; omega⟩
    · unfold cellsT
      rw [List.map_append, List.sum_append]
      have : cntT N.bit 64 = 1 := by rw [hN]; show cntT (1#64).getLsbD 64 = 1; decide +kernel
      simp [this]
    · rcases List.mem_append.1 hB with hB | hB
      · exact hn B hB
      · rw [List.mem_singleton] at hB; subst hB; rw [hN]; simp
  · have hp : p.toNat < P := by omega
    have hok := hT.ok hk hp hof.1
    obtain ⟨s1, _⟩ := hT.sums
    rcases hrest with ⟨rfl, rfl, rfl, rfl⟩ | ⟨B, k, hB, rfl, hF, rfl, rfl, rfl⟩
    · exact .inl ⟨by decide, fun a x => hT.uc a x, s1, hT.noPages, fun _ _ _ _ => rfl⟩
    · obtain ⟨B', hB', e1, e2, e3, e4⟩ := hT.block hof.1
      obtain rfl := hok.base_inj hB' hB e1
      have hbk := hok.bok B' hB
      have h64 : k < 64 := by have := Blk.cells_le hbk; have := hF.1; omega
      have hwords : B'.words = wordsN c := by unfold Blk.words; rw [if_neg (by omega), e2]; rfl
      have hnew : ∀ y, ¬ UC bs1 (B'.at_ k) y := fun y hy => by
        have hy1 := hy.pos hok
        obtain ⟨D, j, ht, h5, _⟩ := hy.hit (x := ((B'.at_ k : Nat) : Int)) (by omega) (by omega)
        have hw1 := Blk.words_pos hbk
        have hhas : B'.has ((B'.at_ k : Nat) : Int) := by
          have h6 := Blk.room hbk
          have h7 := Nat.mul_le_mul_right B'.words (show k + 1 ≤ B'.cells by have := hF.1; omega)
          rw [Nat.add_mul] at h7
          unfold Blk.has Blk.at_; omega
        obtain rfl := hok.has_uniq ht.mem hB (ht.has hok) hhas
        have d1 := (hit_div hw1 hhas k).1 ⟨by omega, by omega⟩
        have d2 := (hit_div hw1 hhas j).1 ⟨ht.lo, ht.hi⟩
        have : k = j := by rw [← d1, d2]
        subst this
        have := ht.bit; rw [hF.2.1] at this; cases this
      have huc : ∀ a' x', UC (upd bs1 B'.base fun D => { D with used := setb B'.used k }) a' x' ↔ UC bs1 a' x' ∨ (a' = B'.at_ k ∧ x' = B'.words) := fun a' x' => by
        constructor
        · rintro ⟨D, hD, j, j1, j2, j3⟩
          obtain ⟨D', hD', rfl⟩ := List.mem_map.1 hD
          by_cases e5 : D'.base = B'.base
          · obtain rfl := hok.base_inj hD' hB e5
            rw [if_pos rfl] at j1 j2 j3
            have j1' : (setb D'.used k).getLsbD j = true := j1
            rw [setb_get h64] at j1'
            by_cases e6 : j = k
            · subst e6; exact .inr ⟨j2, j3⟩
            · rw [if_neg e6] at j1'
              exact .inl ⟨D', hD', j, j1', j2, j3⟩
          · rw [if_neg e5] at j1 j2 j3
            exact .inl ⟨D', hD', j, j1, j2, j3⟩
        · rintro (⟨D, hD, j, j1, j2, j3⟩ | ⟨rfl, rfl⟩)
          · by_cases e5 : D.base = B'.base
            · obtain rfl := hok.base_inj hD hB e5
              refine ⟨_, List.mem_map.2 ⟨D, hD, if_pos rfl⟩, j, ?_, j2, j3⟩
              show (setb D.used k).getLsbD j = true
              rw [setb_get h64]; split
              · rfl
              · exact j1
            · exact ⟨D, List.mem_map.2 ⟨D, hD, if_neg e5⟩, j, j1, j2, j3⟩
          · refine ⟨_, List.mem_map.2 ⟨B', hB, if_pos rfl⟩, k, ?_, rfl, rfl⟩
            show (setb B'.used k).getLsbD k = true
            rw [setb_get h64, if_pos rfl]
      have hle := hof.2.1
      refine .inr ⟨rfl, B'.at_ k, B'.words, rfl, by rw [hwords]; omega, (huc _ _).2 (.inr ⟨rfl, rfl⟩), fun y hy => hnew y ((hT.uc _ _).2 hy), fun a' x' => by rw [huc, hT.uc], ?_, fun hn => ?_⟩
      · have q1 := sum_upd hok hB (f := fun D => { D with used := setb B'.used k }) (fun D => cntT D.bit 64)
        have q4 : cntT (Blk.bit { B' with used := setb B'.used k }) 64 = cntT B'.bit 64 + 1 := setb_cells hbk hF
        simp only [q4] at q1
        rw [← s1]; unfold cellsT; omega
      · intro D hD
        obtain ⟨D', hD', rfl⟩ := List.mem_map.1 hD
        have := hT.noPages hn D' hD'
        split <;> exact this

theorem uc_rem (hk : COk n P l bs) {B : Blk} (hB : B ∈ bs) (a w : Nat) : UC (rem bs B.base) a w ↔ UC bs a w ∧ ∀ k, B.bit k = true → a ≠ B.at_ k := by
  constructor
  · rintro ⟨D, hD, k, h1, h2, h3⟩
    obtain ⟨hD1, hD2⟩ := mem_rem.1 hD
    refine ⟨⟨D, hD1, k, h1, h2, h3⟩, fun j hj e => hD2 ?_⟩
    have hu1 : UC bs a w := ⟨D, hD1, k, h1, h2, h3⟩
    have hp := hu1.pos hk
    have ht : Hit bs (a : Int) D k := ⟨hD1, h1, by omega, by omega⟩
    have hw := Blk.words_pos (hk.bok B hB)
    have ht2 : Hit bs (a : Int) B j := ⟨hB, hj, by omega, by omega⟩
    rw [(ht.uniq hk ht2).1]
  · rintro ⟨⟨D, hD, k, h1, h2, h3⟩, hne⟩
    refine ⟨D, mem_rem.2 ⟨hD, fun e => ?_⟩, k, h1, h2, h3⟩
    obtain rfl := hk.base_inj hD hB e
    exact hne k h1 h2
theorem FreeR.cells (hk : COk n P l bs) {addr : Int} {bs' : List Blk} {e : Int} (h : FreeR bs addr bs' e) :
    (e = 4 ∧ bs' = bs ∧ ∀ a w : Nat, (a : Int) = addr → ¬ UC bs a w) ∨
    (e = 0 ∧ ∃ a w : Nat, (a : Int) = addr ∧ UC bs a w ∧ (∀ a' w', UC bs' a' w' ↔ UC bs a' w' ∧ a' ≠ a) ∧ cellsT bs' + 1 = cellsT bs ∧ (NoPages bs → NoPages bs')) := by
  rcases h with ⟨h1, rfl, rfl⟩ | ⟨B, k, ht, h1, rfl, hrest⟩
  · refine .inl ⟨rfl, rfl, fun a w ha hu => ?_⟩
    have hp := hu.pos hk
    obtain ⟨B, k, ht, h2, _⟩ := hu.hit (x := addr) (by omega) (by omega)
    exact h1 B k ht (by omega)
  · have hbk := hk.bok B ht.mem
    have hkc := hbk.bit_lt ht.bit
    have h64 : k < 64 := by have := Blk.cells_le hbk; omega
    have q4 : cntT (clrb B.used k).getLsbD 64 + 1 = cntT B.bit 64 := clrb_cells hbk ht.bit
    refine .inr ⟨rfl, B.at_ k, B.words, h1.symm, ht.uc, ?_, ?_, ?_⟩
    · intro a' w'
      have hwp := Blk.words_pos hbk
      have key : ∀ j, B.bit j = true → (B.at_ j = B.at_ k ↔ j = k) := fun j hj => by
        constructor
        · intro e
          have t1 : Hit bs ((B.at_ j : Nat) : Int) B j := ⟨ht.mem, hj, by omega, by omega⟩
          have t2 : Hit bs ((B.at_ j : Nat) : Int) B k := ⟨ht.mem, ht.bit, by omega, by omega⟩
          exact (t1.uniq hk t2).2
        · rintro rfl; rfl
      rcases hrest with ⟨h2, h3, rfl⟩ | ⟨h2, rfl⟩
      · rw [uc_rem hk ht.mem]
        have honly : ∀ j, B.bit j = true → j = k := fun j hj => by
          apply Classical.byContradiction
          intro hne
          have := clrb_get (u := B.used) (i := j) h64
          rw [h2, if_neg hne] at this
          have hj' : B.used.getLsbD j = true := hj
          rw [hj'] at this; simp at this
        constructor
        · rintro ⟨hu, hne⟩; exact ⟨hu, hne k ht.bit⟩
        · rintro ⟨hu, hne⟩; exact ⟨hu, fun j hj e => hne (by rw [e, honly j hj])⟩
      · constructor
        · rintro ⟨D, hD, j, j1, j2, j3⟩
          obtain ⟨D', hD', rfl⟩ := List.mem_map.1 hD
          by_cases e5 : D'.base = B.base
          · obtain rfl := hk.base_inj hD' ht.mem e5
            rw [if_pos rfl] at j1 j2 j3
            have j1' : (clrb D'.used k).getLsbD j = true := j1
            rw [clrb_get h64] at j1'
            by_cases e6 : j = k
            · rw [if_pos e6] at j1'; cases j1'
            · rw [if_neg e6] at j1'
              exact ⟨⟨D', hD', j, j1', j2, j3⟩, fun e => e6 ((key j j1').1 (by rw [← e]; exact j2.symm))⟩
          · rw [if_neg e5] at j1 j2 j3
            refine ⟨⟨D', hD', j, j1, j2, j3⟩, fun e => e5 ?_⟩
            have hu : UC bs a' w' := ⟨D', hD', j, j1, j2, j3⟩
            have hp := hu.pos hk
            have t1 : Hit bs (a' : Int) D' j := ⟨hD', j1, by omega, by omega⟩
            have t2 : Hit bs (a' : Int) B k := ⟨ht.mem, ht.bit, by omega, by omega⟩
            rw [(t1.uniq hk t2).1]
        · rintro ⟨⟨D, hD, j, j1, j2, j3⟩, hne⟩
          by_cases e5 : D.base = B.base
          · obtain rfl := hk.base_inj hD ht.mem e5
            refine ⟨_, List.mem_map.2 ⟨D, hD, if_pos rfl⟩, j, ?_, j2, j3⟩
            show (clrb D.used k).getLsbD j = true
            rw [clrb_get h64, if_neg (fun e => hne (by rw [j2, e]))]; exact j1
          · exact ⟨D, List.mem_map.2 ⟨D, hD, if_neg e5⟩, j, j1, j2, j3⟩
    · rcases hrest with ⟨h2, h3, rfl⟩ | ⟨h2, rfl⟩
      · have r1 := sum_rem hk ht.mem (fun D => cntT D.bit 64)
        have z1 : cntT (clrb B.used k).getLsbD 64 = 0 := cntT_zero.2 fun i _ => by rw [h2]; simp
        unfold cellsT; omega
      · have q1 := sum_upd hk ht.mem (f := fun D => { D with used := clrb B.used k }) (fun D => cntT D.bit 64)
        have q5 : cntT (Blk.bit { B with used := clrb B.used k }) 64 + 1 = cntT B.bit 64 := q4
        unfold cellsT; omega
    · intro hn
      rcases hrest with ⟨h2, h3, rfl⟩ | ⟨h2, rfl⟩
      · exact fun D hD => hn D (mem_rem.1 hD).1
      · intro D hD
        obtain ⟨D', hD', rfl⟩ := List.mem_map.1 hD
        have := hn D' hD'
        split <;> exact this
end
end Go.Proofs.YtolfcdjbchdkgaaDoor
/- CellBack: the law's function answers true. Own work. -/
namespace Go.Proofs.YtolfcdjbchdkgaaDoor
open Go Go.Hp
set_option maxRecDepth 100000
attribute [local irreducible] hLoad hStore hNew hInt hQuo hRem hShl hShr hIf hNil hIdx hCut hElem hByte hAppend hMake hCall hYield hGet hPut hDel hNewMap hLoop hLet hAll hRange hRec hEq hCmp bitv W Does HYield

/-- Small numbers that stand in memory. -/
structure Nums (r : HP) (k : IntKind) (sl : Sl) (L : List Int) : Prop where
  len : sl.n = L.length
  at_ : ∀ (i : Nat) (x : Int), L[i]? = some x → ∃ ad, sl.a = some ad ∧ At r (ad.add i) (.int k x)
  rng : ∀ x ∈ L, 0 ≤ x ∧ x < 65536
  le : (L.length : Int) ≤ 9223372036854775807
  ncap : sl.n ≤ sl.cap

theorem sum_mono {f g : Blk → Nat} : ∀ {bs : List Blk}, (∀ B ∈ bs, f B ≤ g B) → (bs.map f).sum ≤ (bs.map g).sum
  | [], _ => by simp
  | B :: bs, h => by
    simp only [List.map_cons, List.sum_cons]
    have := sum_mono (f := f) (g := g) (bs := bs) fun D hD => h D (by simp [hD])
    have := h B (by simp)
    omega
theorem COk.words_ge {n P : Nat} {l : List Sp} {bs : List Blk} (hk : COk n P l bs) : cellsT bs ≤ wordsT bs :=
  sum_mono fun B hB => Nat.le_mul_of_pos_right _ (Blk.words_pos (hk.bok B hB))
theorem sum_zero {f : Blk → Nat} : ∀ {bs : List Blk}, (bs.map f).sum = 0 → ∀ B ∈ bs, f B = 0
  | [], _, B, hB => by simp at hB
  | D :: bs, h, B, hB => by
    simp only [List.map_cons, List.sum_cons] at h
    rcases List.mem_cons.1 hB with rfl | hB
    · omega
    · exact sum_zero (bs := bs) (by omega) B hB
theorem COk.empty {n P : Nat} {l : List Sp} {bs : List Blk} (hk : COk n P l bs) (h : cellsT bs = 0) : ∀ B ∈ bs, B.used = 0#64 := by
  intro B hB
  have := sum_zero h B hB
  have hz := cntT_zero.1 this
  apply BitVec.eq_of_getLsbD_eq
  intro i hi
  rw [show B.used.getLsbD i = false from hz i hi]; simp
theorem cntFree_all {U : Nat → Bool} : ∀ {n : Nat}, (∀ p, p < n → U p = false) → cntFree U n = n
  | 0, _ => rfl
  | n + 1, h => by rw [cntFree_succ, cntFree_all fun p hp => h p (by omega), h n (by omega)]; rfl

theorem cellback_does (sl : Sl) (L : List Int) {r r2 : HP} {Tt : TypeId} {fr : Nat × Nat} [Has 0 r (.cells deBc Tt fr) r2] (hS : Nums r .u16 sl L) :
    Does Tryd.prog 7 #[.slice sl.a sl.n sl.cap] r (ret (.bool true) r) := by
  refine F7_fn (sizes_1 := sl) ?_
  unfold F7
  refine hCall_of (cnew_does 200 2) ?_
  rintro e m' (⟨h1, _⟩ | ⟨C, X0, _, hC0, rfl, ho⟩)
  · omega
  refine ⟨_, ho, _, _, rfl, hCall_ret awake7_does ⟨_, rfl, hIf_false rfl (hIf_false rfl (hIf_neF rfl ?_))⟩⟩
  have hlen := hS.len
  have hle := hS.le
  refine hLoop_of (fun d x m' => ∃ (i : Nat) (A : List Nat) (s : Sl) (Hs : HP) (l : List Sp) (bs : List Blk) (X : HP), i ≤ L.length ∧ d = L.length - i ∧ x = (s, (i : Int), ()) ∧ Own 3 1 natC A s Hs ∧
    CellAt C 200 2 l bs X ∧ (∀ a, a ∈ A ↔ ∃ w, UC bs a w) ∧ A.Nodup ∧ A.length = cellsT bs ∧ NoPages bs ∧ Over (X + (Hs + r)) m') ?_ ?_
  · exact ⟨_, 0, [], _, 0, _, _, X0, by omega, rfl, rfl, Own.nil, hC0, fun a => ⟨fun h => (by simp at h), fun ⟨w, B, hB, _⟩ => (by simp at hB)⟩, List.nodup_nil, rfl, fun B hB => (by simp at hB), by rw [HP.zero_add]; exact Over.of _ _⟩
  rintro d x m' ⟨i, A, s, Hs, l, bs, X, hi, rfl, rfl, hO, hC, hA, hnd, hcnt, hnp, g, rfl⟩
  have hok : COk 200 2 l bs := by obtain ⟨_, h, _⟩ := hC; exact h.ok
  obtain ⟨hcc, _⟩ := hok.counts (by omega)
  have hsn := hO.len
  refine hAll_of fun _ => ?_
  unfold F7_l6
  dsimp only
  refine hIf_dec (fun h1 => ?_) (fun h1 => ?_)
  · have hi' : i < L.length := by omega
    refine hLet_of (fun s m' => ∃ (A : List Nat) (s2 : Sl) (Hs : HP) (l : List Sp) (bs : List Blk) (X : HP), s = (s2, ()) ∧ Own 3 1 natC A s2 Hs ∧
      CellAt C 200 2 l bs X ∧ (∀ a, a ∈ A ↔ ∃ w, UC bs a w) ∧ A.Nodup ∧ A.length = cellsT bs ∧ NoPages bs ∧ Over (X + (Hs + r)) m') ?_ ?_
    · have hL : L[i]? = some L[i] := List.getElem?_eq_getElem hi'
      obtain ⟨ad, hda, hA0⟩ := hS.at_ i _ hL
      obtain ⟨hr0, hr1⟩ := hS.rng _ (List.getElem_mem hi')
      generalize L[i] = v at hA0 hr0 hr1
      have up : ∀ {ad v}, At r ad v → At (X + (Hs + r) + g) ad v := fun h => At.sub h
      refine hIdx_any hda (by omega) (by omega) ?_
      rw [Int.toNat_natCast, Nat.mul_one]
      refine hLoad_here (t := .int .u16) (x := v) (up hA0) (hRem_pos (by omega) (by omega) (hRem_pos hr0 (by omega) (hInt_i64 (by omega) (by omega) (hInt_i64 (by omega) (by omega) ?_))))
      refine hCall_of (calloc_does hC _ _) ?_
      rintro e m2 ⟨l2, bs2, v2, e2, X2, hAl, hC2, rfl, ho2⟩
      refine ⟨_, ho2, _, _, rfl, ?_⟩
      rcases hAl.cells hok with ⟨h2, h3, h4, h5, _⟩ | ⟨rfl, a, w, rfl, h3, h4, h5, h6, h7, h8⟩
      · refine hIf_eqF h2 ⟨A, s, Hs, l2, bs2, X2, rfl, hO, hC2, fun a => ?_, hnd, by rw [h4]; exact hcnt, h5 hnp, Over.of _ _⟩
        rw [hA]
        exact ⟨fun ⟨w, hw⟩ => ⟨w, (h3 a w).2 hw⟩, fun ⟨w, hw⟩ => ⟨w, (h3 a w).1 hw⟩⟩
      · refine hIf_eqT rfl (hNew_of fun b21 => ?_)
        refine hAppend_Own hO a natC_len (Row.of (c := #[.int .i64 (a : Int)]) (fun j v hj => by rw [Nat.zero_add]; simpa [natC] using hj)) rfl rfl (by omega) (by omega) (fun s2 H2 r3 hO2 hr2 => ?_)
        obtain ⟨g2, rfl⟩ := hr2
        have hnew : a ∉ A := fun h => by obtain ⟨w', hw'⟩ := (hA a).1 h; exact h5 w' hw'
        refine ⟨A ++ [a], s2, H2, l2, bs2, X2, rfl, hO2, hC2, fun a' => ?_, ?_, by simp [hcnt, h7], h8 hnp, Over.of _ _⟩
        · rw [List.mem_append, hA, List.mem_singleton]
          constructor
          · rintro (⟨w', hw'⟩ | rfl)
            · exact ⟨w', (h6 _ _).2 (.inl hw')⟩
            · exact ⟨w, h4⟩
          · rintro ⟨w', hw'⟩
            rcases (h6 _ _).1 hw' with h | h
            · exact .inl ⟨w', h⟩
            · exact .inr h.1
        · rw [List.nodup_append]
          exact ⟨hnd, by simp, fun x hx y hy => by rw [List.mem_singleton] at hy; subst hy; rintro rfl; exact hnew hx⟩
    · rintro st m' ⟨A, s2, Hs, l, bs, X, rfl, h2⟩
      refine hAll_of fun _ => ?_
      unfold F7_j11
      dsimp only
      exact hInt_i64 (by omega) (by omega) ⟨L.length - (i + 1), by omega, i + 1, A, s2, Hs, l, bs, X, by omega, rfl, rfl, h2⟩
  · refine hCall_ret (M := X + (Hs + r + g)) (by obtain ⟨adr, hM, _⟩ := hC; exact (cCounts_does hM (r := Hs + r + g) (hs := ⟨HP.add_assoc _ _ _⟩))) ⟨_, _, _, rfl, ?_⟩
    have hge := hok.words_ge
    have hAl : A.length ≤ 262144 := by omega
    refine hIf_neF (by omega) (hIf_neg (by omega) ?_)
    refine hLoop_of (fun d x m' => ∃ (j : Nat) (l : List Sp) (bs : List Blk) (X : HP), j ≤ A.length ∧ d = A.length - j ∧ x = ((j : Int), ()) ∧ CellAt C 200 2 l bs X ∧ (∀ a, a ∈ A.drop j ↔ ∃ w, UC bs a w) ∧ cellsT bs + j = A.length ∧ NoPages bs ∧ Over (X + (Hs + r)) m') ?_ ?_
    · exact ⟨_, 0, l, bs, X, by omega, rfl, rfl, hC, hA, by omega, hnp, Over.of _ _⟩
    clear hok hcc hC hA hcnt hnp hge
    rintro d x m' ⟨j, l, bs, X, hj, rfl, rfl, hC, hA, hcnt, hnp, g, rfl⟩
    have hok : COk 200 2 l bs := by obtain ⟨_, h, _⟩ := hC; exact h.ok
    refine hAll_of fun _ => ?_
    unfold F7_l16
    dsimp only
    refine hIf_dec (fun h2 => ?_) (fun h2 => ?_)
    · have hj' : j < A.length := by omega
      have hAj : A[j]? = some A[j] := List.getElem?_eq_getElem hj'
      obtain ⟨b, cap, c, rfl, rfl, hc1, hc2, hc3⟩ := hO.get natC_len hAj
      have hdrop : A.drop j = A[j] :: A.drop (j + 1) := List.drop_eq_getElem_cons hj'
      rw [hdrop] at hA
      have hnd2 : (A.drop j).Nodup := hnd.sublist (List.drop_sublist _ _)
      rw [hdrop, List.nodup_cons] at hnd2
      have h3 := hc3 0 (by omega)
      have e0 : 0 + (j : Int).toNat * 1 = j * 1 + 0 := by omega
      obtain ⟨w, hw⟩ := (hA A[j]).1 List.mem_cons_self
      have hwle := hw.le hok
      refine hIdx_of (by omega) (by omega) (hLoad_int (x := (A[j] : Int)) (by rw [e0, h3]; rfl) ?_)
      refine hCall_of (cfree_does hC _ (by omega)) ?_
      rintro e m2 ⟨l2, bs2, e2, X2, hF, hC2, rfl, ho2⟩
      refine ⟨_, ho2, _, rfl, ?_⟩
      rcases hF.cells hok with ⟨_, _, h4⟩ | ⟨rfl, a, w', h4, h5, h6, h7, h8⟩
      · exact absurd hw (h4 _ _ rfl)
      · obtain rfl : a = A[j] := by omega
        refine hIf_neF rfl (hInt_i64 (by omega) (by omega) ⟨A.length - (j + 1), by omega, j + 1, l2, bs2, X2, by omega, rfl, rfl, hC2, fun a' => ?_, by omega, h8 hnp, Over.of _ _⟩)
        constructor
        · intro ha
          obtain ⟨x, hx⟩ := (hA a').1 (List.mem_cons_of_mem _ ha)
          exact ⟨x, (h6 _ _).2 ⟨hx, fun e => hnd2.1 (by rw [← e]; exact ha)⟩⟩
        · rintro ⟨x, hx⟩
          obtain ⟨hx1, hx2⟩ := (h6 _ _).1 hx
          rcases List.mem_cons.1 ((hA a').2 ⟨x, hx1⟩) with h | h
          · exact absurd h hx2
          · exact h
    · obtain rfl : j = A.length := by omega
      have hzero : cellsT bs = 0 := by omega
      have hun := hok.empty hzero
      refine hCall_of (cflush_does hC 0) ?_
      rintro e m1 ⟨l1, bs1, e1, X1, hF1, hC1, rfl, ho1⟩
      refine ⟨_, ho1, _, rfl, ?_⟩
      rcases hF1 with ⟨h3, _⟩ | ⟨_, hb1, rfl⟩
      · omega
      refine hIf_neF rfl (hCall_of (cflush_does hC1 1) ?_)
      rintro e m2 ⟨l2, bs2, e2, X2, hF2, hC2, rfl, ho2⟩
      refine ⟨_, ho2, _, rfl, ?_⟩
      rcases hF2 with ⟨h3, _⟩ | ⟨_, hb2, rfl⟩
      · omega
      refine hIf_neF rfl (hCall_of (cflush_does hC2 2) ?_)
      rintro e m3 ⟨l3, bs3, e3, X3, hF3, hC3, rfl, ho3⟩
      refine ⟨_, ho3, _, rfl, ?_⟩
      have hF3' : bs3 = bs2 ∧ e3 = 1 := by
        rcases hF3 with ⟨_, h, h'⟩ | ⟨h3, _⟩
        · exact ⟨h, h'⟩
        · omega
      obtain ⟨hb3, rfl⟩ := hF3'
      have hall : bs3 = [] := by
        rw [hb3, List.eq_nil_iff_forall_not_mem]
        intro B hB
        rw [hb2] at hB
        obtain ⟨hB1, hB2⟩ := List.mem_filter.1 hB
        obtain ⟨D, hD, rfl⟩ := List.mem_map.1 hB1
        rw [hb1] at hD
        obtain ⟨hD1, hD2⟩ := List.mem_filter.1 hD
        obtain ⟨E, hE, rfl⟩ := List.mem_map.1 hD1
        have hEu := hun E hE
        have hEn := hnp E hE
        have hEb := hok.bok E hE
        have hEc : E.cls < 16 := by have := hEb.cls; omega
        have c1 : ∀ p (B : Blk), (letGo p 16 B).cls = B.cls ∧ (letGo p 16 B).used = B.used := fun p B => by unfold letGo; split <;> exact ⟨rfl, rfl⟩
        have c2 : ∀ p (B : Blk), B.cls < 16 → (letGo p 16 B).holder = if B.holder = some p then none else B.holder := fun p B hB => by
          unfold letGo
          by_cases e : B.holder = some p
          · rw [if_pos ⟨e, hB⟩, if_pos e]
          · rw [if_neg fun h => e h.1, if_neg e]
        rcases liveB_iff.1 hB2 with h | h | h
        · rw [(c1 _ _).1, (c1 _ _).1] at h; exact hEn h
        · rw [(c1 _ _).2, (c1 _ _).2] at h; exact h hEu
        · rw [c2 _ _ (by rw [(c1 _ _).1]; exact hEc), c2 _ _ hEc] at h
          cases hh : E.holder with
          | none => rw [hh] at h; simp at h
          | some q =>
            have hq := (hEb.hold q hh).1
            rw [hh] at h
            have : q = 0 ∨ q = 1 := by omega
            rcases this with rfl | rfl
            · simp at h
            · simp at h
      subst hall
      have hok3 : COk 200 2 l3 [] := by obtain ⟨_, h, _⟩ := hC3; exact h.ok
      have hfree : cntFree (UL 200 l3) 200 = 200 := cntFree_all fun p hp => hok3.free_iff.2 ⟨hp, by simp⟩
      obtain ⟨adr, hM, _⟩ := hC3
      refine hIf_neF rfl (hCall_ret (cCounts_does hM) ⟨_, _, _, rfl, ?_⟩)
      refine hCall_ret (nil_alloc 0 1) ⟨_, _, rfl, hCall_ret (nil_find 0) ⟨_, _, _, rfl, hCall_ret (nil_pages 1) ⟨_, _, rfl, ?_⟩⟩⟩
      refine hIf_eqT rfl (hIf_eqT rfl (hIf_eqT (by rw [hfree]; rfl) (hIf_eqT rfl (hIf_not (hIf_false rfl (hIf_eqT rfl ?_))))))
      refine hCall_ret (nil_free 0) ⟨_, rfl, hIf_eqT rfl (hCall_ret (nil_flush 0) ⟨_, rfl, hIf_eqT rfl (hCall_ret (nil_give 0) ⟨_, rfl, hIf_eqT rfl (hCall_ret (nil_used 0) ⟨_, rfl, ?_⟩)⟩)⟩)⟩
      exact ret.mk (Over.of _ _)
end Go.Proofs.YtolfcdjbchdkgaaDoor
/- Rows: slices of small numbers, opened. Own work. -/
namespace Go.Proofs.YtolfcdjbchdkgaaDoor
open Go Go.Hp Go.ChangeShapes Go.WideShapes Go.ChangeAt Go.WideMaps Go.WideElems Go.RowKit
set_option maxRecDepth 100000

theorem u53 : Tryd.prog.underlying 53 = some (.slice 59) := by kernel_rfl
theorem u54 : Tryd.prog.underlying 54 = some (.slice 5) := by kernel_rfl
theorem u59 : Tryd.prog.underlying 59 = some (.int .u16) := by kernel_rfl
theorem c59 : Tryd.prog.cellsOf 59 = 1 := by kernel_rfl

/-- A slice of small numbers, opened. -/
theorem nums_of {H : Type} {enc : TypeId × Value → H} {W : World} {t e : TypeId} {k : IntKind} (ut : Tryd.prog.underlying t = some (.slice e)) (ue : Tryd.prog.underlying e = some (.int k)) (ce : Tryd.prog.cellsOf e = 1) (hk : k = .u8 ∨ k = .u16)
    {v : Value} {d : DataW H} {p : List MemPlace} {b0 : Nat} (hval : Value.okWide Tryd.prog W .any b0 t v) (h : DataW.Trod enc Tryd.prog W 0 (fun _ => true) true t v d p) :
    ∃ (sl : Sl) (L : List Int), v = .slice sl.a sl.n sl.cap ∧ Nums (whole W) k sl L ∧ L.length ≤ Rows.uptoBulk d := by
  obtain ⟨a, len, cap, rfl⟩ := okWide_slice ut hval
  obtain ⟨fuel, hf⟩ := h
  rcases Deep.open_slice1 ut ce hf with ⟨h1, hx⟩ | ⟨ad, len', cap', m, n, V, D, Pl, h1, _, hle, hcap, hm, hx, hel⟩
  · simp only [Value.cells, List.cons.injEq, Value.slice.injEq, and_true] at h1
    obtain ⟨rfl, rfl, rfl⟩ := h1
    exact ⟨⟨none, 0, 0⟩, [], rfl, ⟨rfl, by simp, by simp, by simp, Nat.le_refl _⟩, by simp⟩
  · simp only [Value.cells, List.cons.injEq, Value.slice.injEq, and_true] at h1
    obtain ⟨rfl, rfl, rfl⟩ := h1
    have hmm : m = cap := by rw [hm]; rfl
    have key : ∀ i, i < len → ∃ x : Int, (0 ≤ x ∧ x < 65536) ∧ W.cell? (ad.add i) = some (.int k x) := by
      intro i hi
      obtain ⟨c1, c2⟩ := hel i (by omega)
      obtain ⟨x, e1, e2, e3⟩ := DataW.trod_int ue c2
      simp only [List.cons.injEq, and_true] at e1
      refine ⟨x, ?_, by rw [c1, e1]⟩
      simp only [Lit.wf, Bool.and_eq_true, decide_eq_true_eq] at e3
      rcases hk with rfl | rfl
      · have h1 : IntKind.min .u8 = 0 := by decide
        have h2 : IntKind.max .u8 = 255 := by decide
        rw [h1, h2] at e3; omega
      · have h1 : IntKind.min .u16 = 0 := by decide
        have h2 : IntKind.max .u16 = 65535 := by decide
        rw [h1, h2] at e3; omega
    obtain ⟨F, hF⟩ : ∃ F : Nat → Int, ∀ i, i < len → (0 ≤ F i ∧ F i < 65536) ∧ W.cell? (ad.add i) = some (.int k (F i)) :=
      ⟨fun i => if h : i < len then (key i h).choose else 0, fun i hi => by simp only [hi, dif_pos]; exact (key i hi).choose_spec⟩
    have hlen : (len : Int) ≤ 9223372036854775807 := by
      have : (cap : Int) ≤ maxLen := by exact_mod_cast hcap
      have h2 : (maxLen : Int) ≤ 9223372036854775807 := by decide
      omega
    refine ⟨⟨some ad, len, cap⟩, (List.range len).map F, rfl, ⟨by simp, fun i x hx => ?_, fun x hx => ?_, by simpa using hlen, hle⟩, ?_⟩
    · rw [List.getElem?_map] at hx
      by_cases hi : i < len
      · rw [List.getElem?_range hi] at hx
        simp only [Option.map_some, Option.some.injEq] at hx
        subst hx
        exact ⟨ad, rfl, At.whole' (hF i hi).2⟩
      · rw [List.getElem?_eq_none (by simpa using hi)] at hx; cases hx
    · simp only [List.mem_map, List.mem_range] at hx
      obtain ⟨i, hi, rfl⟩ := hx
      exact (hF i hi).1
    · simp only [Prod.mk.injEq] at hx
      rw [hx.1]
      simp only [List.length_map, List.length_range, Rows.uptoBulk]
      have : ∀ L : List (DataW H), L.length ≤ Rows.uptoBulkAll L := by
        intro L
        induction L with
        | nil => simp [Rows.uptoBulkAll]
        | cons d L ih =>
          simp only [List.length_cons, Rows.uptoBulkAll]
          have h1 : 1 ≤ Rows.uptoBulk d := by
            cases d with
            | lit x => cases x <;> simp [Rows.uptoBulk]
            | _ => simp [Rows.uptoBulk]
          omega
      have := this ((List.range len).map D)
      simp only [List.length_map, List.length_range] at this
      omega

/-- Bytes. -/
theorem nums8_of {H : Type} {enc : TypeId × Value → H} {W : World} {t e : TypeId} (ut : Tryd.prog.underlying t = some (.slice e)) (ue : Tryd.prog.underlying e = some (.int .u8)) (ce : Tryd.prog.cellsOf e = 1)
    {v : Value} {d : DataW H} {p : List MemPlace} {b0 : Nat} (hval : Value.okWide Tryd.prog W .any b0 t v) (h : DataW.Trod enc Tryd.prog W 0 (fun _ => true) true t v d p) :
    ∃ (sl : Sl) (L : List Int), v = .slice sl.a sl.n sl.cap ∧ Nums (whole W) .u8 sl L ∧ L.length ≤ Rows.uptoBulk d ∧ ∀ x ∈ L, x < 256 := by
  obtain ⟨sl, L, rfl, hS, hb⟩ := nums_of ut ue ce (.inl rfl) hval h
  refine ⟨sl, L, rfl, hS, hb, fun x hx => ?_⟩
  obtain ⟨i, hi⟩ := List.getElem?_of_mem hx
  obtain ⟨ad, had, hat⟩ := hS.at_ i x hi
  obtain ⟨fuel, hf⟩ := h
  rcases Deep.open_slice1 ut ce hf with ⟨h1, hx⟩ | ⟨ad', len', cap', m, n, V, D, Pl, h1, _, hle, hcap, hm, hx, hel⟩
  · simp only [Value.cells, List.cons.injEq, Value.slice.injEq, and_true] at h1
    rw [h1.1] at had; cases had
  · simp only [Value.cells, List.cons.injEq, Value.slice.injEq, and_true] at h1
    obtain ⟨h2, h3, h4⟩ := h1
    rw [had] at h2
    simp only [Option.some.injEq] at h2
    subst h2
    have hin : i < m := by
      rw [hm]; simp only [if_true]
      have := (List.getElem?_eq_some_iff.1 hi).1
      have := hS.len
      omega
    obtain ⟨c1, c2⟩ := hel i hin
    obtain ⟨y, e1, e2, e3⟩ := DataW.trod_int ue c2
    simp only [List.cons.injEq, and_true] at e1
    have := hat.cell (holds_whole W)
    rw [c1, e1] at this
    simp only [Option.some.injEq, Value.int.injEq, true_and] at this
    simp only [Lit.wf, Bool.and_eq_true, decide_eq_true_eq] at e3
    have h1 : IntKind.min .u8 = 0 := by decide
    have h2 : IntKind.max .u8 = 255 := by decide
    rw [h1, h2] at e3; omega

theorem door_met (os : Os) (args : Array Value) : laidMetH Tryd.prog laid1 ((World.doorLaid Tryd.prog 400 os).forCall (fun _ _ => 0) ⟨#[], args, []⟩).memory :=
  laidMetH_of_parts3 (fuel := 8) (laidMet_of_run' 8 (by kernel_rfl) (by kernel_rfl)) (by kernel_rfl) (by kernel_rfl)
end Go.Proofs.YtolfcdjbchdkgaaDoor
/- CellApart: the law's function answers true. Own work. -/
namespace Go.Proofs.YtolfcdjbchdkgaaDoor
open Go Go.Hp
set_option maxRecDepth 100000
attribute [local irreducible] hLoad hStore hNew hInt hQuo hRem hShl hShr hIf hNil hIdx hCut hElem hByte hAppend hMake hCall hYield hGet hPut hDel hNewMap hLoop hLet hAll hRange hRec hEq hCmp bitv W Does HYield

def intC (x : Int) : List Value := [.int .i64 x]
theorem intC_len (x : Int) : (intC x).length = 1 := rfl
theorem own1 {α : Type} {e : TypeId} {f : α → List Value} {l : List α} {s : Sl} {H : HP} (h : Own e 1 f l s H) (hf : ∀ x, (f x).length = 1) {i : Nat} {x : α} (hx : l[i]? = some x) :
    ∃ b cap c, s = ⟨some ⟨b, 0, none⟩, l.length, cap⟩ ∧ H = pt b (.cells c e (0, 0)) ∧ i < c.size ∧ c[i]? = (f x)[0]? ∧ ∀ y v, f y = [v] → Own e 1 f (l.set i y) s (pt b (.cells (c.setIfInBounds i v) e (0, 0))) := by
  obtain ⟨b, cap, c, h1, h2, h3, h4, h5⟩ := h.get hf hx
  have hi := (List.getElem?_eq_some_iff.1 hx).1
  refine ⟨b, cap, c, h1, h2, by omega, by have := h5 0 (by omega); simpa using this, fun y v hy => ?_⟩
  rcases h with ⟨h6, _⟩ | ⟨b', cap', c', h6, h7, h8, h9, h10⟩
  · rw [h6] at h1; cases h1
  · rw [h6] at h1
    simp only [Sl.mk.injEq, Option.some.injEq, Addr.mk.injEq, and_true, true_and] at h1
    obtain ⟨rfl, rfl⟩ := h1
    rw [h2] at h10
    have hcc : c = c' := by
      have := congrFun (congrArg HP.blk h10) b'
      rw [show (pt b' (.cells c e (0, 0))).blk b' = .one (.cells c e (0, 0)) from pt_same _ _, show (pt b' (.cells c' e (0, 0))).blk b' = .one (.cells c' e (0, 0)) from pt_same _ _] at this
      simpa using this
    subst hcc
    refine .inr ⟨b', cap', _, by rw [h6]; simp, by simpa using h3, by simpa using h8, fun j hj => ?_, rfl⟩
    rw [List.length_set] at hj
    have hold := h9 j hj
    rw [Array.getElem?_setIfInBounds]
    have e1 : (l.set i y).flatMap f = (l.flatMap f).set (i * 1 + 0) v := (flatMap_set (sz := 1) hf (j := 0) (by omega) hx (by
      rw [hy]
      have := hf x
      match hfx : f x, this with
      | [w], _ => rfl)).symm
    rw [e1, List.getElem?_set, ← hold]
    have hlen : (l.flatMap f).length = l.length * 1 := flatMap_len hf l
    by_cases e2 : i = j
    · subst e2; rw [if_pos rfl, if_pos (by omega), if_pos (by omega), if_pos (by omega)]
    · rw [if_neg e2, if_neg (by omega)]

structure Inv4 (n : Nat) (bs : List Blk) (A : List Int) (Wd : List Nat) (O : List Nat) : Prop where
  len : A.length = Wd.length
  olen : O.length = 16384
  ent : ∀ (j : Nat) (a : Int), A[j]? = some a → (0 ≤ a ∧ ∃ x, Wd[j]? = some x ∧ UC bs a.toNat x) ∨ (a = -1 ∧ j < 256)
  inj : ∀ (i j : Nat) (a : Int), A[i]? = some a → A[j]? = some a → 0 ≤ a → i = j
  cnt : (A.filter fun a => decide (0 ≤ a)).length = cellsT bs
  own : ∀ (w o : Nat), O[w]? = some o → o ≠ 0 → ∃ a x, UC bs a x ∧ a ≤ w ∧ w < a + x
theorem Inv4.le {n : Nat} {bs : List Blk} {A : List Int} {Wd O : List Nat} (h : Inv4 n bs A Wd O) : A.length ≤ cellsT bs + 256 := by
  have h1 : ∀ a ∈ A.drop 256, decide (0 ≤ a) = true := by
    intro a ha
    obtain ⟨j, hj⟩ := List.getElem?_of_mem ha
    rw [List.getElem?_drop] at hj
    rcases h.ent _ a hj with ⟨h2, _⟩ | ⟨_, h2⟩
    · simpa using h2
    · omega
  have h2 : ((A.drop 256).filter fun a => decide (0 ≤ a)) = A.drop 256 := List.filter_eq_self.2 h1
  have h3 : (A.drop 256).length ≤ (A.filter fun a => decide (0 ≤ a)).length := by
    rw [← h2]
    exact (List.Sublist.filter _ (List.drop_sublist 256 A)).length_le
  rw [List.length_drop, h.cnt] at h3
  omega
theorem filter_set : ∀ {A : List Int} {j : Nat} {a : Int}, A[j]? = some a → 0 ≤ a → ((A.set j (-1)).filter fun a => decide (0 ≤ a)).length + 1 = (A.filter fun a => decide (0 ≤ a)).length
  | [], _, _, h, _ => by simp at h
  | x :: A, 0, a, h, h0 => by
    simp only [List.getElem?_cons_zero, Option.some.injEq] at h; subst h
    simp only [List.set_cons_zero, List.filter_cons]
    have e1 : decide (0 ≤ x) = true := by simpa using h0
    rw [e1]; simp
  | x :: A, j + 1, a, h, h0 => by
    simp only [List.getElem?_cons_succ] at h
    have ih := filter_set h h0
    simp only [List.set_cons_succ, List.filter_cons]
    split
    · simp only [List.length_cons]; omega
    · exact ih

theorem cellapart_does (sl fl : Sl) (L F : List Int) {r r2 : HP} {Tt : TypeId} {fr : Nat × Nat} [Has 0 r (.cells deBc Tt fr) r2] (hS : Nums r .u16 sl L) (hF : Nums r .u8 fl F) (hF8 : ∀ x ∈ F, x < 256) :
    Does Tryd.prog 4 #[.slice sl.a sl.n sl.cap, .slice fl.a fl.n fl.cap] r (ret (.bool true) r) := by
  refine F4_fn (sizes_1 := sl) (frees_2 := fl) ?_
  unfold F4
  refine hCall_of (cnew_does 256 3) ?_
  rintro e m' (⟨h1, _⟩ | ⟨C, X0, _, hC0, rfl, ho⟩)
  · omega
  refine ⟨_, ho, _, _, rfl, hCall_ret awake7_does ⟨_, rfl, hIf_false rfl (hIf_false rfl (hIf_neF rfl ?_))⟩⟩
  have hlen := hS.len
  have hle := hS.le
  have hflen := hF.len
  refine hMake_of (by omega) (by omega) (by omega) (by omega) fun b8 => ?_
  rw [make_nat, show (16384 : Int).toNat = 16384 from rfl]
  refine hLoop_of (fun d x m' => ∃ (i : Nat) (s1 s2 : Sl) (l : List Sp) (bs : List Blk) (X : HP) (A : List Int) (Wd O : List Nat) (HA HW : HP), i ≤ L.length ∧ d = L.length - i ∧ x = (s1, s2, (i : Int), ()) ∧ CellAt C 256 3 l bs X ∧
    Own 3 1 intC A s1 HA ∧ Own 3 1 natC Wd s2 HW ∧ Inv4 256 bs A Wd O ∧ Over (X + (HA + (HW + (pt b8 (.cells (rows natC O) 3 (0, 0)) + r)))) m') ?_ ?_
  · refine ⟨_, 0, _, _, [], [], X0, [], [], List.replicate 16384 0, 0, 0, by omega, rfl, rfl, hC0, Own.nil, Own.nil, ⟨rfl, List.length_replicate, by simp, by simp, rfl, fun w o hw ho => ?_⟩, by simp only [HP.zero_add]; exact Over.of _ _⟩
    rw [List.getElem?_replicate] at hw
    split at hw
    · simp only [Option.some.injEq] at hw; exact absurd hw.symm ho
    · cases hw
  rintro d x m' ⟨i, s1, s2, l, bs, X, A, Wd, O, HA, HW, hi, rfl, rfl, hC, hOA, hOW, hI, g, rfl⟩
  refine hAll_of fun _ => ?_
  unfold F4_l8
  dsimp only
  refine hIf_dec (fun h1 => ?_) (fun h1 => ret.mk (Over.of _ _))
  have hi' : i < L.length := by omega
  obtain ⟨INV, hINV⟩ : ∃ INV : Sl × Sl × Unit → HP → Prop, INV = fun s m' => ∃ (s1 s2 : Sl) (l : List Sp) (bs : List Blk) (X : HP) (A : List Int) (Wd O : List Nat) (HA HW : HP), s = (s1, s2, ()) ∧ CellAt C 256 3 l bs X ∧
    Own 3 1 intC A s1 HA ∧ Own 3 1 natC Wd s2 HW ∧ Inv4 256 bs A Wd O ∧ Over (X + (HA + (HW + (pt b8 (.cells (rows natC O) 3 (0, 0)) + r)))) m' := ⟨_, rfl⟩
  have inv : ∀ {s1 s2 : Sl} {l : List Sp} {bs : List Blk} {X : HP} {A : List Int} {Wd O : List Nat} {HA HW m' : HP}, CellAt C 256 3 l bs X → Own 3 1 intC A s1 HA → Own 3 1 natC Wd s2 HW → Inv4 256 bs A Wd O →
      Over (X + (HA + (HW + (pt b8 (.cells (rows natC O) 3 (0, 0)) + r)))) m' → INV (s1, s2, ()) m' := by
    intro s1 s2 l bs X A Wd O HA HW m' h1 h2 h3 h4 h5
    rw [hINV]; exact ⟨s1, s2, l, bs, X, A, Wd, O, HA, HW, rfl, h1, h2, h3, h4, h5⟩
  refine hLet_of INV ?_ ?_
  · clear hINV
    have hL : L[i]? = some L[i] := List.getElem?_eq_getElem hi'
    obtain ⟨ad, hda, hA0⟩ := hS.at_ i _ hL
    obtain ⟨hr0, hr1⟩ := hS.rng _ (List.getElem_mem hi')
    generalize L[i] = v at hA0 hr0 hr1
    have up : ∀ {ad v}, At r ad v → At (X + (HA + (HW + (pt b8 (.cells (rows natC O) 3 (0, 0)) + r))) + g) ad v := fun h => At.sub h
    refine hIdx_any hda (by omega) (by omega) ?_
    rw [Int.toNat_natCast, Nat.mul_one]
    refine hLoad_here (t := .int .u16) (x := v) (up hA0) (hRem_pos hr0 (by omega) (hInt_i64 (by omega) (by omega) (hInt_i64 (by omega) (by omega) ?_)))
    refine hLet_of (fun s m' => ∃ k : Nat, 1 ≤ k ∧ k ≤ 1024 ∧ s = ((k : Int), ()) ∧ m' = X + (HA + (HW + (pt b8 (.cells (rows natC O) 3 (0, 0)) + r))) + g) ?_ ?_
    · refine hRem_pos hr0 (by omega) (hIf_eq (fun _ => ?_) (fun _ => ?_))
      · refine hRem_pos hr0 (by omega) (hInt_i64 (by omega) (by omega) (hInt_i64 (by omega) (by omega) ⟨(v % 1024 + 1).toNat, by omega, by omega, ?_, rfl⟩))
        rw [Int.toNat_of_nonneg (by omega)]
      · refine ⟨(v % 300 + 1).toNat, by omega, by omega, ?_, rfl⟩
        rw [Int.toNat_of_nonneg (by omega)]
    rintro s m' ⟨k, hk1, hk2, rfl, rfl⟩
    refine hAll_of fun _ => ?_
    unfold F4_j13
    dsimp only
    refine hRem_pos (by omega) (by omega) ?_
    have hok : COk 256 3 l bs := by obtain ⟨_, h, _⟩ := hC; exact h.ok
    obtain ⟨hcc, _⟩ := hok.counts (by omega)
    have hAle := hI.le
    refine hCall_of (calloc_does hC _ _) ?_
    rintro e m2 ⟨l2, bs2, v2, e2, X2, hAl, hC2, rfl, ho2⟩
    have hok2 : COk 256 3 l2 bs2 := by obtain ⟨_, h, _⟩ := hC2; exact h.ok
    refine ⟨_, ho2, _, _, rfl, ?_⟩
    rcases hAl.cells hok with ⟨h2, h3, h4, h5, h6⟩ | ⟨rfl, a, x, rfl, h3, h4, h5, h6, h7, h8⟩
    · have e3 := h6 (by omega) (by omega) (by omega) (by omega)
      refine hIf_eqT e3 (inv hC2 hOA hOW ⟨hI.len, hI.olen, fun j a hj => ?_, hI.inj, by rw [hI.cnt, h4], fun w o hw ho => ?_⟩ (Over.of _ _))
      · rcases hI.ent j a hj with ⟨h7, x, h8, h9⟩ | h7
        · exact .inl ⟨h7, x, h8, (h3 _ _).2 h9⟩
        · exact .inr h7
      · obtain ⟨a, x, h7, h8⟩ := hI.own w o hw ho
        exact ⟨a, x, (h3 _ _).2 h7, h8⟩
    refine hIf_eqF (by omega) ?_
    have hxp := h4.pos hok2
    have hxl := h4.le hok2
    refine hCall_of (by obtain ⟨adr, hM, _⟩ := hC2; exact cFind_does hM (a : Int) (by omega)) ?_
    rintro e m3 (⟨h9, _⟩ | ⟨B, kk, ht, rfl, ho3⟩)
    · obtain ⟨B, kk, ht, _⟩ := h4.hit (x := (a : Int)) (by omega) (by omega)
      exact absurd ht (h9 B kk)
    have hsame : B.at_ kk = a ∧ B.words = x := by
      have := UC.apart hok2 ht.uc h4 (x := a) (by have := ht.lo; omega) (by have := ht.hi; omega) (by omega) (by omega)
      exact this
    rw [hsame.1, hsame.2]
    refine ⟨_, ho3, _, _, _, rfl, ?_⟩
    refine hIf_neF rfl (hIf_false rfl (hIf_neF rfl (hIf_neg (by omega) (hIf_neg (by omega) (hInt_i64 (by omega) (by omega) (hIf_neg (by omega) ?_))))))
    have hzero : ∀ w, a ≤ w → w < a + x → O[w]? = some 0 := by
      intro w hw1 hw2
      have hwl : w < O.length := by rw [hI.olen]; omega
      rw [List.getElem?_eq_getElem hwl]
      rcases Nat.eq_zero_or_pos O[w] with h | h
      · rw [h]
      · obtain ⟨a', x', h9, h10, h11⟩ := hI.own w _ (List.getElem?_eq_getElem hwl) (by omega)
        have h12 := UC.apart hok2 ((h6 _ _).2 (.inl h9)) h4 (x := w) h10 h11 hw1 hw2
        rw [h12.1] at h9
        exact absurd h9 (h5 _)
    refine hLoop_of (fun d y m' => ∃ (w : Nat) (O2 : List Nat), a ≤ w ∧ w ≤ a + x ∧ d = a + x - w ∧ y = ((w : Int), ()) ∧ O2.length = 16384 ∧ (∀ y o : Nat, O2[y]? = some o → o ≠ 0 → (a ≤ y ∧ y < a + x) ∨ ∃ a x, UC bs a x ∧ a ≤ y ∧ y < a + x) ∧
      (∀ y, w ≤ y → y < a + x → O2[y]? = some 0) ∧ Over (X2 + (HA + (HW + (pt b8 (.cells (rows natC O2) 3 (0, 0)) + r)))) m') ?_ ?_
    · exact ⟨_, a, O, by omega, by omega, rfl, rfl, hI.olen, fun y o hy ho => .inr (hI.own y o hy ho), hzero, Over.of _ _⟩
    rintro d y m' ⟨w, O2, hw1, hw2, rfl, rfl, hO2l, hO2, hO2z, g3, rfl⟩
    refine hAll_of fun _ => ?_
    unfold F4_l19
    dsimp only
    have hsz : (rows natC O2).size = 16384 := by have := rowsN_size O2; omega
    refine hInt_i64 (by omega) (by omega) (hIf_dec (fun h9 => ?_) (fun h9 => ?_))
    · have ew : 0 + (w : Int).toNat * 1 = w * 1 := by omega
      refine hIdx_of (by omega) (by omega) ?_
      rw [ew]
      refine hLoad_int (x := ((0 : Nat) : Int)) (rowsN rfl (hO2z w (Nat.le_refl _) (by omega))) (hIf_neF rfl (hInt_i64 (by omega) (by omega) ?_))
      refine hIdx_of (by omega) (by omega) ?_
      rw [ew]
      refine hStore_at (by rw [hsz]; omega) ?_
      rw [show ((i : Int) + 1) = ((i + 1 : Nat) : Int) by push_cast; rfl, rowsN_set rfl (hO2z w (Nat.le_refl _) (by omega))]
      refine hInt_i64 (by omega) (by omega) ⟨a + x - (w + 1), by omega, w + 1, O2.set w (i + 1), by omega, by omega, rfl, by rfl, by rw [List.length_set]; exact hO2l, fun y o hy ho => ?_, fun y hy1 hy2 => ?_, Over.of _ _⟩
      · rw [List.getElem?_set] at hy
        split at hy
        · rename_i e; subst e; exact .inl ⟨hw1, by omega⟩
        · exact hO2 y o hy ho
      · rw [List.getElem?_set, if_neg (by omega)]; exact hO2z y (by omega) hy2
    have hwe : w = a + x := by omega
    have hI2 : Inv4 256 bs2 (A ++ [(a : Int)]) (Wd ++ [x]) O2 := by
      refine ⟨by simp [hI.len], hO2l, fun j b hj => ?_, fun p q b hp hq hb => ?_, ?_, fun y o hy ho => ?_⟩
      · rcases Nat.lt_or_ge j A.length with hj2 | hj2
        · rw [List.getElem?_append_left hj2] at hj
          rcases hI.ent j b hj with ⟨h10, x', h11, h12⟩ | h10
          · exact .inl ⟨h10, x', by rw [List.getElem?_append_left (by rw [← hI.len]; exact hj2)]; exact h11, (h6 _ _).2 (.inl h12)⟩
          · exact .inr h10
        · rw [List.getElem?_append_right hj2] at hj
          obtain ⟨h10, h11⟩ := List.getElem?_eq_some_iff.1 hj
          simp only [List.length_singleton] at h10
          have : j = A.length := by omega
          subst this
          simp only [Nat.sub_self, List.getElem_cons_zero] at h11
          subst h11
          exact .inl ⟨by omega, x, by rw [hI.len, List.getElem?_append_right (Nat.le_refl _)]; simp, h4⟩
      · have key : ∀ q, (A ++ [(a : Int)])[q]? = some b → A[q]? = some b ∨ (q = A.length ∧ b = a) := fun q hq => by
          rcases Nat.lt_or_ge q A.length with hj2 | hj2
          · rw [List.getElem?_append_left hj2] at hq; exact .inl hq
          · rw [List.getElem?_append_right hj2] at hq
            obtain ⟨h10, h11⟩ := List.getElem?_eq_some_iff.1 hq
            simp only [List.length_singleton] at h10
            have : q = A.length := by omega
            subst this
            simp only [Nat.sub_self, List.getElem_cons_zero] at h11
            exact .inr ⟨rfl, h11.symm⟩
        have hno : ∀ q, A[q]? = some (a : Int) → False := fun q hq => by
          rcases hI.ent q _ hq with ⟨_, x', _, h12⟩ | ⟨h10, _⟩
          · rw [Int.toNat_natCast] at h12; exact h5 _ h12
          · omega
        rcases key p hp with h10 | ⟨h10, h11⟩ <;> rcases key q hq with h12 | ⟨h12, h13⟩
        · exact hI.inj p q b h10 h12 hb
        · rw [h13] at h10; exact (hno p h10).elim
        · rw [h11] at h12; exact (hno q h12).elim
        · rw [h10, h12]
      · rw [List.filter_append, List.length_append, hI.cnt, h7]
        have e : decide ((0 : Int) ≤ (a : Int)) = true := by simp
        simp only [List.filter_cons, e, if_true, List.filter_nil, List.length_singleton]
      · rcases hO2 y o hy ho with h10 | ⟨a', x', h10, h11⟩
        · exact ⟨a, x, h4, h10⟩
        · exact ⟨a', x', (h6 _ _).2 (.inl h10), h11⟩
    obtain ⟨hcc2, _⟩ := hok2.counts (by omega)
    have hA2le := hI2.le
    rw [List.length_append, List.length_singleton] at hA2le
    refine hNew_of fun b45 => ?_
    refine hAppend_Own hOA (a : Int) intC_len (Row.of (c := #[.int .i64 (a : Int)]) (fun j v hj => by rw [Nat.zero_add]; simpa [intC] using hj)) rfl rfl (by omega) (by omega) (fun s1' HA' r3 hOA' hr3 => ?_)
    obtain ⟨g4, rfl⟩ := hr3
    refine hNew_of fun b47 => ?_
    have hwl := hI.len
    refine hAppend_Own hOW x natC_len (Row.of (c := #[.int .i64 (x : Int)]) (fun j v hj => by rw [Nat.zero_add]; simpa [natC] using hj)) rfl rfl (by omega) (by omega) (fun s2' HW' r4 hOW' hr4 => ?_)
    obtain ⟨g5, rfl⟩ := hr4
    have hn1 := hOA'.len
    have hn2 := hOW'.len
    rw [List.length_append, List.length_singleton] at hn1 hn2
    refine hIf_dec (fun h10 => ?_) (fun h10 => inv hC2 hOA' hOW' hI2 (Over.of _ _))
    refine hIf_dec (fun h11 => ?_) (fun h11 => inv hC2 hOA' hOW' hI2 (Over.of _ _))
    have hiF : i < F.length := by omega
    have hFi : F[i]? = some F[i] := List.getElem?_eq_getElem hiF
    obtain ⟨ad2, hda2, hB0⟩ := hF.at_ i _ hFi
    obtain ⟨hf0, _⟩ := hF.rng _ (List.getElem_mem hiF)
    have hf1 := hF8 _ (List.getElem_mem hiF)
    generalize F[i] = fv at hB0 hf0 hf1
    refine hIdx_any hda2 (by omega) (by omega) ?_
    rw [Int.toNat_natCast, Nat.mul_one]
    refine hLoad_here (t := .int .u8) (x := fv) (At.sub hB0) (hRem_pos hf0 (by omega) (hIf_eq (fun h12 => ?_) (fun h12 => inv hC2 hOA' hOW' hI2 (Over.of _ _))))
    refine hIdx_any hda2 (by omega) (by omega) ?_
    rw [Int.toNat_natCast, Nat.mul_one]
    refine hLoad_here (t := .int .u8) (x := fv) (At.sub hB0) (hInt_i64 (by omega) (by omega) (hRem_pos hf0 (by omega) ?_))
    obtain ⟨fn, rfl⟩ := Int.eq_ofNat_of_zero_le hf0
    obtain ⟨j, hj⟩ : ∃ j : Nat, j = fn % s1'.n := ⟨_, rfl⟩
    have ej : ((fn : Nat) : Int) % ((s1'.n : Nat) : Int) = (j : Int) := by rw [hj]; rfl
    rw [ej]
    have hjn : j < s1'.n := by rw [hj]; exact Nat.mod_lt _ (by omega)
    have hj256 : j < 256 := by have := Nat.mod_le fn s1'.n; omega
    have hjA : j < (A ++ [(a : Int)]).length := by simp; omega
    have hAj : (A ++ [(a : Int)])[j]? = some (A ++ [(a : Int)])[j] := List.getElem?_eq_getElem hjA
    generalize (A ++ [(a : Int)])[j] = q at hAj
    obtain ⟨bA, capA, cA, hsA, hHA, hcA1, hcA2, hcA3⟩ := own1 hOA' intC_len hAj
    have e0 : 0 + (j : Int).toNat * 1 = j := by omega
    have hcA2' : cA[j]? = some (.int .i64 q) := by rw [hcA2]; rfl
    subst hsA hHA
    dsimp only at hjn hn1 ⊢
    refine hIdx_of (by omega) (by omega) (hLoad_int (by rw [e0]; exact hcA2') ?_)
    rcases hI2.ent j q hAj with ⟨hq0, y, hWj, hUq⟩ | ⟨hq, _⟩
    rotate_left
    · subst hq
      exact hIf_pos (by omega) (inv hC2 hOA' hOW' hI2 (Over.of _ _))
    obtain ⟨qn, rfl⟩ := Int.eq_ofNat_of_zero_le hq0
    rw [Int.toNat_natCast] at hUq
    have hyp := hUq.pos hok2
    have hyl := hUq.le hok2
    refine hIf_neg (by omega) (hIdx_of (by omega) (by omega) (hLoad_int (by rw [e0]; exact hcA2') ?_))
    refine hCall_of (cfree_does hC2 _ (by omega)) ?_
    rintro e m4 ⟨l4, bs4, e4, X4, hFr, hC4, rfl, ho4⟩
    rcases hFr.cells hok2 with ⟨_, _, h13⟩ | ⟨rfl, a4, w4, h13, h14, h15, h16, _⟩
    · exact absurd hUq (h13 _ _ rfl)
    obtain rfl : a4 = qn := by omega
    have hok4 : COk 256 3 l4 bs4 := by obtain ⟨_, h, _⟩ := hC4; exact h.ok
    refine ⟨_, ho4, _, rfl, hIf_neF rfl (hIdx_of (by omega) (by omega) (hLoad_int (by rw [e0]; exact hcA2') ?_))⟩
    refine hCall_of (cfree_does hC4 _ (by omega)) ?_
    rintro e m5 ⟨l5, bs5, e5, X5, hFr5, hC5, rfl, ho5⟩
    rcases hFr5.cells hok4 with ⟨rfl, rfl, _⟩ | ⟨_, a5, w5, h17, h18, _⟩
    rotate_left
    · exact absurd (by omega) ((h15 _ _).1 h18).2
    refine ⟨_, ho5, _, rfl, hIf_neF rfl (hIdx_of (by omega) (by omega) (hLoad_int (by rw [e0]; exact hcA2') ?_))⟩
    obtain ⟨bW, capW, cW, hsW, hHW, hcW1, hcW2, hcW3⟩ := own1 hOW' natC_len hWj
    have hcW2' : cW[j]? = some (.int .i64 (y : Int)) := by rw [hcW2]; rfl
    subst hsW hHW
    dsimp only at hn2 ⊢
    refine hLoop_of (fun d z m' => ∃ (w : Nat) (O3 : List Nat), a4 ≤ w ∧ w ≤ a4 + y ∧ d = a4 + y - w ∧ z = ((w : Int), ()) ∧ O3.length = 16384 ∧ (∀ z o : Nat, O3[z]? = some o → o ≠ 0 → (w ≤ z ∧ z < a4 + y) ∨ ∃ a x, UC bs5 a x ∧ a ≤ z ∧ z < a + x) ∧
      Over (X5 + (pt bA (.cells cA 3 (0, 0)) + (pt bW (.cells cW 3 (0, 0)) + (pt b8 (.cells (rows natC O3) 3 (0, 0)) + r)))) m') ?_ ?_
    · refine ⟨_, a4, O2, by omega, by omega, rfl, rfl, hO2l, fun z o hz ho => ?_, Over.of _ _⟩
      obtain ⟨a', x', h19, h20, h21⟩ := hI2.own z o hz ho
      by_cases h22 : a' = a4
      · subst h22
        have := UC.apart hok2 h19 hUq (x := a') (by omega) (by have := h19.pos hok2; omega) (by omega) (by omega)
        exact .inl ⟨h20, by omega⟩
      · exact .inr ⟨a', x', (h15 _ _).2 ⟨h19, h22⟩, h20, h21⟩
    rintro d z m' ⟨w3, O3, hw31, hw32, rfl, rfl, hO3l, hO3, g6, rfl⟩
    refine hAll_of fun _ => ?_
    unfold F4_l32
    dsimp only
    have hsz3 : (rows natC O3).size = 16384 := by have := rowsN_size O3; omega
    refine hIdx_of (by omega) (by omega) (hLoad_int (by rw [e0]; exact hcA2') (hIdx_of (by omega) (by omega) (hLoad_int (by rw [e0]; exact hcW2') (hInt_i64 (by omega) (by omega) ?_))))
    refine hIf_dec (fun h19 => ?_) (fun h19 => ?_)
    · have ew : 0 + (w3 : Int).toNat * 1 = w3 * 1 := by omega
      have hOw : O3[w3]? = some O3[w3] := List.getElem?_eq_getElem (by omega)
      refine hIdx_of (by omega) (by omega) ?_
      rw [ew]
      refine hStore_at (by rw [hsz3]; omega) ?_
      rw [show (0 : Int) = ((0 : Nat) : Int) from rfl, rowsN_set rfl hOw]
      refine hInt_i64 (by omega) (by omega) ⟨a4 + y - (w3 + 1), by omega, w3 + 1, O3.set w3 0, by omega, by omega, rfl, by rfl, by rw [List.length_set]; exact hO3l, fun z o hz ho => ?_, Over.of _ _⟩
      rw [List.getElem?_set] at hz
      split at hz
      · rw [if_pos (by omega)] at hz
        simp only [Option.some.injEq] at hz; exact absurd hz.symm ho
      · rcases hO3 z o hz ho with h20 | h20
        · exact .inl ⟨by omega, h20.2⟩
        · exact .inr h20
    · refine hIdx_of (by omega) (by omega) (hStore_at (by rw [e0]; exact hcA1) ?_)
      rw [e0]
      have hOA3 := hcA3 (-1) (.int .i64 (-1)) rfl
      refine inv hC5 hOA3 hOW' ⟨by rw [List.length_set]; exact hI2.len, hO3l, fun p b hp => ?_, fun p q' b hp hq' hb => ?_, ?_, fun z o hz ho => ?_⟩ (Over.of _ _)
      · rw [List.getElem?_set] at hp
        split at hp
        · rename_i e; subst e
          simp only [Option.some.injEq] at hp
          exact .inr ⟨hp.symm, hj256⟩
        · rename_i hne
          rcases hI2.ent p b hp with ⟨h20, x', h21, h22⟩ | h20
          · refine .inl ⟨h20, x', h21, (h15 _ _).2 ⟨h22, fun e => hne ?_⟩⟩
            exact hI2.inj j p b (by rw [hAj]; congr 1; omega) hp h20
          · exact .inr h20
      · rw [List.getElem?_set] at hp hq'
        split at hp
        · simp only [Option.some.injEq] at hp; omega
        · split at hq'
          · simp only [Option.some.injEq] at hq'; omega
          · exact hI2.inj p q' b hp hq' hb
      · have := filter_set hAj (by omega)
        have h20 := hI2.cnt
        omega
      · rcases hO3 z o hz ho with h20 | h20
        · omega
        · exact h20
  · rw [hINV]
    rintro s m' ⟨s1, s2, l, bs, X, A, Wd, O, HA, HW, rfl, h2⟩
    refine hAll_of fun _ => ?_
    unfold F4_j36
    dsimp only
    exact hInt_i64 (by omega) (by omega) ⟨L.length - (i + 1), by omega, i + 1, s1, s2, l, bs, X, A, Wd, O, HA, HW, by omega, rfl, rfl, h2⟩
end Go.Proofs.YtolfcdjbchdkgaaDoor
/- The row of CellApart and its card. Own work. -/
namespace Go.Proofs.YtolfcdjbchdkgaaDoor
open Go Go.Hp Go.ChangeShapes Go.WideShapes Go.ChangeAt Go.WideMaps Go.WideElems Go.RowKit
set_option maxRecDepth 100000

theorem cellApart_lifted (os : Os) (started : os.Started) (H : Type) (enc : TypeId × Value → H) :
    ReturnsInHanded {} Tryd.checked os 4 .any (fun w args => (Rows.cellApartSpec.pre enc Tryd.prog Tryd.f4 [] false w args ∧ laidMetH Tryd.prog laid1 w) ∧ sizedMet enc Tryd.prog Tryd.f4 (OpenSpec.ofChange Rows.cellApartSpec) false w args)
      (Rows.cellApartSpec.post enc Tryd.prog Tryd.f4 false true false false) := by
  refine returnsInHanded_of_change_and (C := Tryd.checked) (X := fun w _ => laidMetH Tryd.prog laid1 w) (fun _ _ _ hh h => h.of_heap hh) own started (by kernel_rfl) Tryd.func4
    (ChangeSpec.witness_shaped (enc := enc) (C := Tryd.checked) (os := os) (X := fun w _ => laidMetH Tryd.prog laid1 w) false (World.doorLaid Tryd.prog 400 os) #[.slice none 0 0, .slice none 0 0] 8 rfl (World.shaped_of_RefB (by kernel_rfl) (by kernel_rfl)) (by kernel_rfl) (by kernel_rfl) (by kernel_rfl) (door_met os _)) ?_
  intro W base args ds gs before hval0 hW _ _ hL _
  have hval : ∀ (j : Nat) t v, Tryd.f4.params[j]? = some t → args[j]? = some v → Value.okWide Tryd.prog W .any base t v := hval0
  have hW' := hW
  obtain ⟨p, q, hA0, hV, rfl, hfz, hnd⟩ := hW
  have hA : DataW.TrodAll enc Tryd.prog W 0 (fun _ => true) true Tryd.f4.params.toList args.toList ds p := hA0
  rw [Tryd.params4] at hA hval
  obtain ⟨v0, v1, d0, d1, p0, p1, rfl, rfl, rfl, h0, h1⟩ := trodAll_two hA
  obtain ⟨sl, L, rfl, hS, _⟩ := nums_of u53 u59 c59 (.inr rfl) (hval 0 53 v0 rfl rfl) h0
  obtain ⟨fl, F, rfl, hF, _, hF8⟩ := nums8_of u54 u5 c5 (hval 1 54 v1 rfl rfl) h1
  obtain ⟨T, fr, ht⟩ := tab_of_laid hL
  obtain ⟨r, hr⟩ := whole_split ht
  haveI : Has 0 (whole W) (.cells deBc T fr) r := ⟨hr⟩
  refine ((cellapart_does sl fl L F hS hF hF8).2 W (holds_whole W)).mono ?_
  rintro e W' ⟨m', hm, rfl, ho⟩
  refine ⟨_, rfl, post_true (tb := 4) laidOut hW' (hm.kept ho) rfl rfl ?_ (by kernel_rfl) u4⟩
  rw [Tryd.params4]
  exact fun t ht => by
    have hall : ([53, 54].all fun t => Tryd.prog.readableRec t && decide (t < Tryd.prog.types.size)) = true := by kernel_rfl
    simpa using List.all_eq_true.1 hall t (by simpa using ht)

theorem cellApart_holds : Rows.CellApartSaid :=
  OpenClaim.holds_of_wide 4 Tryd.f4 rfl rfl rfl rfl rfl rfl rfl ⟨rfl, rfl, rfl, rfl, rfl⟩ rfl rfl rfl rfl rfl (by kernel_rfl) Tryd.func4 (by kernel_rfl)
    (of_decide_eq_true (by kernel_rfl)) (by unfold Func.isWrapper; first | (rw [if_pos (by decide +kernel)]; kernel_rfl) | (rw [if_neg (by decide +kernel)]; exact ⟨rfl, rfl⟩))
    (fun os started H enc _ => cellApart_lifted os started H enc)

theorem cellApart_card_holds : Rows.CellApartCardSaid :=
  Claim7.holds_tied_plain_at .later [] [.data] true (true, "420b7c9b758b7d467ed3fa79469ec42a709c9575e54d241a0f06166ae375ec92") false
    cellApart_holds (fun _ h => by cases h) (by kernel_rfl) (fun _ h => by cases h) cellApart_row_tie rfl ⟨rfl, rfl⟩ (by kernel_rfl) rfl
    (fun f fn hf hfn => by
      obtain rfl : f = 4 := Option.some.inj ((show Tryd.prog.funcNamed "treadle/treadlelaw07.CellApart" = some 4 by kernel_rfl).symm.trans hf) |>.symm
      obtain rfl : fn = Tryd.f4 := (Option.some.inj (Tryd.func4.symm.trans hfn)).symm
      exact ⟨by kernel_rfl, fun j t ht => by
        rw [Tryd.params4] at ht
        have hm : t ∈ [53, 54] := by simpa using Array.mem_of_getElem? ht
        have hall : ([53, 54].all fun u => !Tryd.prog.wantsStandIn u) = true := by kernel_rfl
        exact (show Tryd.prog.wantsStandIn t = false by simpa using List.all_eq_true.1 hall t hm)⟩)
    (by kernel_rfl)
end Go.Proofs.YtolfcdjbchdkgaaDoor
