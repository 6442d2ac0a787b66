/- Cells: New; a nil room. Own work. -/
import Derived.Test.YtolfcdjbchdkgaaDoorM4
import Derived.Test.YtolfcdjbchdkgaaDoorM2
import Derived.Test.YtolfcdjbchdkgaaDoorM3
import Derived.Test.YtolfcdjbchdkgaaDoorTie
import Derived.Test.YtolfcdjbchdkgaaDoorCards
import Derived.SevenTiedAt
namespace Go.Proofs.YtolfcdjbchdkgaaDoor
open Go Go.Hp
set_option maxRecDepth 100000
attribute [local irreducible] hLoad hStore hNew hInt hQuo hRem hShl hShr hIf hNil hIdx hCut hElem hByte hAppend hMake hCall hYield hGet hPut hDel hNewMap hLoop hLet hAll hRange hRec hEq hCmp bitv W Does HYield

def slC (b : Nat) : List Value := [.slice (some ⟨b, 0, none⟩) 16 16]
theorem slC_len (b : Nat) : (slC b).length = 1 := rfl
theorem make_row (adr : Nat → Nat) : makeCells #[.pointer none] ((16 : Int).toNat * 1) = hrow adr fun _ => none := by
  have := rows_make (f := ptrC adr) (z := none) (by simp [ptrC]) 16
  exact this
def hrowsH (L : List Nat) : HP := sumB (fun b => pt b (.cells (hrow (fun _ => 0) fun _ => none) 102 (0, 0))) L
theorem hrow_none (adr adr' : Nat → Nat) : (hrow adr fun _ => none) = hrow adr' fun _ => none := rfl
theorem hrows_hold (C : CL) (adr : Nat → Nat) (L : List Nat) (hr : ∀ p b, L[p]? = some b → C.hr p = b) : holdH C adr (fun _ _ => none) L.length = hrowsH L := by
  unfold holdH hrowsH
  have e : L = (List.range L.length).map C.hr := by
    apply List.ext_getElem?
    intro i
    rw [List.getElem?_map]
    by_cases hi : i < L.length
    · rw [List.getElem?_range hi, List.getElem?_eq_getElem hi]
      simp only [Option.map_some, Option.some.injEq]
      exact (hr i _ (List.getElem?_eq_getElem hi)).symm
    · rw [List.getElem?_eq_none (by omega), List.getElem?_eq_none (by simpa using hi)]; rfl
  conv => rhs; rw [e]
  rw [sumB_map]
  rfl

theorem cnew_does (pages procs : Int) {m r2 : HP} {Tt : TypeId} {fr : Nat × Nat} [Has 0 m (.cells deBc Tt fr) r2] :
    Does Tryd.prog 21 #[.int .i64 pages, .int .i64 procs] m fun e m' =>
      (¬ ((1 ≤ procs ∧ procs ≤ 8) ∧ 1 ≤ pages ∧ pages ≤ 4096) ∧ ret (.tuple #[.pointer none, .int .i64 1]) m e m') ∨
      ∃ (C : CL) (X : HP), ((1 ≤ procs ∧ procs ≤ 8) ∧ 1 ≤ pages ∧ pages ≤ 4096) ∧ CellAt C pages.toNat procs.toNat [] [] X ∧ ret (.tuple #[.pointer (some ⟨C.c, 0, none⟩), .int .i64 0]) (X + m) e m' := by
  refine F21_fn ?_
  unfold F21
  refine hIf_dec (fun h1 => .inl ⟨by omega, ret.mk (Over.refl _)⟩) (fun h1 => hIf_dec (fun h2 => .inl ⟨by omega, ret.mk (Over.refl _)⟩) (fun h2 => ?_))
  obtain ⟨P, rfl⟩ := Int.eq_ofNat_of_zero_le (a := procs) (by omega)
  refine hCall_of (snew_does pages) ?_
  rintro e m' (⟨h3, rfl, ho⟩ | ⟨T, XT, h3, hT, rfl, ho⟩)
  · exact ⟨_, ho, _, _, rfl, hIf_neT (by omega) (.inl ⟨fun h => h3 h.2, ret.mk (Over.refl _)⟩)⟩
  refine ⟨_, ho, _, _, rfl, hIf_neF rfl (hNewMap_of fun b6 => hNew_of fun b7 => ?_)⟩
  refine hLoop_of (fun d x m' => ∃ (i : Nat) (L : List Nat) (s : Sl) (Hs : HP), i ≤ P ∧ L.length = i ∧ d = P - i ∧ x = ((i : Int), ()) ∧ Own 100 1 slC L s Hs ∧
    Over (pt b7 (.cells #[.pointer (some ⟨T.t, 0, none⟩), .map (some b6), .slice s.a s.n s.cap, .int .i64 0, .int .i64 0] 99 (0, 0)) + (Hs + (hrowsH L + (pt b6 (.map #[] 0) + (XT + m))))) m') ?_ ?_
  · exact ⟨_, 0, [], ⟨none, 0, 0⟩, 0, by omega, rfl, rfl, rfl, Own.nil, by simp only [hrowsH, sumB, HP.zero_add]; exact Over.refl _⟩
  rintro d x m' ⟨i, L, s, Hs, hi, hL, rfl, rfl, hO, g, rfl⟩
  refine hAll_of fun _ => ?_
  unfold F21_l8
  dsimp only
  refine hIf_dec (fun h4 => ?_) (fun h4 => ?_)
  · refine hNil_some (hLoad_add (hLoad_slice (by rfl) ?_))
    refine hCall_ret ccount_does ⟨_, rfl, hLoad_add (hLoad_slice (by rfl) ⟨rfl, ?_⟩)⟩
    refine hMake_of (by omega) (by omega) (by omega) (by omega) fun b16 => ?_
    rw [make_row fun _ => 0]
    refine hLoad_add (hLoad_slice (by rfl) ⟨rfl, hNew_of fun b18 => hLoad_add (hLoad_slice (by rfl) ⟨rfl, ?_⟩)⟩)
    refine hAppend_Own hO b16 slC_len (Row.of (c := #[.slice (some ⟨b16, 0, none⟩) 16 16]) (fun j v hj => by rw [Nat.zero_add]; simpa [slC] using hj)) rfl rfl (by omega) (by omega) (fun s2 H2 r2 hO2 hr2 => ?_)
    obtain ⟨g2, rfl⟩ := hr2
    refine hNil_some (hStore_add (hStore_at (by simp) ?_))
    refine hInt_i64 (by omega) (by omega) ⟨P - (i + 1), by omega, i + 1, L ++ [b16], s2, H2, by omega, by simp [hL], rfl, rfl, hO2, ?_⟩
    have e : hrowsH (L ++ [b16]) = hrowsH L + pt b16 (.cells (hrow (fun _ => 0) fun _ => none) 102 (0, 0)) := by
      unfold hrowsH; rw [sumB_append]; simp only [sumB, HP.add_zero]
    rw [e]
    simp only [List.setIfInBounds_toArray, Nat.zero_add, List.set_cons_succ, List.set_cons_zero]
    exact Over.of _ _
  · obtain rfl : i = P := by omega
    rcases hO with ⟨_, hL0, _⟩ | ⟨hb, cap, c, rfl, hc1, hc2, hc3, rfl⟩
    · rw [hL0] at hL; simp at hL; omega
    obtain ⟨C, hC⟩ : ∃ C : CL, C = ⟨b7, T, b6, hb, fun p => L.getD p 0⟩ := ⟨_, rfl⟩
    have hhr : ∀ p b, L[p]? = some b → C.hr p = b := fun p b hp => by rw [hC]; simp only; rw [List.getD_eq_getElem?_getD, hp]; rfl
    have hnle : pages.toNat ≤ 4096 := by omega
    refine .inr ⟨C, cellX C (fun _ => 0) i [] (cellsT [] : Nat) (wordsT [] : Nat) XT #[] 0 c cap (fun _ _ => none), by omega, ⟨fun _ => 0, ⟨[], XT, #[], 0, c, cap, fun _ _ => none, ⟨⟨hT.lok, by simp, by simp, by simp, by simp, by simp, by simp⟩, hnle, by omega, by rw [hC]; exact hT, rfl, MapIs.empty _, ?_, ?_⟩, rfl⟩, fun B hB => by simp at hB⟩, ret.eq (by rw [hC]) ?_⟩
    · intro p hp
      have hp' : p < L.length := by rw [Int.toNat_natCast] at hp; omega
      have := hc3 p (by omega)
      rw [show p = p * 1 + 0 by omega, flatMap_get slC_len (by omega), List.getElem?_eq_getElem hp'] at this
      rw [hhr p _ (List.getElem?_eq_getElem hp')]
      simpa [slC] using this
    · intro p c b hp hc
      simp
    · unfold cellX headC
      rw [← hL, hrows_hold C _ L hhr, hC, show ((cellsT [] : Nat) : Int) = 0 from rfl, show ((wordsT [] : Nat) : Int) = 0 from rfl]
      simp only [sumB, HP.add_zero]
      exact Over.of _ _

theorem nil_alloc (p w : Int) {m : HP} : Does Tryd.prog 23 #[.pointer none, .int .i64 p, .int .i64 w] m (ret (.tuple #[.int .i64 0, .int .i64 5]) m) := by
  refine F23_fn ?_; unfold F23; exact hIf_true rfl (ret.mk (Over.refl _))
theorem nil_find (a : Int) {m : HP} : Does Tryd.prog 24 #[.pointer none, .int .i64 a] m (ret (.tuple #[.int .i64 0, .int .i64 0, .bool false]) m) := by
  refine F24_fn ?_; unfold F24
  refine hCall_ret (v := .tuple #[.pointer none, .int .i64 0, .bool false]) (M := m) ?_ ⟨_, _, _, rfl, hIf_true rfl (ret.mk (Over.refl _))⟩
  refine F52_fn ?_; unfold F52; exact hIf_true rfl (ret.mk (Over.refl _))
theorem nil_pages (a : Int) {m : HP} : Does Tryd.prog 34 #[.pointer none, .int .i64 a] m (ret (.tuple #[.int .i64 0, .int .i64 5]) m) := by
  refine F34_fn ?_; unfold F34; exact hIf_true rfl (ret.mk (Over.refl _))
theorem nil_free (a : Int) {m : HP} : Does Tryd.prog 25 #[.pointer none, .int .i64 a] m (ret (.int .i64 5) m) := by
  refine F25_fn ?_; unfold F25; exact hIf_true rfl (ret.mk (Over.refl _))
theorem nil_flush (a : Int) {m : HP} : Does Tryd.prog 33 #[.pointer none, .int .i64 a] m (ret (.int .i64 5) m) := by
  refine F33_fn ?_; unfold F33; exact hIf_true rfl (ret.mk (Over.refl _))
theorem nil_give (a : Int) {m : HP} : Does Tryd.prog 35 #[.pointer none, .int .i64 a] m (ret (.int .i64 5) m) := by
  refine F35_fn ?_; unfold F35; exact hIf_true rfl (ret.mk (Over.refl _))
theorem nil_used (a : Int) {m : HP} : Does Tryd.prog 30 #[.pointer none, .int .i64 a] m (ret (.bool false) m) := by
  refine F30_fn ?_; unfold F30; exact hIf_true rfl (ret.mk (Over.refl _))
end Go.Proofs.YtolfcdjbchdkgaaDoor
/- Cells: awake. Own work. -/
namespace Go.Proofs.YtolfcdjbchdkgaaDoor
open Go Go.Hp
set_option maxRecDepth 100000
attribute [local irreducible] hLoad hStore hNew hInt hQuo hRem hShl hShr hIf hNil hIdx hCut hElem hByte hAppend hMake hCall hYield hGet hPut hDel hNewMap hLoop hLet hAll hRange hRec hEq hCmp bitv W Does HYield

section
variable {n P : Nat} {l : List Sp} {bs : List Blk}
def Blk.onPage (B : Blk) (p : Nat) : Prop := B.base ≤ p ∧ p < B.base + B.pages
theorem COk.UL_iff (hk : COk n P l bs) {p : Nat} : UL n l p = true ↔ n ≤ p ∨ ∃ B ∈ bs, B.onPage p := by
  rw [YtolfcdjbchdkgaaDoor.UL_iff]
  constructor
  · rintro (h | ⟨s, hs, h⟩)
    · exact .inl h
    · obtain ⟨B, hB, e⟩ := hk.cov s hs
      have h1 := hk.sp hB
      have h2 := (hk.lok.pos s hs).1
      have h3 := (hk.bok B hB).pos
      have := hk.lok.apart hs h1 (p := s.base) ⟨Nat.le_refl _, by omega⟩ ⟨by simp only; omega, by simp only; omega⟩
      subst this
      exact .inr ⟨B, hB, h⟩
  · rintro (h | ⟨B, hB, h⟩)
    · exact .inl h
    · exact .inr ⟨_, hk.sp hB, h⟩
theorem COk.free_iff (hk : COk n P l bs) {p : Nat} : UL n l p = false ↔ p < n ∧ ∀ B ∈ bs, ¬ B.onPage p := by
  rw [← Bool.not_eq_true, hk.UL_iff]
  constructor
  · intro h
    exact ⟨by rcases Nat.lt_or_ge p n with h1 | h1
              · exact h1
              · exact absurd (.inl h1) h, fun B hB hp => h (.inr ⟨B, hB, hp⟩)⟩
  · rintro ⟨h1, h2⟩ (h3 | ⟨B, hB, h3⟩)
    · omega
    · exact h2 B hB h3
theorem COk.used_iff (hk : COk n P l bs) {p : Int} : (findS l p).isSome = true ↔ ∃ B ∈ bs, (B.base : Int) ≤ p ∧ p < B.base + B.pages := by
  constructor
  · intro h
    obtain ⟨s, hs⟩ := Option.isSome_iff_exists.1 h
    obtain ⟨h1, h2, h3⟩ := findS_mem hs
    have h4 : UL n l p.toNat = true := YtolfcdjbchdkgaaDoor.UL_iff.2 (.inr ⟨s, h1, by omega, by omega⟩)
    have h5 := hk.lok.pos s h1
    rcases hk.UL_iff.1 h4 with h6 | ⟨B, hB, h6, h7⟩
    · omega
    · exact ⟨B, hB, by omega, by omega⟩
  · rintro ⟨B, hB, h1, h2⟩
    have := findS_eq hk.lok (hk.sp hB) (p := p.toNat) ⟨by simp only; omega, by simp only; omega⟩
    rw [show ((p.toNat : Nat) : Int) = p by omega] at this
    rw [this]; rfl
theorem isOf3 : IsOf 3 2 := ⟨by omega, by decide, by
  intro i hi
  have : i = 0 ∨ i = 1 := by omega
  rcases this with rfl | rfl <;> decide⟩

/-- A small cell, taken. -/
theorem AllocR.small {p w : Int} {bs' : List Blk} {v e : Int} {c : Nat} (h : AllocR n P l bs p w bs' v e) (hp : 0 ≤ p) (hp2 : p < P) (hw : 1 ≤ w) (hw2 : w ≤ 64) (hc : IsOf w.toNat c) :
    ∃ l' bs1 o, TakeR n l bs p.toNat c l' bs1 o ∧ ((o = none ∧ bs' = bs1 ∧ v = 0 ∧ e = 3) ∨ ∃ B k, B ∈ bs1 ∧ o = some B.base ∧ IsFree B k ∧ bs' = upd bs1 B.base (fun D => { D with used := setb B.used k }) ∧ v = (B.at_ k : Nat) ∧ e = 0) := by
  rcases h with ⟨h, _⟩ | ⟨_, h, _⟩ | ⟨_, _, h, _⟩ | ⟨_, _, h, _⟩ | ⟨_, _, c', l', bs1, o, h1, h2, h3⟩
  · omega
  · omega
  · omega
  · omega
  · obtain rfl := h1.uniq hc
    exact ⟨l', bs1, o, h2, h3⟩
theorem first_uniq {c a b : Nat} (h : First (UL n l) c a) (hb : Free (UL n l) b (b + c)) (hn : ∀ x, x < b → ¬ Free (UL n l) x (x + c)) : a = b := First.uniq h ⟨hb, hn⟩
end

def blk1 (u : BitVec 64) : Blk := ⟨0, 1, 2, u, some 0⟩
def blk2 (u : BitVec 64) : Blk := ⟨1, 1, 2, u, some 1⟩
theorem c21 : Blk.cells ⟨0, 1, 2, 0#64, some 0⟩ = 21 := rfl

theorem awake7_does {m r : HP} {Tt : TypeId} {fr : Nat × Nat} [Has 0 m (.cells deBc Tt fr) r] : Does Tryd.prog 22 #[] m (ret (.bool true) m) := by
  refine F22_fn ?_
  unfold F22
  refine hCall_of (cnew_does 8 2) ?_
  rintro e m' (⟨h, _⟩ | ⟨C, X, _, hC, rfl, ho⟩)
  · omega
  refine ⟨_, ho, _, _, rfl, hIf_false rfl (hIf_neF rfl ?_)⟩
  refine hCall_of (calloc_does hC 0 3) ?_
  rintro e m1 ⟨l1, bs1, v1, e1, X1, hA1, hC1, rfl, ho1⟩
  refine ⟨_, ho1, _, _, rfl, ?_⟩
  refine hCall_of (calloc_does hC1 0 3) ?_
  rintro e m2 ⟨l2, bs2, v2, e2, X2, hA2, hC2, rfl, ho2⟩
  refine ⟨_, ho2, _, _, rfl, ?_⟩
  refine hCall_of (calloc_does hC2 1 3) ?_
  rintro e m3 ⟨l3, bs3, v3, e3, X3, hA3, hC3, rfl, ho3⟩
  refine ⟨_, ho3, _, _, rfl, ?_⟩
  have ok0 : COk 8 2 [] [] := by obtain ⟨_, h, _⟩ := hC; exact h.ok
  have ok1 : COk 8 2 l1 bs1 := by obtain ⟨_, h, _⟩ := hC1; exact h.ok
  have ok2 : COk 8 2 l2 bs2 := by obtain ⟨_, h, _⟩ := hC2; exact h.ok
  have ok3 : COk 8 2 l3 bs3 := by obtain ⟨_, h, _⟩ := hC3; exact h.ok
  have w3 : wordsN 2 = 3 := rfl
  -- the first cell
  have s1 : bs1 = [blk1 (setb 0#64 0)] ∧ v1 = 0 ∧ e1 = 0 := by
    obtain ⟨l', b', o, hT, hrest⟩ := hA1.small (c := 2) (by omega) (by decide) (by omega) (by omega) isOf3
    have hT' : o = some 0 ∧ b' = [blk1 0#64] := by
      rcases hT with ⟨B, hB, _⟩ | ⟨_, ⟨B, hB, _⟩ | ⟨_, hN, _⟩ | ⟨_, a, hF, _, rfl, rfl⟩⟩
      · simp at hB
      · have := hB.1; simp [release] at this
      · exact absurd (fun p h1 h2 => ok0.free_iff.2 ⟨by have : pagesN 2 = 1 := rfl; omega, by simp⟩) (hN 0)
      · have := first_uniq (b := 0) hF (fun p h1 h2 => ok0.free_iff.2 ⟨by have : pagesN 2 = 1 := rfl; omega, by simp⟩) (fun x hx => by omega)
        subst this; exact ⟨rfl, rfl⟩
    obtain ⟨rfl, rfl⟩ := hT'
    rcases hrest with ⟨h, _⟩ | ⟨B, k, hB, _, hF, rfl, rfl, rfl⟩
    · cases h
    · rw [List.mem_singleton] at hB; subst hB
      have := hF.uniq (j := 0) ⟨by decide, by decide, fun i hi => by omega⟩
      subst this
      exact ⟨rfl, rfl, rfl⟩
  obtain ⟨rfl, rfl, rfl⟩ := s1
  have s2 : bs2 = [blk1 (setb (setb 0#64 0) 1)] ∧ v2 = 3 ∧ e2 = 0 := by
    obtain ⟨l', b', o, hT, hrest⟩ := hA2.small (c := 2) (by omega) (by decide) (by omega) (by omega) isOf3
    have hT' : o = some 0 ∧ b' = [blk1 (setb 0#64 0)] := by
      rcases hT with ⟨B, hB, _, _, _, _, rfl, rfl⟩ | ⟨hfull, _⟩
      · rw [List.mem_singleton] at hB; subst hB; exact ⟨rfl, rfl⟩
      · have := hfull _ (List.mem_singleton.2 rfl) rfl rfl 1 (by decide)
        exact absurd this (by decide)
    obtain ⟨rfl, rfl⟩ := hT'
    rcases hrest with ⟨h, _⟩ | ⟨B, k, hB, _, hF, rfl, rfl, rfl⟩
    · cases h
    · rw [List.mem_singleton] at hB; subst hB
      have := hF.uniq (j := 1) ⟨by decide, by decide, fun i hi => by rw [show i = 0 by omega]; decide⟩
      subst this
      exact ⟨rfl, rfl, rfl⟩
  obtain ⟨rfl, rfl, rfl⟩ := s2
  have s3 : bs3 = [blk1 (setb (setb 0#64 0) 1), blk2 (setb 0#64 0)] ∧ v3 = 64 ∧ e3 = 0 := by
    obtain ⟨l', b', o, hT, hrest⟩ := hA3.small (c := 2) (by omega) (by decide) (by omega) (by omega) isOf3
    have hrel : release [blk1 (setb (setb 0#64 0) 1)] 1 ((2 : Nat) : Int) = [blk1 (setb (setb 0#64 0) 1)] := rfl
    have hT' : o = some 1 ∧ b' = [blk1 (setb (setb 0#64 0) 1), blk2 0#64] := by
      rcases hT with ⟨B, hB, hh, _⟩ | ⟨_, ⟨B, hB, _⟩ | ⟨_, hN, _⟩ | ⟨_, a, hF, _, rfl, rfl⟩⟩
      · rw [List.mem_singleton] at hB; subst hB; cases hh
      · have h1 := hB.1; have h2 := hB.2.1.2.1
        rw [show (1 : Int).toNat = 1 from rfl, hrel, List.mem_singleton] at h1; subst h1; cases h2
      · refine absurd (fun p h1 h2 => ok2.free_iff.2 ⟨by have : pagesN 2 = 1 := rfl; omega, fun B hB => ?_⟩) (hN 1)
        rw [List.mem_singleton] at hB; subst hB
        unfold Blk.onPage blk1; simp only; omega
      · have := first_uniq (b := 1) hF (fun p h1 h2 => ok2.free_iff.2 ⟨by have : pagesN 2 = 1 := rfl; omega, fun B hB => by
          rw [List.mem_singleton] at hB; subst hB
          unfold Blk.onPage blk1; simp only; omega⟩) (fun x hx hf => by
            have h := hf x (by omega) (by have : pagesN 2 = 1 := rfl; omega)
            exact (ok2.free_iff.1 h).2 _ (List.mem_singleton.2 rfl) (by unfold Blk.onPage blk1; simp only; omega))
        subst this; exact ⟨rfl, rfl⟩
    obtain ⟨rfl, rfl⟩ := hT'
    rcases hrest with ⟨h, _⟩ | ⟨B, k, hB, hb, hF, rfl, rfl, rfl⟩
    · cases h
    · have hB2 : B = blk2 0#64 := by
        simp only [List.mem_cons, List.not_mem_nil, or_false] at hB
        rcases hB with rfl | rfl
        · simp [blk1] at hb
        · rfl
      subst hB2
      have := hF.uniq (j := 0) ⟨by decide, by decide, fun i hi => by omega⟩
      subst this
      exact ⟨rfl, rfl, rfl⟩
  obtain ⟨rfl, rfl, rfl⟩ := s3
  obtain ⟨adr, hM, hl⟩ := hC3
  refine hCall_of (cFind_does hM 5 (by omega)) ?_
  have hhit : Hit [blk1 (setb (setb 0#64 0) 1), blk2 (setb 0#64 0)] 5 (blk1 (setb (setb 0#64 0) 1)) 1 := ⟨by simp, by decide, by decide, by decide⟩
  rintro e m4 (⟨h, _⟩ | ⟨B, k, ht, rfl, ho4⟩)
  · exact absurd hhit (h _ _)
  obtain ⟨rfl, rfl⟩ := ht.uniq ok3 hhit
  refine ⟨_, ho4, _, _, _, rfl, ?_⟩
  refine hIf_true rfl (hIf_true rfl (hIf_true rfl (hIf_true rfl (hIf_true rfl (hIf_true rfl (hIf_true rfl (hIf_true rfl (hIf_true rfl ?_))))))))
  have hu1 : (findS l3 1).isSome = true := ok3.used_iff.2 ⟨blk2 (setb 0#64 0), by simp, by decide, by decide⟩
  have hu2 : (findS l3 2).isSome = false := by
    rw [← Bool.not_eq_true, ok3.used_iff]
    rintro ⟨B, hB, h1, h2⟩
    simp only [List.mem_cons, List.not_mem_nil, or_false] at hB
    rcases hB with rfl | rfl
    · unfold blk1 at h2; simp at h2
    · unfold blk2 at h2; simp at h2
  refine hCall_ret (cUsed_does hM 1) ⟨_, rfl, hIf_true hu1 (hCall_ret (cUsed_does hM 2) ⟨_, rfl, ?_⟩)⟩
  rw [hu2]
  exact ret.mk (Over.of _ _)
end Go.Proofs.YtolfcdjbchdkgaaDoor
/- Cells that are used: what Alloc, Free and Flush do to them (no program). Own work. -/
namespace Go.Proofs.YtolfcdjbchdkgaaDoor
open Go Go.Hp
set_option maxRecDepth 100000

/-- A used cell: where it begins, its words. -/
def UC (bs : List Blk) (a w : Nat) : Prop := ∃ B ∈ bs, ∃ k, B.bit k = true ∧ a = B.at_ k ∧ w = B.words
def NoPages (bs : List Blk) : Prop := ∀ B ∈ bs, B.cls ≠ -2

section
variable {n P : Nat} {l : List Sp} {bs : List Blk}
theorem UC.hit {a w : Nat} {x : Int} (h : UC bs a w) (h1 : (a : Int) ≤ x) (h2 : x < (a + w : Nat)) : ∃ B k, Hit bs x B k ∧ a = B.at_ k ∧ w = B.words := by
  obtain ⟨B, hB, k, hk, rfl, rfl⟩ := h
  exact ⟨B, k, ⟨hB, hk, h1, h2⟩, rfl, rfl⟩
theorem Hit.uc {x : Int} {B : Blk} {k : Nat} (h : Hit bs x B k) : UC bs (B.at_ k) B.words := ⟨B, h.mem, k, h.bit, rfl, rfl⟩
theorem UC.apart (hk : COk n P l bs) {a w a' w' : Nat} (h : UC bs a w) (h' : UC bs a' w') {x : Nat} (h1 : a ≤ x) (h2 : x < a + w) (h3 : a' ≤ x) (h4 : x < a' + w') : a = a' ∧ w = w' := by
  obtain ⟨B, k, ht, rfl, rfl⟩ := h.hit (x := (x : Int)) (by omega) (by omega)
  obtain ⟨B', k', ht', rfl, rfl⟩ := h'.hit (x := (x : Int)) (by omega) (by omega)
  obtain ⟨rfl, rfl⟩ := ht.uniq hk ht'
  exact ⟨rfl, rfl⟩
theorem UC.pos (hk : COk n P l bs) {a w : Nat} (h : UC bs a w) : 1 ≤ w := by
  obtain ⟨B, hB, k, hbk, rfl, rfl⟩ := h
  exact Blk.words_pos (hk.bok B hB)
theorem UC.le (hk : COk n P l bs) {a w : Nat} (h : UC bs a w) : a + w ≤ n * 64 := by
  obtain ⟨B, hB, k, hbk, rfl, rfl⟩ := h
  have hb := hk.bok B hB
  have h1 := hb.bit_lt hbk
  have h2 := Blk.room hb
  have h3 := hk.pages_le hB
  have h4 := Nat.mul_le_mul_right B.words (show k + 1 ≤ B.cells by omega)
  rw [Nat.add_mul] at h4
  unfold Blk.at_
  omega

theorem TakeR.ok (hk : COk n P l bs) {p c : Nat} (hp : p < P) (hc : c < 16) {l' : List Sp} {bs' : List Blk} {o : Option Nat} (h : TakeR n l bs p c l' bs' o) : COk n P l' bs' := by
  have hw := words_facts hc
  have hr := hk.release p (c : Int)
  rcases h with ⟨B, hB, h1, h2, h3, rfl, rfl, h4⟩ | ⟨hf, ⟨B, hB, rfl, rfl, h4⟩ | ⟨_, _, rfl, rfl, h4⟩ | ⟨_, a, hF, rfl, rfl, h4⟩⟩
  · exact hk
  · exact hr.hold hB.1 hp (by rw [hB.2.1.1]; omega) fun D hD e1 e2 => (release_no D hD e1 (by rw [e2, hB.2.1.1])).elim
  · exact hr
  · refine hr.add (N := ⟨a, pagesN c, (c : Int), 0#64, some p⟩) hF ⟨.inr (.inr ⟨by simp only; omega, by simp only; omega, by simp⟩), by simp only; omega, fun i _ => by unfold Blk.bit; simp, fun q hq => ?_⟩ (fun D hD q hq e1 e2 => ?_)
    · simp only [Option.some.injEq] at hq; subst hq; exact ⟨hp, by simp only; omega⟩
    · simp only [Option.some.injEq] at hq; subst hq; exact release_no D hD e1 e2
theorem uc_map {g : Blk → Blk} (hg : ∀ B ∈ bs, (g B).base = B.base ∧ (g B).pages = B.pages ∧ (g B).cls = B.cls ∧ (g B).used = B.used) (a w : Nat) : UC (bs.map g) a w ↔ UC bs a w := by
  have e : ∀ B ∈ bs, (∀ k, (g B).bit k = B.bit k) ∧ (g B).words = B.words ∧ ∀ k, (g B).at_ k = B.at_ k := fun B hB => by
    obtain ⟨e1, e2, e3, e4⟩ := hg B hB
    have ew : (g B).words = B.words := by unfold Blk.words; rw [e3, e2]
    exact ⟨fun k => by unfold Blk.bit; rw [e4], ew, fun k => by unfold Blk.at_; rw [e1, ew]⟩
  constructor
  · rintro ⟨D, hD, k, h1, h2, h3⟩
    obtain ⟨B, hB, rfl⟩ := List.mem_map.1 hD
    obtain ⟨e1, e2, e3⟩ := e B hB
    exact ⟨B, hB, k, by rw [← e1]; exact h1, by rw [← e3]; exact h2, by rw [← e2]; exact h3⟩
  · rintro ⟨B, hB, k, h1, h2, h3⟩
    obtain ⟨e1, e2, e3⟩ := e B hB
    exact ⟨g B, List.mem_map.2 ⟨B, hB, rfl⟩, k, by rw [e1]; exact h1, by rw [e3]; exact h2, by rw [e2]; exact h3⟩
theorem uc_release {p : Nat} {c : Int} (a w : Nat) : UC (release bs p c) a w ↔ UC bs a w := uc_map (fun B _ => by split <;> exact ⟨rfl, rfl, rfl, rfl⟩) a w
theorem uc_hold {b : Nat} {h : Option Nat} (a w : Nat) : UC (upd bs b fun D => { D with holder := h }) a w ↔ UC bs a w := uc_map (fun B _ => by split <;> exact ⟨rfl, rfl, rfl, rfl⟩) a w
theorem uc_append {b1 b2 : List Blk} (a w : Nat) : UC (b1 ++ b2) a w ↔ UC b1 a w ∨ UC b2 a w := by
  unfold UC
  constructor
  · rintro ⟨B, hB, h⟩
    rcases List.mem_append.1 hB with hB | hB
    · exact .inl ⟨B, hB, h⟩
    · exact .inr ⟨B, hB, h⟩
  · rintro (⟨B, hB, h⟩ | ⟨B, hB, h⟩)
    · exact ⟨B, List.mem_append.2 (.inl hB), h⟩
    · exact ⟨B, List.mem_append.2 (.inr hB), h⟩
theorem TakeR.uc {p c : Nat} {l' : List Sp} {bs' : List Blk} {o : Option Nat} (h : TakeR n l bs p c l' bs' o) (a w : Nat) : UC bs' a w ↔ UC bs a w := by
  rcases h with ⟨B, hB, h1, h2, h3, rfl, rfl, h4⟩ | ⟨hf, ⟨B, hB, rfl, rfl, h4⟩ | ⟨_, _, rfl, rfl, h4⟩ | ⟨_, b, hF, rfl, rfl, h4⟩⟩
  · exact Iff.rfl
  · rw [uc_hold, uc_release]
  · rw [uc_release]
  · rw [uc_append, uc_release]
    constructor
    · rintro (h | ⟨B, hB, k, h1, _⟩)
      · exact h
      · rw [List.mem_singleton] at hB; subst hB; unfold Blk.bit at h1; simp at h1
    · exact .inl
theorem TakeR.noPages {p c : Nat} {l' : List Sp} {bs' : List Blk} {o : Option Nat} (h : TakeR n l bs p c l' bs' o) (hn : NoPages bs) : NoPages bs' := by
  have hr : NoPages (release bs p c) := fun B hB => by
    obtain ⟨D, hD, rfl⟩ := List.mem_map.1 hB
    split <;> exact hn D hD
  rcases h with ⟨B, hB, h1, h2, h3, rfl, rfl, h4⟩ | ⟨hf, ⟨B, hB, rfl, rfl, h4⟩ | ⟨_, _, rfl, rfl, h4⟩ | ⟨_, b, hF, rfl, rfl, h4⟩⟩
  · exact hn
  · intro D hD
    obtain ⟨D', hD', rfl⟩ := List.mem_map.1 hD
    split <;> exact hr D' hD'
  · exact hr
  · intro D hD
    rcases List.mem_append.1 hD with hD | hD
    · exact hr D hD
    · rw [List.mem_singleton] at hD; subst hD; simp only; omega

theorem AllocR.cells (hk : COk n P l bs) {p w : Int} {bs' : List Blk} {v e : Int} (h : AllocR n P l bs p w bs' v e) :
    (e ≠ 0 ∧ (∀ a x, UC bs' a x ↔ UC bs a x) ∧ cellsT bs' = cellsT bs ∧ (NoPages bs → NoPages bs') ∧ (0 ≤ p → p < P → 1 ≤ w → w ≤ 1024 → e = 3)) ∨
    (e = 0 ∧ ∃ a x : Nat, v = a ∧ w ≤ x ∧ UC bs' a x ∧ (∀ y, ¬ UC bs a y) ∧ (∀ a' x', UC bs' a' x' ↔ UC bs a' x' ∨ (a' = a ∧ x' = x)) ∧ cellsT bs' = cellsT bs + 1 ∧ (NoPages bs → NoPages bs')) := by
  rcases h with ⟨h1, rfl, rfl, rfl⟩ | ⟨_, h1, rfl, rfl, rfl⟩ | ⟨_, _, _, _, rfl, rfl, rfl⟩ | ⟨h1, h2, h3, a, hF, rfl, rfl, rfl⟩ | ⟨h1, h2, c, l', bs1, o, hof, hT, hrest⟩
  · exact .inl ⟨by decide, fun _ _ => Iff.rfl, rfl, id, fun _ _ _ _ => by omega⟩
  · exact .inl ⟨by decide, fun _ _ => Iff.rfl, rfl, id, fun _ _ _ _ => by omega⟩
  · exact .inl ⟨by decide, fun _ _ => Iff.rfl, rfl, id, fun _ _ _ _ => rfl⟩
  · obtain ⟨N, hN⟩ : ∃ N : Blk, N = ⟨a, (w.toNat + 63) / 64, -1, 1#64, none⟩ := ⟨_, rfl⟩
    have hb : ∀ k, N.bit k = true ↔ k = 0 := fun k => by
      rw [hN]; unfold Blk.bit; simp only
      rw [show (1#64) = BitVec.twoPow 64 0 from rfl, BitVec.getLsbD_twoPow]; simp; omega
    have hw : N.words = (w.toNat + 63) / 64 * 64 := by rw [hN]; rfl
    have hat : N.at_ 0 = a * 64 := by rw [hN]; unfold Blk.at_; simp
    have hu : ∀ a' x', UC [N] a' x' ↔ (a' = a * 64 ∧ x' = N.words) := fun a' x' => by
      constructor
      · rintro ⟨B, hB, k, k1, k2, k3⟩
        rw [List.mem_singleton] at hB; subst hB
        rw [hb] at k1; subst k1
        exact ⟨by rw [k2, hat], k3⟩
      · rintro ⟨rfl, rfl⟩
        exact ⟨N, List.mem_singleton.2 rfl, 0, (hb 0).2 rfl, hat.symm, rfl⟩
    rw [← hN]
    refine .inr ⟨rfl, a * 64, N.words, rfl, by rw [hw]; omega, by rw [uc_append, hu]; exact .inr ⟨rfl, rfl⟩, fun y hy => ?_, fun a' x' => by rw [uc_append, hu], ?_, fun hn B hB => ?_⟩
    · have hy1 := hy.pos hk
      obtain ⟨B, k, ht, _, _⟩ := hy.hit (x := ((a * 64 : Nat) : Int)) (by omega) (by omega)
      have hh := ht.has hk
      unfold Blk.has at hh
      have hp : 1 ≤ (w.toNat + 63) / 64 := by omega
      exact hF.apart (hk.sp ht.mem) (p := a) (Nat.le_refl _) (by omega) ⟨by simp only; omega, by simp only; omega⟩
    · unfold cellsT
      rw [List.map_append, List.sum_append]
      have : cntT N.bit 64 = 1 := by rw [hN]; show cntT (1#64).getLsbD 64 = 1; decide +kernel
      simp [this]
    · rcases List.mem_append.1 hB with hB | hB
      · exact hn B hB
      · rw [List.mem_singleton] at hB; subst hB; rw [hN]; simp
  · have hp : p.toNat < P := by omega
    have hok := hT.ok hk hp hof.1
    obtain ⟨s1, _⟩ := hT.sums
    rcases hrest with ⟨rfl, rfl, rfl, rfl⟩ | ⟨B, k, hB, rfl, hF, rfl, rfl, rfl⟩
    · exact .inl ⟨by decide, fun a x => hT.uc a x, s1, hT.noPages, fun _ _ _ _ => rfl⟩
    · obtain ⟨B', hB', e1, e2, e3, e4⟩ := hT.block hof.1
      obtain rfl := hok.base_inj hB' hB e1
      have hbk := hok.bok B' hB
      have h64 : k < 64 := by have := Blk.cells_le hbk; have := hF.1; omega
      have hwords : B'.words = wordsN c := by unfold Blk.words; rw [if_neg (by omega), e2]; rfl
      have hnew : ∀ y, ¬ UC bs1 (B'.at_ k) y := fun y hy => by
        have hy1 := hy.pos hok
        obtain ⟨D, j, ht, h5, _⟩ := hy.hit (x := ((B'.at_ k : Nat) : Int)) (by omega) (by omega)
        have hw1 := Blk.words_pos hbk
        have hhas : B'.has ((B'.at_ k : Nat) : Int) := by
          have h6 := Blk.room hbk
          have h7 := Nat.mul_le_mul_right B'.words (show k + 1 ≤ B'.cells by have := hF.1; omega)
          rw [Nat.add_mul] at h7
          unfold Blk.has Blk.at_; omega
        obtain rfl := hok.has_uniq ht.mem hB (ht.has hok) hhas
        have d1 := (hit_div hw1 hhas k).1 ⟨by omega, by omega⟩
        have d2 := (hit_div hw1 hhas j).1 ⟨ht.lo, ht.hi⟩
        have : k = j := by rw [← d1, d2]
        subst this
        have := ht.bit; rw [hF.2.1] at this; cases this
      have huc : ∀ a' x', UC (upd bs1 B'.base fun D => { D with used := setb B'.used k }) a' x' ↔ UC bs1 a' x' ∨ (a' = B'.at_ k ∧ x' = B'.words) := fun a' x' => by
        constructor
        · rintro ⟨D, hD, j, j1, j2, j3⟩
          obtain ⟨D', hD', rfl⟩ := List.mem_map.1 hD
          by_cases e5 : D'.base = B'.base
          · obtain rfl := hok.base_inj hD' hB e5
            rw [if_pos rfl] at j1 j2 j3
            have j1' : (setb D'.used k).getLsbD j = true := j1
            rw [setb_get h64] at j1'
            by_cases e6 : j = k
            · subst e6; exact .inr ⟨j2, j3⟩
            · rw [if_neg e6] at j1'
              exact .inl ⟨D', hD', j, j1', j2, j3⟩
          · rw [if_neg e5] at j1 j2 j3
            exact .inl ⟨D', hD', j, j1, j2, j3⟩
        · rintro (⟨D, hD, j, j1, j2, j3⟩ | ⟨rfl, rfl⟩)
          · by_cases e5 : D.base = B'.base
            · obtain rfl := hok.base_inj hD hB e5
              refine ⟨_, List.mem_map.2 ⟨D, hD, if_pos rfl⟩, j, ?_, j2, j3⟩
              show (setb D.used k).getLsbD j = true
              rw [setb_get h64]; split
              · rfl
              · exact j1
            · exact ⟨D, List.mem_map.2 ⟨D, hD, if_neg e5⟩, j, j1, j2, j3⟩
          · refine ⟨_, List.mem_map.2 ⟨B', hB, if_pos rfl⟩, k, ?_, rfl, rfl⟩
            show (setb B'.used k).getLsbD k = true
            rw [setb_get h64, if_pos rfl]
      have hle := hof.2.1
      refine .inr ⟨rfl, B'.at_ k, B'.words, rfl, by rw [hwords]; omega, (huc _ _).2 (.inr ⟨rfl, rfl⟩), fun y hy => hnew y ((hT.uc _ _).2 hy), fun a' x' => by rw [huc, hT.uc], ?_, fun hn => ?_⟩
      · have q1 := sum_upd hok hB (f := fun D => { D with used := setb B'.used k }) (fun D => cntT D.bit 64)
        have q4 : cntT (Blk.bit { B' with used := setb B'.used k }) 64 = cntT B'.bit 64 + 1 := setb_cells hbk hF
        simp only [q4] at q1
        rw [← s1]; unfold cellsT; omega
      · intro D hD
        obtain ⟨D', hD', rfl⟩ := List.mem_map.1 hD
        have := hT.noPages hn D' hD'
        split <;> exact this

theorem uc_rem (hk : COk n P l bs) {B : Blk} (hB : B ∈ bs) (a w : Nat) : UC (rem bs B.base) a w ↔ UC bs a w ∧ ∀ k, B.bit k = true → a ≠ B.at_ k := by
  constructor
  · rintro ⟨D, hD, k, h1, h2, h3⟩
    obtain ⟨hD1, hD2⟩ := mem_rem.1 hD
    refine ⟨⟨D, hD1, k, h1, h2, h3⟩, fun j hj e => hD2 ?_⟩
    have hu1 : UC bs a w := ⟨D, hD1, k, h1, h2, h3⟩
    have hp := hu1.pos hk
    have ht : Hit bs (a : Int) D k := ⟨hD1, h1, by omega, by omega⟩
    have hw := Blk.words_pos (hk.bok B hB)
    have ht2 : Hit bs (a : Int) B j := ⟨hB, hj, by omega, by omega⟩
    rw [(ht.uniq hk ht2).1]
  · rintro ⟨⟨D, hD, k, h1, h2, h3⟩, hne⟩
    refine ⟨D, mem_rem.2 ⟨hD, fun e => ?_⟩, k, h1, h2, h3⟩
    obtain rfl := hk.base_inj hD hB e
    exact hne k h1 h2
theorem FreeR.cells (hk : COk n P l bs) {addr : Int} {bs' : List Blk} {e : Int} (h : FreeR bs addr bs' e) :
    (e = 4 ∧ bs' = bs ∧ ∀ a w : Nat, (a : Int) = addr → ¬ UC bs a w) ∨
    (e = 0 ∧ ∃ a w : Nat, (a : Int) = addr ∧ UC bs a w ∧ (∀ a' w', UC bs' a' w' ↔ UC bs a' w' ∧ a' ≠ a) ∧ cellsT bs' + 1 = cellsT bs ∧ (NoPages bs → NoPages bs')) := by
  rcases h with ⟨h1, rfl, rfl⟩ | ⟨B, k, ht, h1, rfl, hrest⟩
  · refine .inl ⟨rfl, rfl, fun a w ha hu => ?_⟩
    have hp := hu.pos hk
    obtain ⟨B, k, ht, h2, _⟩ := hu.hit (x := addr) (by omega) (by omega)
    exact h1 B k ht (by omega)
  · have hbk := hk.bok B ht.mem
    have hkc := hbk.bit_lt ht.bit
    have h64 : k < 64 := by have := Blk.cells_le hbk; omega
    have q4 : cntT (clrb B.used k).getLsbD 64 + 1 = cntT B.bit 64 := clrb_cells hbk ht.bit
    refine .inr ⟨rfl, B.at_ k, B.words, h1.symm, ht.uc, ?_, ?_, ?_⟩
    · intro a' w'
      have hwp := Blk.words_pos hbk
      have key : ∀ j, B.bit j = true → (B.at_ j = B.at_ k ↔ j = k) := fun j hj => by
        constructor
        · intro e
          have t1 : Hit bs ((B.at_ j : Nat) : Int) B j := ⟨ht.mem, hj, by omega, by omega⟩
          have t2 : Hit bs ((B.at_ j : Nat) : Int) B k := ⟨ht.mem, ht.bit, by omega, by omega⟩
          exact (t1.uniq hk t2).2
        · rintro rfl; rfl
      rcases hrest with ⟨h2, h3, rfl⟩ | ⟨h2, rfl⟩
      · rw [uc_rem hk ht.mem]
        have honly : ∀ j, B.bit j = true → j = k := fun j hj => by
          apply Classical.byContradiction
          intro hne
          have := clrb_get (u := B.used) (i := j) h64
          rw [h2, if_neg hne] at this
          have hj' : B.used.getLsbD j = true := hj
          rw [hj'] at this; simp at this
        constructor
        · rintro ⟨hu, hne⟩; exact ⟨hu, hne k ht.bit⟩
        · rintro ⟨hu, hne⟩; exact ⟨hu, fun j hj e => hne (by rw [e, honly j hj])⟩
      · constructor
        · rintro ⟨D, hD, j, j1, j2, j3⟩
          obtain ⟨D', hD', rfl⟩ := List.mem_map.1 hD
          by_cases e5 : D'.base = B.base
          · obtain rfl := hk.base_inj hD' ht.mem e5
            rw [if_pos rfl] at j1 j2 j3
            have j1' : (clrb D'.used k).getLsbD j = true := j1
            rw [clrb_get h64] at j1'
            by_cases e6 : j = k
            · rw [if_pos e6] at j1'; cases j1'
            · rw [if_neg e6] at j1'
              exact ⟨⟨D', hD', j, j1', j2, j3⟩, fun e => e6 ((key j j1').1 (by rw [← e]; exact j2.symm))⟩
          · rw [if_neg e5] at j1 j2 j3
            refine ⟨⟨D', hD', j, j1, j2, j3⟩, fun e => e5 ?_⟩
            have hu : UC bs a' w' := ⟨D', hD', j, j1, j2, j3⟩
            have hp := hu.pos hk
            have t1 : Hit bs (a' : Int) D' j := ⟨hD', j1, by omega, by omega⟩
            have t2 : Hit bs (a' : Int) B k := ⟨ht.mem, ht.bit, by omega, by omega⟩
            rw [(t1.uniq hk t2).1]
        · rintro ⟨⟨D, hD, j, j1, j2, j3⟩, hne⟩
          by_cases e5 : D.base = B.base
          · obtain rfl := hk.base_inj hD ht.mem e5
            refine ⟨_, List.mem_map.2 ⟨D, hD, if_pos rfl⟩, j, ?_, j2, j3⟩
            show (clrb D.used k).getLsbD j = true
            rw [clrb_get h64, if_neg (fun e => hne (by rw [j2, e]))]; exact j1
          · exact ⟨D, List.mem_map.2 ⟨D, hD, if_neg e5⟩, j, j1, j2, j3⟩
    · rcases hrest with ⟨h2, h3, rfl⟩ | ⟨h2, rfl⟩
      · have r1 := sum_rem hk ht.mem (fun D => cntT D.bit 64)
        have z1 : cntT (clrb B.used k).getLsbD 64 = 0 := cntT_zero.2 fun i _ => by rw [h2]; simp
        unfold cellsT; omega
      · have q1 := sum_upd hk ht.mem (f := fun D => { D with used := clrb B.used k }) (fun D => cntT D.bit 64)
        have q5 : cntT (Blk.bit { B with used := clrb B.used k }) 64 + 1 = cntT B.bit 64 := q4
        unfold cellsT; omega
    · intro hn
      rcases hrest with ⟨h2, h3, rfl⟩ | ⟨h2, rfl⟩
      · exact fun D hD => hn D (mem_rem.1 hD).1
      · intro D hD
        obtain ⟨D', hD', rfl⟩ := List.mem_map.1 hD
        have := hn D' hD'
        split <;> exact this
end
end Go.Proofs.YtolfcdjbchdkgaaDoor
/- CellBack: the law's function answers true. Own work. -/
namespace Go.Proofs.YtolfcdjbchdkgaaDoor
open Go Go.Hp
set_option maxRecDepth 100000
attribute [local irreducible] hLoad hStore hNew hInt hQuo hRem hShl hShr hIf hNil hIdx hCut hElem hByte hAppend hMake hCall hYield hGet hPut hDel hNewMap hLoop hLet hAll hRange hRec hEq hCmp bitv W Does HYield

/-- Small numbers that stand in memory. -/
structure Nums (r : HP) (k : IntKind) (sl : Sl) (L : List Int) : Prop where
  len : sl.n = L.length
  at_ : ∀ (i : Nat) (x : Int), L[i]? = some x → ∃ ad, sl.a = some ad ∧ At r (ad.add i) (.int k x)
  rng : ∀ x ∈ L, 0 ≤ x ∧ x < 65536
  le : (L.length : Int) ≤ 9223372036854775807
  ncap : sl.n ≤ sl.cap

theorem sum_mono {f g : Blk → Nat} : ∀ {bs : List Blk}, (∀ B ∈ bs, f B ≤ g B) → (bs.map f).sum ≤ (bs.map g).sum
  | [], _ => by simp
  | B :: bs, h => by
    simp only [List.map_cons, List.sum_cons]
    have := sum_mono (f := f) (g := g) (bs := bs) fun D hD => h D (by simp [hD])
    have := h B (by simp)
    omega
theorem COk.words_ge {n P : Nat} {l : List Sp} {bs : List Blk} (hk : COk n P l bs) : cellsT bs ≤ wordsT bs :=
  sum_mono fun B hB => Nat.le_mul_of_pos_right _ (Blk.words_pos (hk.bok B hB))
theorem sum_zero {f : Blk → Nat} : ∀ {bs : List Blk}, (bs.map f).sum = 0 → ∀ B ∈ bs, f B = 0
  | [], _, B, hB => by simp at hB
  | D :: bs, h, B, hB => by
    simp only [List.map_cons, List.sum_cons] at h
    rcases List.mem_cons.1 hB with rfl | hB
    · omega
    · exact sum_zero (bs := bs) (by omega) B hB
theorem COk.empty {n P : Nat} {l : List Sp} {bs : List Blk} (hk : COk n P l bs) (h : cellsT bs = 0) : ∀ B ∈ bs, B.used = 0#64 := by
  intro B hB
  have := sum_zero h B hB
  have hz := cntT_zero.1 this
  apply BitVec.eq_of_getLsbD_eq
  intro i hi
  rw [show B.used.getLsbD i = false from hz i hi]; simp
theorem cntFree_all {U : Nat → Bool} : ∀ {n : Nat}, (∀ p, p < n → U p = false) → cntFree U n = n
  | 0, _ => rfl
  | n + 1, h => by rw [cntFree_succ, cntFree_all fun p hp => h p (by omega), h n (by omega)]; rfl

theorem cellback_does (sl : Sl) (L : List Int) {r r2 : HP} {Tt : TypeId} {fr : Nat × Nat} [Has 0 r (.cells deBc Tt fr) r2] (hS : Nums r .u16 sl L) :
    Does Tryd.prog 7 #[.slice sl.a sl.n sl.cap] r (ret (.bool true) r) := by
  refine F7_fn (sizes_1 := sl) ?_
  unfold F7
  refine hCall_of (cnew_does 200 2) ?_
  rintro e m' (⟨h1, _⟩ | ⟨C, X0, _, hC0, rfl, ho⟩)
  · omega
  refine ⟨_, ho, _, _, rfl, hCall_ret awake7_does ⟨_, rfl, hIf_false rfl (hIf_false rfl (hIf_neF rfl ?_))⟩⟩
  have hlen := hS.len
  have hle := hS.le
  refine hLoop_of (fun d x m' => ∃ (i : Nat) (A : List Nat) (s : Sl) (Hs : HP) (l : List Sp) (bs : List Blk) (X : HP), i ≤ L.length ∧ d = L.length - i ∧ x = (s, (i : Int), ()) ∧ Own 3 1 natC A s Hs ∧
    CellAt C 200 2 l bs X ∧ (∀ a, a ∈ A ↔ ∃ w, UC bs a w) ∧ A.Nodup ∧ A.length = cellsT bs ∧ NoPages bs ∧ Over (X + (Hs + r)) m') ?_ ?_
  · exact ⟨_, 0, [], _, 0, _, _, X0, by omega, rfl, rfl, Own.nil, hC0, fun a => ⟨fun h => (by simp at h), fun ⟨w, B, hB, _⟩ => (by simp at hB)⟩, List.nodup_nil, rfl, fun B hB => (by simp at hB), by rw [HP.zero_add]; exact Over.of _ _⟩
  rintro d x m' ⟨i, A, s, Hs, l, bs, X, hi, rfl, rfl, hO, hC, hA, hnd, hcnt, hnp, g, rfl⟩
  have hok : COk 200 2 l bs := by obtain ⟨_, h, _⟩ := hC; exact h.ok
  obtain ⟨hcc, _⟩ := hok.counts (by omega)
  have hsn := hO.len
  refine hAll_of fun _ => ?_
  unfold F7_l6
  dsimp only
  refine hIf_dec (fun h1 => ?_) (fun h1 => ?_)
  · have hi' : i < L.length := by omega
    refine hLet_of (fun s m' => ∃ (A : List Nat) (s2 : Sl) (Hs : HP) (l : List Sp) (bs : List Blk) (X : HP), s = (s2, ()) ∧ Own 3 1 natC A s2 Hs ∧
      CellAt C 200 2 l bs X ∧ (∀ a, a ∈ A ↔ ∃ w, UC bs a w) ∧ A.Nodup ∧ A.length = cellsT bs ∧ NoPages bs ∧ Over (X + (Hs + r)) m') ?_ ?_
    · have hL : L[i]? = some L[i] := List.getElem?_eq_getElem hi'
      obtain ⟨ad, hda, hA0⟩ := hS.at_ i _ hL
      obtain ⟨hr0, hr1⟩ := hS.rng _ (List.getElem_mem hi')
      generalize L[i] = v at hA0 hr0 hr1
      have up : ∀ {ad v}, At r ad v → At (X + (Hs + r) + g) ad v := fun h => At.sub h
      refine hIdx_any hda (by omega) (by omega) ?_
      rw [Int.toNat_natCast, Nat.mul_one]
      refine hLoad_here (t := .int .u16) (x := v) (up hA0) (hRem_pos (by omega) (by omega) (hRem_pos hr0 (by omega) (hInt_i64 (by omega) (by omega) (hInt_i64 (by omega) (by omega) ?_))))
      refine hCall_of (calloc_does hC _ _) ?_
      rintro e m2 ⟨l2, bs2, v2, e2, X2, hAl, hC2, rfl, ho2⟩
      refine ⟨_, ho2, _, _, rfl, ?_⟩
      rcases hAl.cells hok with ⟨h2, h3, h4, h5, _⟩ | ⟨rfl, a, w, rfl, h3, h4, h5, h6, h7, h8⟩
      · refine hIf_eqF h2 ⟨A, s, Hs, l2, bs2, X2, rfl, hO, hC2, fun a => ?_, hnd, by rw [h4]; exact hcnt, h5 hnp, Over.of _ _⟩
        rw [hA]
        exact ⟨fun ⟨w, hw⟩ => ⟨w, (h3 a w).2 hw⟩, fun ⟨w, hw⟩ => ⟨w, (h3 a w).1 hw⟩⟩
      · refine hIf_eqT rfl (hNew_of fun b21 => ?_)
        refine hAppend_Own hO a natC_len (Row.of (c := #[.int .i64 (a : Int)]) (fun j v hj => by rw [Nat.zero_add]; simpa [natC] using hj)) rfl rfl (by omega) (by omega) (fun s2 H2 r3 hO2 hr2 => ?_)
        obtain ⟨g2, rfl⟩ := hr2
        have hnew : a ∉ A := fun h => by obtain ⟨w', hw'⟩ := (hA a).1 h; exact h5 w' hw'
        refine ⟨A ++ [a], s2, H2, l2, bs2, X2, rfl, hO2, hC2, fun a' => ?_, ?_, by simp [hcnt, h7], h8 hnp, Over.of _ _⟩
        · rw [List.mem_append, hA, List.mem_singleton]
          constructor
          · rintro (⟨w', hw'⟩ | rfl)
            · exact ⟨w', (h6 _ _).2 (.inl hw')⟩
            · exact ⟨w, h4⟩
          · rintro ⟨w', hw'⟩
            rcases (h6 _ _).1 hw' with h | h
            · exact .inl ⟨w', h⟩
            · exact .inr h.1
        · rw [List.nodup_append]
          exact ⟨hnd, by simp, fun x hx y hy => by rw [List.mem_singleton] at hy; subst hy; rintro rfl; exact hnew hx⟩
    · rintro st m' ⟨A, s2, Hs, l, bs, X, rfl, h2⟩
      refine hAll_of fun _ => ?_
      unfold F7_j11
      dsimp only
      exact hInt_i64 (by omega) (by omega) ⟨L.length - (i + 1), by omega, i + 1, A, s2, Hs, l, bs, X, by omega, rfl, rfl, h2⟩
  · refine hCall_ret (M := X + (Hs + r + g)) (by obtain ⟨adr, hM, _⟩ := hC; exact (cCounts_does hM (r := Hs + r + g) (hs := ⟨HP.add_assoc _ _ _⟩))) ⟨_, _, _, rfl, ?_⟩
    have hge := hok.words_ge
    have hAl : A.length ≤ 262144 := by omega
    refine hIf_neF (by omega) (hIf_neg (by omega) ?_)
    refine hLoop_of (fun d x m' => ∃ (j : Nat) (l : List Sp) (bs : List Blk) (X : HP), j ≤ A.length ∧ d = A.length - j ∧ x = ((j : Int), ()) ∧ CellAt C 200 2 l bs X ∧ (∀ a, a ∈ A.drop j ↔ ∃ w, UC bs a w) ∧ cellsT bs + j = A.length ∧ NoPages bs ∧ Over (X + (Hs + r)) m') ?_ ?_
    · exact ⟨_, 0, l, bs, X, by omega, rfl, rfl, hC, hA, by omega, hnp, Over.of _ _⟩
    clear hok hcc hC hA hcnt hnp hge
    rintro d x m' ⟨j, l, bs, X, hj, rfl, rfl, hC, hA, hcnt, hnp, g, rfl⟩
    have hok : COk 200 2 l bs := by obtain ⟨_, h, _⟩ := hC; exact h.ok
    refine hAll_of fun _ => ?_
    unfold F7_l16
    dsimp only
    refine hIf_dec (fun h2 => ?_) (fun h2 => ?_)
    · have hj' : j < A.length := by omega
      have hAj : A[j]? = some A[j] := List.getElem?_eq_getElem hj'
      obtain ⟨b, cap, c, rfl, rfl, hc1, hc2, hc3⟩ := hO.get natC_len hAj
      have hdrop : A.drop j = A[j] :: A.drop (j + 1) := List.drop_eq_getElem_cons hj'
      rw [hdrop] at hA
      have hnd2 : (A.drop j).Nodup := hnd.sublist (List.drop_sublist _ _)
      rw [hdrop, List.nodup_cons] at hnd2
      have h3 := hc3 0 (by omega)
      have e0 : 0 + (j : Int).toNat * 1 = j * 1 + 0 := by omega
      obtain ⟨w, hw⟩ := (hA A[j]).1 List.mem_cons_self
      have hwle := hw.le hok
      refine hIdx_of (by omega) (by omega) (hLoad_int (x := (A[j] : Int)) (by rw [e0, h3]; rfl) ?_)
      refine hCall_of (cfree_does hC _ (by omega)) ?_
      rintro e m2 ⟨l2, bs2, e2, X2, hF, hC2, rfl, ho2⟩
      refine ⟨_, ho2, _, rfl, ?_⟩
      rcases hF.cells hok with ⟨_, _, h4⟩ | ⟨rfl, a, w', h4, h5, h6, h7, h8⟩
      · exact absurd hw (h4 _ _ rfl)
      · obtain rfl : a = A[j] := by omega
        refine hIf_neF rfl (hInt_i64 (by omega) (by omega) ⟨A.length - (j + 1), by omega, j + 1, l2, bs2, X2, by omega, rfl, rfl, hC2, fun a' => ?_, by omega, h8 hnp, Over.of _ _⟩)
        constructor
        · intro ha
          obtain ⟨x, hx⟩ := (hA a').1 (List.mem_cons_of_mem _ ha)
          exact ⟨x, (h6 _ _).2 ⟨hx, fun e => hnd2.1 (by rw [← e]; exact ha)⟩⟩
        · rintro ⟨x, hx⟩
          obtain ⟨hx1, hx2⟩ := (h6 _ _).1 hx
          rcases List.mem_cons.1 ((hA a').2 ⟨x, hx1⟩) with h | h
          · exact absurd h hx2
          · exact h
    · obtain rfl : j = A.length := by omega
      have hzero : cellsT bs = 0 := by omega
      have hun := hok.empty hzero
      refine hCall_of (cflush_does hC 0) ?_
      rintro e m1 ⟨l1, bs1, e1, X1, hF1, hC1, rfl, ho1⟩
      refine ⟨_, ho1, _, rfl, ?_⟩
      rcases hF1 with ⟨h3, _⟩ | ⟨_, hb1, rfl⟩
      · omega
      refine hIf_neF rfl (hCall_of (cflush_does hC1 1) ?_)
      rintro e m2 ⟨l2, bs2, e2, X2, hF2, hC2, rfl, ho2⟩
      refine ⟨_, ho2, _, rfl, ?_⟩
      rcases hF2 with ⟨h3, _⟩ | ⟨_, hb2, rfl⟩
      · omega
      refine hIf_neF rfl (hCall_of (cflush_does hC2 2) ?_)
      rintro e m3 ⟨l3, bs3, e3, X3, hF3, hC3, rfl, ho3⟩
      refine ⟨_, ho3, _, rfl, ?_⟩
      have hF3' : bs3 = bs2 ∧ e3 = 1 := by
        rcases hF3 with ⟨_, h, h'⟩ | ⟨h3, _⟩
        · exact ⟨h, h'⟩
        · omega
      obtain ⟨hb3, rfl⟩ := hF3'
      have hall : bs3 = [] := by
        rw [hb3, List.eq_nil_iff_forall_not_mem]
        intro B hB
        rw [hb2] at hB
        obtain ⟨hB1, hB2⟩ := List.mem_filter.1 hB
        obtain ⟨D, hD, rfl⟩ := List.mem_map.1 hB1
        rw [hb1] at hD
        obtain ⟨hD1, hD2⟩ := List.mem_filter.1 hD
        obtain ⟨E, hE, rfl⟩ := List.mem_map.1 hD1
        have hEu := hun E hE
        have hEn := hnp E hE
        have hEb := hok.bok E hE
        have hEc : E.cls < 16 := by have := hEb.cls; omega
        have c1 : ∀ p (B : Blk), (letGo p 16 B).cls = B.cls ∧ (letGo p 16 B).used = B.used := fun p B => by unfold letGo; split <;> exact ⟨rfl, rfl⟩
        have c2 : ∀ p (B : Blk), B.cls < 16 → (letGo p 16 B).holder = if B.holder = some p then none else B.holder := fun p B hB => by
          unfold letGo
          by_cases e : B.holder = some p
          · rw [if_pos ⟨e, hB⟩, if_pos e]
          · rw [if_neg fun h => e h.1, if_neg e]
        rcases liveB_iff.1 hB2 with h | h | h
        · rw [(c1 _ _).1, (c1 _ _).1] at h; exact hEn h
        · rw [(c1 _ _).2, (c1 _ _).2] at h; exact h hEu
        · rw [c2 _ _ (by rw [(c1 _ _).1]; exact hEc), c2 _ _ hEc] at h
          cases hh : E.holder with
          | none => rw [hh] at h; simp at h
          | some q =>
            have hq := (hEb.hold q hh).1
            rw [hh] at h
            have : q = 0 ∨ q = 1 := by omega
            rcases this with rfl | rfl
            · simp at h
            · simp at h
      subst hall
      have hok3 : COk 200 2 l3 [] := by obtain ⟨_, h, _⟩ := hC3; exact h.ok
      have hfree : cntFree (UL 200 l3) 200 = 200 := cntFree_all fun p hp => hok3.free_iff.2 ⟨hp, by simp⟩
      obtain ⟨adr, hM, _⟩ := hC3
      refine hIf_neF rfl (hCall_ret (cCounts_does hM) ⟨_, _, _, rfl, ?_⟩)
      refine hCall_ret (nil_alloc 0 1) ⟨_, _, rfl, hCall_ret (nil_find 0) ⟨_, _, _, rfl, hCall_ret (nil_pages 1) ⟨_, _, rfl, ?_⟩⟩⟩
      refine hIf_eqT rfl (hIf_eqT rfl (hIf_eqT (by rw [hfree]; rfl) (hIf_eqT rfl (hIf_not (hIf_false rfl (hIf_eqT rfl ?_))))))
      refine hCall_ret (nil_free 0) ⟨_, rfl, hIf_eqT rfl (hCall_ret (nil_flush 0) ⟨_, rfl, hIf_eqT rfl (hCall_ret (nil_give 0) ⟨_, rfl, hIf_eqT rfl (hCall_ret (nil_used 0) ⟨_, rfl, ?_⟩)⟩)⟩)⟩
      exact ret.mk (Over.of _ _)
end Go.Proofs.YtolfcdjbchdkgaaDoor
/- Rows: slices of small numbers, opened. Own work. -/
namespace Go.Proofs.YtolfcdjbchdkgaaDoor
open Go Go.Hp Go.ChangeShapes Go.WideShapes Go.ChangeAt Go.WideMaps Go.WideElems Go.RowKit
set_option maxRecDepth 100000

theorem u53 : Tryd.prog.underlying 53 = some (.slice 59) := by kernel_rfl
theorem u54 : Tryd.prog.underlying 54 = some (.slice 5) := by kernel_rfl
theorem u59 : Tryd.prog.underlying 59 = some (.int .u16) := by kernel_rfl
theorem c59 : Tryd.prog.cellsOf 59 = 1 := by kernel_rfl

/-- A slice of small numbers, opened. -/
theorem nums_of {H : Type} {enc : TypeId × Value → H} {W : World} {t e : TypeId} {k : IntKind} (ut : Tryd.prog.underlying t = some (.slice e)) (ue : Tryd.prog.underlying e = some (.int k)) (ce : Tryd.prog.cellsOf e = 1) (hk : k = .u8 ∨ k = .u16)
    {v : Value} {d : DataW H} {p : List MemPlace} {b0 : Nat} (hval : Value.okWide Tryd.prog W .any b0 t v) (h : DataW.Trod enc Tryd.prog W 0 (fun _ => true) true t v d p) :
    ∃ (sl : Sl) (L : List Int), v = .slice sl.a sl.n sl.cap ∧ Nums (whole W) k sl L ∧ L.length ≤ Rows.uptoBulk d := by
  obtain ⟨a, len, cap, rfl⟩ := okWide_slice ut hval
  obtain ⟨fuel, hf⟩ := h
  rcases Deep.open_slice1 ut ce hf with ⟨h1, hx⟩ | ⟨ad, len', cap', m, n, V, D, Pl, h1, _, hle, hcap, hm, hx, hel⟩
  · simp only [Value.cells, List.cons.injEq, Value.slice.injEq, and_true] at h1
    obtain ⟨rfl, rfl, rfl⟩ := h1
    exact ⟨⟨none, 0, 0⟩, [], rfl, ⟨rfl, by simp, by simp, by simp, Nat.le_refl _⟩, by simp⟩
  · simp only [Value.cells, List.cons.injEq, Value.slice.injEq, and_true] at h1
    obtain ⟨rfl, rfl, rfl⟩ := h1
    have hmm : m = cap := by rw [hm]; rfl
    have key : ∀ i, i < len → ∃ x : Int, (0 ≤ x ∧ x < 65536) ∧ W.cell? (ad.add i) = some (.int k x) := by
      intro i hi
      obtain ⟨c1, c2⟩ := hel i (by omega)
      obtain ⟨x, e1, e2, e3⟩ := DataW.trod_int ue c2
      simp only [List.cons.injEq, and_true] at e1
      refine ⟨x, ?_, by rw [c1, e1]⟩
      simp only [Lit.wf, Bool.and_eq_true, decide_eq_true_eq] at e3
      rcases hk with rfl | rfl
      · have h1 : IntKind.min .u8 = 0 := by decide
        have h2 : IntKind.max .u8 = 255 := by decide
        rw [h1, h2] at e3; omega
      · have h1 : IntKind.min .u16 = 0 := by decide
        have h2 : IntKind.max .u16 = 65535 := by decide
        rw [h1, h2] at e3; omega
    obtain ⟨F, hF⟩ : ∃ F : Nat → Int, ∀ i, i < len → (0 ≤ F i ∧ F i < 65536) ∧ W.cell? (ad.add i) = some (.int k (F i)) :=
      ⟨fun i => if h : i < len then (key i h).choose else 0, fun i hi => by simp only [hi, dif_pos]; exact (key i hi).choose_spec⟩
    have hlen : (len : Int) ≤ 9223372036854775807 := by
      have : (cap : Int) ≤ maxLen := by exact_mod_cast hcap
      have h2 : (maxLen : Int) ≤ 9223372036854775807 := by decide
      omega
    refine ⟨⟨some ad, len, cap⟩, (List.range len).map F, rfl, ⟨by simp, fun i x hx => ?_, fun x hx => ?_, by simpa using hlen, hle⟩, ?_⟩
    · rw [List.getElem?_map] at hx
      by_cases hi : i < len
      · rw [List.getElem?_range hi] at hx
        simp only [Option.map_some, Option.some.injEq] at hx
        subst hx
        exact ⟨ad, rfl, At.whole' (hF i hi).2⟩
      · rw [List.getElem?_eq_none (by simpa using hi)] at hx; cases hx
    · simp only [List.mem_map, List.mem_range] at hx
      obtain ⟨i, hi, rfl⟩ := hx
      exact (hF i hi).1
    · simp only [Prod.mk.injEq] at hx
      rw [hx.1]
      simp only [List.length_map, List.length_range, Rows.uptoBulk]
      have : ∀ L : List (DataW H), L.length ≤ Rows.uptoBulkAll L := by
        intro L
        induction L with
        | nil => simp [Rows.uptoBulkAll]
        | cons d L ih =>
          simp only [List.length_cons, Rows.uptoBulkAll]
          have h1 : 1 ≤ Rows.uptoBulk d := by
            cases d with
            | lit x => cases x <;> simp [Rows.uptoBulk]
            | _ => simp [Rows.uptoBulk]
          omega
      have := this ((List.range len).map D)
      simp only [List.length_map, List.length_range] at this
      omega

/-- Bytes. -/
theorem nums8_of {H : Type} {enc : TypeId × Value → H} {W : World} {t e : TypeId} (ut : Tryd.prog.underlying t = some (.slice e)) (ue : Tryd.prog.underlying e = some (.int .u8)) (ce : Tryd.prog.cellsOf e = 1)
    {v : Value} {d : DataW H} {p : List MemPlace} {b0 : Nat} (hval : Value.okWide Tryd.prog W .any b0 t v) (h : DataW.Trod enc Tryd.prog W 0 (fun _ => true) true t v d p) :
    ∃ (sl : Sl) (L : List Int), v = .slice sl.a sl.n sl.cap ∧ Nums (whole W) .u8 sl L ∧ L.length ≤ Rows.uptoBulk d ∧ ∀ x ∈ L, x < 256 := by
  obtain ⟨sl, L, rfl, hS, hb⟩ := nums_of ut ue ce (.inl rfl) hval h
  refine ⟨sl, L, rfl, hS, hb, fun x hx => ?_⟩
  obtain ⟨i, hi⟩ := List.getElem?_of_mem hx
  obtain ⟨ad, had, hat⟩ := hS.at_ i x hi
  obtain ⟨fuel, hf⟩ := h
  rcases Deep.open_slice1 ut ce hf with ⟨h1, hx⟩ | ⟨ad', len', cap', m, n, V, D, Pl, h1, _, hle, hcap, hm, hx, hel⟩
  · simp only [Value.cells, List.cons.injEq, Value.slice.injEq, and_true] at h1
    rw [h1.1] at had; cases had
  · simp only [Value.cells, List.cons.injEq, Value.slice.injEq, and_true] at h1
    obtain ⟨h2, h3, h4⟩ := h1
    rw [had] at h2
    simp only [Option.some.injEq] at h2
    subst h2
    have hin : i < m := by
      rw [hm]; simp only [if_true]
      have := (List.getElem?_eq_some_iff.1 hi).1
      have := hS.len
      omega
    obtain ⟨c1, c2⟩ := hel i hin
    obtain ⟨y, e1, e2, e3⟩ := DataW.trod_int ue c2
    simp only [List.cons.injEq, and_true] at e1
    have := hat.cell (holds_whole W)
    rw [c1, e1] at this
    simp only [Option.some.injEq, Value.int.injEq, true_and] at this
    simp only [Lit.wf, Bool.and_eq_true, decide_eq_true_eq] at e3
    have h1 : IntKind.min .u8 = 0 := by decide
    have h2 : IntKind.max .u8 = 255 := by decide
    rw [h1, h2] at e3; omega

theorem door_met (os : Os) (args : Array Value) : laidMetH Tryd.prog laid1 ((World.doorLaid Tryd.prog 400 os).forCall (fun _ _ => 0) ⟨#[], args, []⟩).memory :=
  laidMetH_of_parts3 (fuel := 8) (laidMet_of_run' 8 (by kernel_rfl) (by kernel_rfl)) (by kernel_rfl) (by kernel_rfl)
end Go.Proofs.YtolfcdjbchdkgaaDoor
/- The predicates of functions of the program, printed by a program of this session (wip/tools/prt.py) out of Lean's own print of the loaded functions. -/
namespace Go.Proofs.YtolfcdjbchdkgaaDoor
open Go Go.Hp
set_option maxRecDepth 100000
/-! treadle/treadleref07.New -/
noncomputable def code27 : Code := (Tryd.f27.body).getD .skip
def F27 (pages_1 : Int) (procs_2 : Int) (R : Ending → HP → Prop) : HP → Prop :=
  hIf (decide (procs_2 < 1))
    (R (.returned (.tuple #[(.pointer none), (.int .i64 1)])))
    (hIf (decide (procs_2 > 8))
    (R (.returned (.tuple #[(.pointer none), (.int .i64 1)])))
    (hCall Tryd.prog 9 #[(.int .i64 pages_1)] (fun ch => R (.panicked ch)) fun r_3 m => ∃ (v_4 : Option Addr) (v_5 : Int), r_3 = (.tuple #[(.pointer v_4), (.int .i64 v_5)]) ∧ (hIf (v_5 != 0)
    (R (.returned (.tuple #[(.pointer none), (.int .i64 v_5)])))
    (hNew #[(.pointer v_4), (.slice none 0 0), (.int .i64 procs_2)] 115 fun b_6 =>
  R (.returned (.tuple #[(.pointer (some ⟨b_6, 0, none⟩)), (.int .i64 0)])))) m))
def ann27 : Ann := { loop := [], cut := [] }
theorem den27 (pages_1 : Int) (procs_2 : Int) (R : Ending → HP → Prop) : denF Tryd.prog ann27 Tryd.f27.ntmps Tryd.f27.results.toList code27 [(.int .i64 pages_1), (.int .i64 procs_2)] R = F27 pages_1 procs_2 R := by kernel_rfl
theorem call27 : Callable Tryd.prog 27 := fun a w => Tryd.call27 a w
theorem F27_fn {pages_1 : Int} {procs_2 : Int} {R : Ending → HP → Prop} {m : HP} (h : F27 pages_1 procs_2 R m) : Does Tryd.prog 27 #[(.int .i64 pages_1), (.int .i64 procs_2)] m R :=
  fn_of_den mixed (ann := ann27) Tryd.func27 call27 (c := code27) (by kernel_rfl) (by kernel_rfl) (args := [(.int .i64 pages_1), (.int .i64 procs_2)]) (Nat.le_of_ble_eq_true (by kernel_rfl)) (.inl (by kernel_rfl)) (by rw [den27]; exact h)
/-! (*treadle/treadleref07.Cells).Find -/
noncomputable def code29 : Code := (Tryd.f29.body).getD .skip
def F29 (c_1 : Option Addr) (addr_2 : Int) (R : Ending → HP → Prop) : HP → Prop :=
  hCall Tryd.prog 60 #[(.pointer c_1), (.int .i64 addr_2)] (fun ch => R (.panicked ch)) fun r_3 m => ∃ (v_4 : Int) (v_5 : Int), r_3 = (.tuple #[(.int .i64 v_4), (.int .i64 v_5)]) ∧ (hIf (decide (v_4 < 0))
    (R (.returned (.tuple #[(.int .i64 0), (.int .i64 0), (.bool false)])))
    (hNil c_1 fun a_6 =>
  hLoad .slice (a_6.add 1) fun (v_7 : Sl) =>
  hIdx v_7.a v_7.n v_4 5 fun a_8 =>
  hLoad (.int .i64) a_8 fun (v_9 : Int) =>
  hLoad (.int .i64) (a_8.add 1) fun (v_10 : Int) =>
  hLoad (.int .i64) (a_8.add 2) fun (v_11 : Int) =>
  hLoad .slice (a_8.add 3) fun (v_12 : Sl) =>
  hLoad (.int .i64) (a_8.add 4) fun (v_13 : Int) =>
  hNew #[(.int .i64 0), (.int .i64 0), (.int .i64 0), (.slice none 0 0), (.int .i64 0)] 118 fun b_14 =>
  hStore (.int .i64 v_9) ⟨b_14, 0, none⟩
    (hStore (.int .i64 v_10) ⟨b_14, 1, none⟩
    (hStore (.int .i64 v_11) ⟨b_14, 2, none⟩
    (hStore (.slice v_12.a v_12.n v_12.cap) ⟨b_14, 3, none⟩
    (hStore (.int .i64 v_13) ⟨b_14, 4, none⟩
    (hLoad (.int .i64) ⟨b_14, 0, none⟩ fun (v_15 : Int) =>
  hInt .i64 (v_15 * 64) fun v_16 =>
  hLoad (.int .i64) ⟨b_14, 2, none⟩ fun (v_17 : Int) =>
  hInt .i64 (v_5 * v_17) fun v_18 =>
  hInt .i64 (v_16 + v_18) fun v_19 =>
  hLoad (.int .i64) ⟨b_14, 2, none⟩ fun (v_20 : Int) =>
  R (.returned (.tuple #[(.int .i64 v_19), (.int .i64 v_20), (.bool true)]))))))))) m
def ann29 : Ann := { loop := [], cut := [] }
theorem den29 (c_1 : Option Addr) (addr_2 : Int) (R : Ending → HP → Prop) : denF Tryd.prog ann29 Tryd.f29.ntmps Tryd.f29.results.toList code29 [(.pointer c_1), (.int .i64 addr_2)] R = F29 c_1 addr_2 R := by kernel_rfl
theorem call29 : Callable Tryd.prog 29 := fun a w => Tryd.call29 a w
theorem F29_fn {c_1 : Option Addr} {addr_2 : Int} {R : Ending → HP → Prop} {m : HP} (h : F29 c_1 addr_2 R m) : Does Tryd.prog 29 #[(.pointer c_1), (.int .i64 addr_2)] m R :=
  fn_of_den mixed (ann := ann29) Tryd.func29 call29 (c := code29) (by kernel_rfl) (by kernel_rfl) (args := [(.pointer c_1), (.int .i64 addr_2)]) (Nat.le_of_ble_eq_true (by kernel_rfl)) (.inl (by kernel_rfl)) (by rw [den29]; exact h)
/-! (*treadle/treadleref07.Cells).IsUsed -/
noncomputable def code31 : Code := (Tryd.f31.body).getD .skip
def F31 (c_1 : Option Addr) (page_2 : Int) (R : Ending → HP → Prop) : HP → Prop :=
  hNil c_1 fun a_3 =>
  hLoad .ptr a_3 fun (v_4 : Option Addr) =>
  hCall Tryd.prog 16 #[(.pointer v_4), (.int .i64 page_2)] (fun ch => R (.panicked ch)) fun r_5 m => ∃ (r_6 : Int) (r_7 : Int) (r_8 : Int) (v_9 : Bool), r_5 = (.tuple #[(.agg #[(.int .i64 r_6), (.int .i64 r_7), (.int .i64 r_8)]), (.bool v_9)]) ∧ (hNew #[(.int .i64 0), (.int .i64 0), (.int .i64 0)] 34 fun b_10 =>
  hStore (.int .i64 r_6) ⟨b_10, 0, none⟩
    (hStore (.int .i64 r_7) ⟨b_10, 1, none⟩
    (hStore (.int .i64 r_8) ⟨b_10, 2, none⟩
    (R (.returned (.bool v_9)))))) m
def ann31 : Ann := { loop := [], cut := [] }
theorem den31 (c_1 : Option Addr) (page_2 : Int) (R : Ending → HP → Prop) : denF Tryd.prog ann31 Tryd.f31.ntmps Tryd.f31.results.toList code31 [(.pointer c_1), (.int .i64 page_2)] R = F31 c_1 page_2 R := by kernel_rfl
theorem call31 : Callable Tryd.prog 31 := fun a w => Tryd.call31 a w
theorem F31_fn {c_1 : Option Addr} {page_2 : Int} {R : Ending → HP → Prop} {m : HP} (h : F31 c_1 page_2 R m) : Does Tryd.prog 31 #[(.pointer c_1), (.int .i64 page_2)] m R :=
  fn_of_den mixed (ann := ann31) Tryd.func31 call31 (c := code31) (by kernel_rfl) (by kernel_rfl) (args := [(.pointer c_1), (.int .i64 page_2)]) (Nat.le_of_ble_eq_true (by kernel_rfl)) (.inl (by kernel_rfl)) (by rw [den31]; exact h)
/-! (*treadle/treadleref07.Cells).Counts -/
noncomputable def code32 : Code := (Tryd.f32.body).getD .skip
def F32_j7 (k_13 : Int) (again_10 : (Int × Int × Int × Unit) → HP → Prop) (n_32 : Int) (words_33 : Int) (R : Ending → HP → Prop) : HP → Prop :=
  hInt .i64 (k_13 + 1) fun v_34 =>
  again_10 (n_32, words_33, v_34, ())
def F32_l6 (c_1 : Option Addr) (i_6 : Int) (again_3 : (Int × Int × Int × Unit) → HP → Prop) (n_11 : Int) (words_12 : Int) (k_13 : Int) (again_10 : (Int × Int × Int × Unit) → HP → Prop) (R : Ending → HP → Prop) : HP → Prop :=
  hNil c_1 fun a_14 =>
  hLoad .slice (a_14.add 1) fun (v_15 : Sl) =>
  hIdx v_15.a v_15.n i_6 5 fun a_16 =>
  hLoad .slice (a_16.add 3) fun (v_17 : Sl) =>
  hIf (decide (k_13 < ((v_17.n : Nat) : Int)))
    (hLet (α := Int × Int × Unit) (fun k_18 => hNil c_1 fun a_19 =>
  hLoad .slice (a_19.add 1) fun (v_20 : Sl) =>
  hIdx v_20.a v_20.n i_6 5 fun a_21 =>
  hLoad .slice (a_21.add 3) fun (v_22 : Sl) =>
  hIdx v_22.a v_22.n k_13 1 fun a_23 =>
  hLoad .bool a_23 fun (v_24 : Bool) =>
  hIf v_24
    (hInt .i64 (n_11 + 1) fun v_25 =>
  hNil c_1 fun a_26 =>
  hLoad .slice (a_26.add 1) fun (v_27 : Sl) =>
  hIdx v_27.a v_27.n i_6 5 fun a_28 =>
  hLoad (.int .i64) (a_28.add 2) fun (v_29 : Int) =>
  hInt .i64 (words_12 + v_29) fun v_30 =>
  k_18 (v_25, v_30, ()))
    (k_18 (n_11, words_12, ())))
    (fun x_31 => hAll fun _ => F32_j7 k_13 again_10 x_31.1 x_31.2.1 R))
    (hInt .i64 (i_6 + 1) fun v_35 =>
  again_3 (n_11, words_12, v_35, ()))
def F32_l3 (c_1 : Option Addr) (n_4 : Int) (words_5 : Int) (i_6 : Int) (again_3 : (Int × Int × Int × Unit) → HP → Prop) (R : Ending → HP → Prop) : HP → Prop :=
  hNil c_1 fun a_7 =>
  hLoad .slice (a_7.add 1) fun (v_8 : Sl) =>
  hIf (decide (i_6 < ((v_8.n : Nat) : Int)))
    (hLoop (α := Int × Int × Int × Unit) (n_4, words_5, 0, ()) fun x_9 again_10 => hAll fun _ => F32_l6 c_1 i_6 again_3 x_9.1 x_9.2.1 x_9.2.2.1 again_10 R)
    (hNil c_1 fun a_36 =>
  hLoad .ptr a_36 fun (v_37 : Option Addr) =>
  hNil v_37 fun a_38 =>
  hLoad .ptr a_38 fun (v_39 : Option Addr) =>
  hCall Tryd.prog 18 #[(.pointer v_39)] (fun ch => R (.panicked ch)) fun r_40 m => ∃ (v_41 : Int) (v_42 : Int), r_40 = (.tuple #[(.int .i64 v_41), (.int .i64 v_42)]) ∧ (R (.returned (.tuple #[(.int .i64 n_4), (.int .i64 words_5), (.int .i64 v_41)]))) m)
def F32 (c_1 : Option Addr) (R : Ending → HP → Prop) : HP → Prop :=
  hLoop (α := Int × Int × Int × Unit) (0, 0, 0, ()) fun x_2 again_3 => hAll fun _ => F32_l3 c_1 x_2.1 x_2.2.1 x_2.2.2.1 again_3 R
def ann32 : Ann := { loop := [(3, [(5, (Ty.int .i64)), (6, (Ty.int .i64)), (7, (Ty.int .i64))]), (6, [(5, (Ty.int .i64)), (6, (Ty.int .i64)), (8, (Ty.int .i64))])], cut := [(7, [(5, (Ty.int .i64)), (6, (Ty.int .i64))])] }
theorem den32 (c_1 : Option Addr) (R : Ending → HP → Prop) : denF Tryd.prog ann32 Tryd.f32.ntmps Tryd.f32.results.toList code32 [(.pointer c_1)] R = F32 c_1 R := by kernel_rfl
theorem call32 : Callable Tryd.prog 32 := fun a w => Tryd.call32 a w
theorem F32_fn {c_1 : Option Addr} {R : Ending → HP → Prop} {m : HP} (h : F32 c_1 R m) : Does Tryd.prog 32 #[(.pointer c_1)] m R :=
  fn_of_den mixed (ann := ann32) Tryd.func32 call32 (c := code32) (by kernel_rfl) (by kernel_rfl) (args := [(.pointer c_1)]) (Nat.le_of_ble_eq_true (by kernel_rfl)) (.inl (by kernel_rfl)) (by rw [den32]; exact h)
/-! (*treadle/treadleref07.Cells).Alloc -/
noncomputable def code55 : Code := (Tryd.f55.body).getD .skip
def F55_j15 (c_1 : Option Addr) (e_21 : Int) (i_22 : Int) (R : Ending → HP → Prop) : HP → Prop :=
  hIf (e_21 != 0)
    (R (.returned (.tuple #[(.int .i64 0), (.int .i64 e_21)])))
    (hNil c_1 fun a_23 =>
  hLoad .slice (a_23.add 1) fun (v_24 : Sl) =>
  hIdx v_24.a v_24.n i_22 5 fun a_25 =>
  hLoad (.int .i64) a_25 fun (v_26 : Int) =>
  hLoad (.int .i64) (a_25.add 1) fun (v_27 : Int) =>
  hLoad (.int .i64) (a_25.add 2) fun (v_28 : Int) =>
  hLoad .slice (a_25.add 3) fun (v_29 : Sl) =>
  hLoad (.int .i64) (a_25.add 4) fun (v_30 : Int) =>
  hCall Tryd.prog 76 #[(.agg #[(.int .i64 v_26), (.int .i64 v_27), (.int .i64 v_28), (.slice v_29.a v_29.n v_29.cap), (.int .i64 v_30)])] (fun ch => R (.panicked ch)) fun r_31 m => ∃ (v_32 : Int), r_31 = (.int .i64 v_32) ∧ (hNil c_1 fun a_33 =>
  hLoad .slice (a_33.add 1) fun (v_34 : Sl) =>
  hIdx v_34.a v_34.n i_22 5 fun a_35 =>
  hLoad .slice (a_35.add 3) fun (v_36 : Sl) =>
  hIdx v_36.a v_36.n v_32 1 fun a_37 =>
  hStore (.bool true) a_37
    (hNil c_1 fun a_38 =>
  hLoad .slice (a_38.add 1) fun (v_39 : Sl) =>
  hIdx v_39.a v_39.n i_22 5 fun a_40 =>
  hLoad (.int .i64) a_40 fun (v_41 : Int) =>
  hInt .i64 (v_41 * 64) fun v_42 =>
  hNil c_1 fun a_43 =>
  hLoad .slice (a_43.add 1) fun (v_44 : Sl) =>
  hIdx v_44.a v_44.n i_22 5 fun a_45 =>
  hLoad (.int .i64) (a_45.add 2) fun (v_46 : Int) =>
  hInt .i64 (v_32 * v_46) fun v_47 =>
  hInt .i64 (v_42 + v_47) fun v_48 =>
  R (.returned (.tuple #[(.int .i64 v_48), (.int .i64 0)])))) m)
def F55 (c_1 : Option Addr) (p_2 : Int) (words_3 : Int) (R : Ending → HP → Prop) : HP → Prop :=
  hIf (decide (p_2 < 0))
    (R (.returned (.tuple #[(.int .i64 0), (.int .i64 1)])))
    (hNil c_1 fun a_4 =>
  hLoad (.int .i64) (a_4.add 2) fun (v_5 : Int) =>
  hIf (decide (p_2 ≥ v_5))
    (R (.returned (.tuple #[(.int .i64 0), (.int .i64 1)])))
    (hIf (decide (words_3 < 1))
    (R (.returned (.tuple #[(.int .i64 0), (.int .i64 1)])))
    (hIf (decide (words_3 > 1024))
    (R (.returned (.tuple #[(.int .i64 0), (.int .i64 2)])))
    (hCall Tryd.prog 73 #[(.int .i64 words_3)] (fun ch => R (.panicked ch)) fun r_6 m => ∃ (v_7 : Int) (v_8 : Int), r_6 = (.tuple #[(.int .i64 v_7), (.int .i64 v_8)]) ∧ (hLet (α := Int × Int × Unit) (fun k_9 => hIf (v_8 != 0)
    (hInt .i64 (words_3 + 64) fun v_10 =>
  hInt .i64 (v_10 - 1) fun v_11 =>
  hQuo .i64 v_11 64 fun v_12 =>
  hInt .i64 (v_12 * 64) fun v_13 =>
  hCall Tryd.prog 74 #[(.pointer c_1), (.int .i64 v_12), (.int .i64 (-1)), (.int .i64 v_13), (.int .i64 1)] (fun ch => R (.panicked ch)) fun r_14 m => ∃ (v_15 : Int) (v_16 : Int), r_14 = (.tuple #[(.int .i64 v_15), (.int .i64 v_16)]) ∧ (k_9 (v_16, v_15, ())) m)
    (hCall Tryd.prog 75 #[(.pointer c_1), (.int .i64 p_2), (.int .i64 v_7)] (fun ch => R (.panicked ch)) fun r_17 m => ∃ (v_18 : Int) (v_19 : Int), r_17 = (.tuple #[(.int .i64 v_18), (.int .i64 v_19)]) ∧ (k_9 (v_19, v_18, ())) m))
    (fun x_20 => hAll fun _ => F55_j15 c_1 x_20.1 x_20.2.1 R)) m))))
def ann55 : Ann := { loop := [], cut := [(15, [(9, (Ty.int .i64)), (10, (Ty.int .i64))])] }
theorem den55 (c_1 : Option Addr) (p_2 : Int) (words_3 : Int) (R : Ending → HP → Prop) : denF Tryd.prog ann55 Tryd.f55.ntmps Tryd.f55.results.toList code55 [(.pointer c_1), (.int .i64 p_2), (.int .i64 words_3)] R = F55 c_1 p_2 words_3 R := by kernel_rfl
theorem call55 : Callable Tryd.prog 55 := fun a w => Tryd.call55 a w
theorem F55_fn {c_1 : Option Addr} {p_2 : Int} {words_3 : Int} {R : Ending → HP → Prop} {m : HP} (h : F55 c_1 p_2 words_3 R m) : Does Tryd.prog 55 #[(.pointer c_1), (.int .i64 p_2), (.int .i64 words_3)] m R :=
  fn_of_den mixed (ann := ann55) Tryd.func55 call55 (c := code55) (by kernel_rfl) (by kernel_rfl) (args := [(.pointer c_1), (.int .i64 p_2), (.int .i64 words_3)]) (Nat.le_of_ble_eq_true (by kernel_rfl)) (.inl (by kernel_rfl)) (by rw [den55]; exact h)
/-! (*treadle/treadleref07.Cells).Free -/
noncomputable def code56 : Code := (Tryd.f56.body).getD .skip
def F56 (c_1 : Option Addr) (addr_2 : Int) (R : Ending → HP → Prop) : HP → Prop :=
  hCall Tryd.prog 60 #[(.pointer c_1), (.int .i64 addr_2)] (fun ch => R (.panicked ch)) fun r_3 m => ∃ (v_4 : Int) (v_5 : Int), r_3 = (.tuple #[(.int .i64 v_4), (.int .i64 v_5)]) ∧ (hIf (decide (v_4 < 0))
    (R (.returned (.int .i64 4)))
    (hNil c_1 fun a_6 =>
  hLoad .slice (a_6.add 1) fun (v_7 : Sl) =>
  hIdx v_7.a v_7.n v_4 5 fun a_8 =>
  hLoad (.int .i64) a_8 fun (v_9 : Int) =>
  hInt .i64 (v_9 * 64) fun v_10 =>
  hNil c_1 fun a_11 =>
  hLoad .slice (a_11.add 1) fun (v_12 : Sl) =>
  hIdx v_12.a v_12.n v_4 5 fun a_13 =>
  hLoad (.int .i64) (a_13.add 2) fun (v_14 : Int) =>
  hInt .i64 (v_5 * v_14) fun v_15 =>
  hInt .i64 (v_10 + v_15) fun v_16 =>
  hIf (v_16 != addr_2)
    (R (.returned (.int .i64 4)))
    (hNil c_1 fun a_17 =>
  hLoad .slice (a_17.add 1) fun (v_18 : Sl) =>
  hIdx v_18.a v_18.n v_4 5 fun a_19 =>
  hLoad .slice (a_19.add 3) fun (v_20 : Sl) =>
  hIdx v_20.a v_20.n v_5 1 fun a_21 =>
  hStore (.bool false) a_21
    (hCall Tryd.prog 77 #[(.pointer c_1)] (fun ch => R (.panicked ch)) fun _ =>
  R (.returned (.int .i64 0)))))) m
def ann56 : Ann := { loop := [], cut := [] }
theorem den56 (c_1 : Option Addr) (addr_2 : Int) (R : Ending → HP → Prop) : denF Tryd.prog ann56 Tryd.f56.ntmps Tryd.f56.results.toList code56 [(.pointer c_1), (.int .i64 addr_2)] R = F56 c_1 addr_2 R := by kernel_rfl
theorem call56 : Callable Tryd.prog 56 := fun a w => Tryd.call56 a w
theorem F56_fn {c_1 : Option Addr} {addr_2 : Int} {R : Ending → HP → Prop} {m : HP} (h : F56 c_1 addr_2 R m) : Does Tryd.prog 56 #[(.pointer c_1), (.int .i64 addr_2)] m R :=
  fn_of_den mixed (ann := ann56) Tryd.func56 call56 (c := code56) (by kernel_rfl) (by kernel_rfl) (args := [(.pointer c_1), (.int .i64 addr_2)]) (Nat.le_of_ble_eq_true (by kernel_rfl)) (.inl (by kernel_rfl)) (by rw [den56]; exact h)
/-! (*treadle/treadleref07.Cells).Flush -/
noncomputable def code57 : Code := (Tryd.f57.body).getD .skip
def F57_j5 (i_7 : Int) (again_6 : (Int × Unit) → HP → Prop) (R : Ending → HP → Prop) : HP → Prop :=
  hInt .i64 (i_7 + 1) fun v_19 =>
  again_6 (v_19, ())
def F57_l4 (c_1 : Option Addr) (p_2 : Int) (i_7 : Int) (again_6 : (Int × Unit) → HP → Prop) (R : Ending → HP → Prop) : HP → Prop :=
  hNil c_1 fun a_8 =>
  hLoad .slice (a_8.add 1) fun (v_9 : Sl) =>
  hIf (decide (i_7 < ((v_9.n : Nat) : Int)))
    (hLet (α := Unit) (fun k_10 => hNil c_1 fun a_11 =>
  hLoad .slice (a_11.add 1) fun (v_12 : Sl) =>
  hIdx v_12.a v_12.n i_7 5 fun a_13 =>
  hLoad (.int .i64) (a_13.add 4) fun (v_14 : Int) =>
  hIf (v_14 == p_2)
    (hNil c_1 fun a_15 =>
  hLoad .slice (a_15.add 1) fun (v_16 : Sl) =>
  hIdx v_16.a v_16.n i_7 5 fun a_17 =>
  hStore (.int .i64 (-1)) (a_17.add 4)
    (k_10 (())))
    (k_10 (())))
    (fun x_18 => hAll fun _ => F57_j5 i_7 again_6 R))
    (hCall Tryd.prog 77 #[(.pointer c_1)] (fun ch => R (.panicked ch)) fun _ =>
  R (.returned (.int .i64 0)))
def F57 (c_1 : Option Addr) (p_2 : Int) (R : Ending → HP → Prop) : HP → Prop :=
  hIf (decide (p_2 < 0))
    (R (.returned (.int .i64 1)))
    (hNil c_1 fun a_3 =>
  hLoad (.int .i64) (a_3.add 2) fun (v_4 : Int) =>
  hIf (decide (p_2 ≥ v_4))
    (R (.returned (.int .i64 1)))
    (hLoop (α := Int × Unit) (0, ()) fun x_5 again_6 => hAll fun _ => F57_l4 c_1 p_2 x_5.1 again_6 R))
def ann57 : Ann := { loop := [(4, [(5, (Ty.int .i64))])], cut := [(5, [])] }
theorem den57 (c_1 : Option Addr) (p_2 : Int) (R : Ending → HP → Prop) : denF Tryd.prog ann57 Tryd.f57.ntmps Tryd.f57.results.toList code57 [(.pointer c_1), (.int .i64 p_2)] R = F57 c_1 p_2 R := by kernel_rfl
theorem call57 : Callable Tryd.prog 57 := fun a w => Tryd.call57 a w
theorem F57_fn {c_1 : Option Addr} {p_2 : Int} {R : Ending → HP → Prop} {m : HP} (h : F57 c_1 p_2 R m) : Does Tryd.prog 57 #[(.pointer c_1), (.int .i64 p_2)] m R :=
  fn_of_den mixed (ann := ann57) Tryd.func57 call57 (c := code57) (by kernel_rfl) (by kernel_rfl) (args := [(.pointer c_1), (.int .i64 p_2)]) (Nat.le_of_ble_eq_true (by kernel_rfl)) (.inl (by kernel_rfl)) (by rw [den57]; exact h)
/-! (*treadle/treadleref07.Cells).Pages -/
noncomputable def code58 : Code := (Tryd.f58.body).getD .skip
def F58 (c_1 : Option Addr) (n_2 : Int) (R : Ending → HP → Prop) : HP → Prop :=
  hCall Tryd.prog 74 #[(.pointer c_1), (.int .i64 n_2), (.int .i64 (-2)), (.int .i64 1), (.int .i64 0)] (fun ch => R (.panicked ch)) fun r_3 m => ∃ (v_4 : Int) (v_5 : Int), r_3 = (.tuple #[(.int .i64 v_4), (.int .i64 v_5)]) ∧ (hIf (v_5 != 0)
    (R (.returned (.tuple #[(.int .i64 0), (.int .i64 v_5)])))
    (hNil c_1 fun a_6 =>
  hLoad .slice (a_6.add 1) fun (v_7 : Sl) =>
  hIdx v_7.a v_7.n v_4 5 fun a_8 =>
  hLoad (.int .i64) a_8 fun (v_9 : Int) =>
  R (.returned (.tuple #[(.int .i64 v_9), (.int .i64 0)])))) m
def ann58 : Ann := { loop := [], cut := [] }
theorem den58 (c_1 : Option Addr) (n_2 : Int) (R : Ending → HP → Prop) : denF Tryd.prog ann58 Tryd.f58.ntmps Tryd.f58.results.toList code58 [(.pointer c_1), (.int .i64 n_2)] R = F58 c_1 n_2 R := by kernel_rfl
theorem call58 : Callable Tryd.prog 58 := fun a w => Tryd.call58 a w
theorem F58_fn {c_1 : Option Addr} {n_2 : Int} {R : Ending → HP → Prop} {m : HP} (h : F58 c_1 n_2 R m) : Does Tryd.prog 58 #[(.pointer c_1), (.int .i64 n_2)] m R :=
  fn_of_den mixed (ann := ann58) Tryd.func58 call58 (c := code58) (by kernel_rfl) (by kernel_rfl) (args := [(.pointer c_1), (.int .i64 n_2)]) (Nat.le_of_ble_eq_true (by kernel_rfl)) (.inl (by kernel_rfl)) (by rw [den58]; exact h)
/-! (*treadle/treadleref07.Cells).Give -/
noncomputable def code59 : Code := (Tryd.f59.body).getD .skip
def F59_j5 (i_7 : Int) (again_4 : (Sl × Bool × Int × Unit) → HP → Prop) (list_40 : Sl) (found_41 : Bool) (R : Ending → HP → Prop) : HP → Prop :=
  hInt .i64 (i_7 + 1) fun v_42 =>
  again_4 (list_40, found_41, v_42, ())
def F59_l4 (c_1 : Option Addr) (base_2 : Int) (list_5 : Sl) (found_6 : Bool) (i_7 : Int) (again_4 : (Sl × Bool × Int × Unit) → HP → Prop) (R : Ending → HP → Prop) : HP → Prop :=
  hNil c_1 fun a_8 =>
  hLoad .slice (a_8.add 1) fun (v_9 : Sl) =>
  hIf (decide (i_7 < ((v_9.n : Nat) : Int)))
    (hLet (α := Sl × Bool × Unit) (fun k_10 => hNil c_1 fun a_11 =>
  hLoad .slice (a_11.add 1) fun (v_12 : Sl) =>
  hIdx v_12.a v_12.n i_7 5 fun a_13 =>
  hLoad (.int .i64) a_13 fun (v_14 : Int) =>
  hIf (v_14 == base_2)
    (hNil c_1 fun a_15 =>
  hLoad .slice (a_15.add 1) fun (v_16 : Sl) =>
  hIdx v_16.a v_16.n i_7 5 fun a_17 =>
  hLoad (.int .i64) (a_17.add 1) fun (v_18 : Int) =>
  hIf (v_18 == (-2))
    (k_10 (list_5, true, ()))
    (hNil c_1 fun a_19 =>
  hLoad .slice (a_19.add 1) fun (v_20 : Sl) =>
  hIdx v_20.a v_20.n i_7 5 fun a_21 =>
  hLoad (.int .i64) a_21 fun (v_22 : Int) =>
  hLoad (.int .i64) (a_21.add 1) fun (v_23 : Int) =>
  hLoad (.int .i64) (a_21.add 2) fun (v_24 : Int) =>
  hLoad .slice (a_21.add 3) fun (v_25 : Sl) =>
  hLoad (.int .i64) (a_21.add 4) fun (v_26 : Int) =>
  hNew #[(.int .i64 v_22), (.int .i64 v_23), (.int .i64 v_24), (.slice v_25.a v_25.n v_25.cap), (.int .i64 v_26)] 118 fun b_27 =>
  hAppend 5 56 #[(.int .i64 0), (.int .i64 0), (.int .i64 0), (.slice none 0 0), (.int .i64 0)] 118 ⟨list_5.a, list_5.n, list_5.cap⟩ ⟨(some ⟨b_27, 0, none⟩), 1, 1⟩ fun v_28 =>
  k_10 (v_28, found_6, ())))
    (hNil c_1 fun a_29 =>
  hLoad .slice (a_29.add 1) fun (v_30 : Sl) =>
  hIdx v_30.a v_30.n i_7 5 fun a_31 =>
  hLoad (.int .i64) a_31 fun (v_32 : Int) =>
  hLoad (.int .i64) (a_31.add 1) fun (v_33 : Int) =>
  hLoad (.int .i64) (a_31.add 2) fun (v_34 : Int) =>
  hLoad .slice (a_31.add 3) fun (v_35 : Sl) =>
  hLoad (.int .i64) (a_31.add 4) fun (v_36 : Int) =>
  hNew #[(.int .i64 v_32), (.int .i64 v_33), (.int .i64 v_34), (.slice v_35.a v_35.n v_35.cap), (.int .i64 v_36)] 118 fun b_37 =>
  hAppend 5 56 #[(.int .i64 0), (.int .i64 0), (.int .i64 0), (.slice none 0 0), (.int .i64 0)] 118 ⟨list_5.a, list_5.n, list_5.cap⟩ ⟨(some ⟨b_37, 0, none⟩), 1, 1⟩ fun v_38 =>
  k_10 (v_38, found_6, ())))
    (fun x_39 => hAll fun _ => F59_j5 i_7 again_4 x_39.1 x_39.2.1 R))
    (hIf (!found_6)
    (R (.returned (.int .i64 4)))
    (hNil c_1 fun a_43 =>
  hStore (.slice list_5.a list_5.n list_5.cap) (a_43.add 1)
    (hNil c_1 fun a_44 =>
  hLoad .ptr a_44 fun (v_45 : Option Addr) =>
  hCall Tryd.prog 14 #[(.pointer v_45), (.int .i64 base_2)] (fun ch => R (.panicked ch)) fun r_46 m => ∃ (v_47 : Int), r_46 = (.int .i64 v_47) ∧ (R (.returned (.int .i64 v_47))) m)))
def F59 (c_1 : Option Addr) (base_2 : Int) (R : Ending → HP → Prop) : HP → Prop :=
  hLoop (α := Sl × Bool × Int × Unit) ((⟨none, 0, 0⟩ : Sl), false, 0, ()) fun x_3 again_4 => hAll fun _ => F59_l4 c_1 base_2 x_3.1 x_3.2.1 x_3.2.2.1 again_4 R
def ann59 : Ann := { loop := [(4, [(5, Ty.slice), (6, Ty.bool), (7, (Ty.int .i64))])], cut := [(5, [(5, Ty.slice), (6, Ty.bool)])] }
theorem den59 (c_1 : Option Addr) (base_2 : Int) (R : Ending → HP → Prop) : denF Tryd.prog ann59 Tryd.f59.ntmps Tryd.f59.results.toList code59 [(.pointer c_1), (.int .i64 base_2)] R = F59 c_1 base_2 R := by kernel_rfl
theorem call59 : Callable Tryd.prog 59 := fun a w => Tryd.call59 a w
theorem F59_fn {c_1 : Option Addr} {base_2 : Int} {R : Ending → HP → Prop} {m : HP} (h : F59 c_1 base_2 R m) : Does Tryd.prog 59 #[(.pointer c_1), (.int .i64 base_2)] m R :=
  fn_of_den mixed (ann := ann59) Tryd.func59 call59 (c := code59) (by kernel_rfl) (by kernel_rfl) (args := [(.pointer c_1), (.int .i64 base_2)]) (Nat.le_of_ble_eq_true (by kernel_rfl)) (.inl (by kernel_rfl)) (by rw [den59]; exact h)
/-! (*treadle/treadleref07.Cells).find -/
noncomputable def code60 : Code := (Tryd.f60.body).getD .skip
def F60_j3 (i_5 : Int) (again_4 : (Int × Unit) → HP → Prop) (R : Ending → HP → Prop) : HP → Prop :=
  hInt .i64 (i_5 + 1) fun v_29 =>
  again_4 (v_29, ())
def F60_l2 (c_1 : Option Addr) (addr_2 : Int) (i_5 : Int) (again_4 : (Int × Unit) → HP → Prop) (R : Ending → HP → Prop) : HP → Prop :=
  hNil c_1 fun a_6 =>
  hLoad .slice (a_6.add 1) fun (v_7 : Sl) =>
  hIf (decide (i_5 < ((v_7.n : Nat) : Int)))
    (hLet (α := Unit) (fun k_8 => hNil c_1 fun a_9 =>
  hLoad .slice (a_9.add 1) fun (v_10 : Sl) =>
  hIdx v_10.a v_10.n i_5 5 fun a_11 =>
  hLoad (.int .i64) a_11 fun (v_12 : Int) =>
  hLoad (.int .i64) (a_11.add 1) fun (v_13 : Int) =>
  hLoad (.int .i64) (a_11.add 2) fun (v_14 : Int) =>
  hLoad .slice (a_11.add 3) fun (v_15 : Sl) =>
  hLoad (.int .i64) (a_11.add 4) fun (v_16 : Int) =>
  hNew #[(.int .i64 0), (.int .i64 0), (.int .i64 0), (.slice none 0 0), (.int .i64 0)] 118 fun b_17 =>
  hStore (.int .i64 v_12) ⟨b_17, 0, none⟩
    (hStore (.int .i64 v_13) ⟨b_17, 1, none⟩
    (hStore (.int .i64 v_14) ⟨b_17, 2, none⟩
    (hStore (.slice v_15.a v_15.n v_15.cap) ⟨b_17, 3, none⟩
    (hStore (.int .i64 v_16) ⟨b_17, 4, none⟩
    (hLoad (.int .i64) ⟨b_17, 0, none⟩ fun (v_18 : Int) =>
  hInt .i64 (v_18 * 64) fun v_19 =>
  hIf (decide (addr_2 < v_19))
    (k_8 (()))
    (hLoad .slice ⟨b_17, 3, none⟩ fun (v_20 : Sl) =>
  hIf (((v_20.n : Nat) : Int) == 0)
    (k_8 (()))
    (hInt .i64 (addr_2 - v_19) fun v_21 =>
  hLoad (.int .i64) ⟨b_17, 2, none⟩ fun (v_22 : Int) =>
  hQuo .i64 v_21 v_22 fun v_23 =>
  hLoad .slice ⟨b_17, 3, none⟩ fun (v_24 : Sl) =>
  hIf (decide (v_23 < ((v_24.n : Nat) : Int)))
    (hLoad .slice ⟨b_17, 3, none⟩ fun (v_25 : Sl) =>
  hIdx v_25.a v_25.n v_23 1 fun a_26 =>
  hLoad .bool a_26 fun (v_27 : Bool) =>
  hIf v_27
    (R (.returned (.tuple #[(.int .i64 i_5), (.int .i64 v_23)])))
    (k_8 (())))
    (k_8 (()))))))))))
    (fun x_28 => hAll fun _ => F60_j3 i_5 again_4 R))
    (R (.returned (.tuple #[(.int .i64 (-1)), (.int .i64 0)])))
def F60 (c_1 : Option Addr) (addr_2 : Int) (R : Ending → HP → Prop) : HP → Prop :=
  hLoop (α := Int × Unit) (0, ()) fun x_3 again_4 => hAll fun _ => F60_l2 c_1 addr_2 x_3.1 again_4 R
def ann60 : Ann := { loop := [(2, [(6, (Ty.int .i64))])], cut := [(3, [])] }
theorem den60 (c_1 : Option Addr) (addr_2 : Int) (R : Ending → HP → Prop) : denF Tryd.prog ann60 Tryd.f60.ntmps Tryd.f60.results.toList code60 [(.pointer c_1), (.int .i64 addr_2)] R = F60 c_1 addr_2 R := by kernel_rfl
theorem call60 : Callable Tryd.prog 60 := fun a w => Tryd.call60 a w
theorem F60_fn {c_1 : Option Addr} {addr_2 : Int} {R : Ending → HP → Prop} {m : HP} (h : F60 c_1 addr_2 R m) : Does Tryd.prog 60 #[(.pointer c_1), (.int .i64 addr_2)] m R :=
  fn_of_den mixed (ann := ann60) Tryd.func60 call60 (c := code60) (by kernel_rfl) (by kernel_rfl) (args := [(.pointer c_1), (.int .i64 addr_2)]) (Nat.le_of_ble_eq_true (by kernel_rfl)) (.inl (by kernel_rfl)) (by rw [den60]; exact h)
/-! treadle/treadleref06.DocOf -/
noncomputable def code73 : Code := (Tryd.f73.body).getD .skip
def F73_l4 (words_1 : Int) (c_4 : Int) (again_3 : (Int × Unit) → HP → Prop) (R : Ending → HP → Prop) : HP → Prop :=
  hIf (decide (c_4 < 16))
    (hCall Tryd.prog 85 #[(.int .i64 c_4)] (fun ch => R (.panicked ch)) fun r_5 m => ∃ (v_6 : Int), r_5 = (.int .i64 v_6) ∧ (hIf (decide (v_6 ≥ words_1))
    (R (.returned (.tuple #[(.int .i64 c_4), (.int .i64 0)])))
    (hInt .i64 (c_4 + 1) fun v_7 =>
  again_3 (v_7, ()))) m)
    (R (.returned (.tuple #[(.int .i64 0), (.int .i64 2)])))
def F73 (words_1 : Int) (R : Ending → HP → Prop) : HP → Prop :=
  hIf (decide (words_1 < 1))
    (R (.returned (.tuple #[(.int .i64 0), (.int .i64 1)])))
    (hLoop (α := Int × Unit) (0, ()) fun x_2 again_3 => hAll fun _ => F73_l4 words_1 x_2.1 again_3 R)
def ann73 : Ann := { loop := [(4, [(4, (Ty.int .i64))])], cut := [] }
theorem den73 (words_1 : Int) (R : Ending → HP → Prop) : denF Tryd.prog ann73 Tryd.f73.ntmps Tryd.f73.results.toList code73 [(.int .i64 words_1)] R = F73 words_1 R := by kernel_rfl
theorem call73 : Callable Tryd.prog 73 := fun a w => Tryd.call73 a w
theorem F73_fn {words_1 : Int} {R : Ending → HP → Prop} {m : HP} (h : F73 words_1 R m) : Does Tryd.prog 73 #[(.int .i64 words_1)] m R :=
  fn_of_den mixed (ann := ann73) Tryd.func73 call73 (c := code73) (by kernel_rfl) (by kernel_rfl) (args := [(.int .i64 words_1)]) (Nat.le_of_ble_eq_true (by kernel_rfl)) (.inl (by kernel_rfl)) (by rw [den73]; exact h)
/-! (*treadle/treadleref07.Cells).make_ -/
noncomputable def code74 : Code := (Tryd.f74.body).getD .skip
def F74 (c_1 : Option Addr) (pages_2 : Int) (class_3 : Int) (words_4 : Int) (cells_5 : Int) (R : Ending → HP → Prop) : HP → Prop :=
  hNil c_1 fun a_6 =>
  hLoad .ptr a_6 fun (v_7 : Option Addr) =>
  hCall Tryd.prog 12 #[(.pointer v_7), (.int .i64 pages_2), (.int .i64 0)] (fun ch => R (.panicked ch)) fun r_8 m => ∃ (r_9 : Int) (r_10 : Int) (r_11 : Int) (v_12 : Int), r_8 = (.tuple #[(.agg #[(.int .i64 r_9), (.int .i64 r_10), (.int .i64 r_11)]), (.int .i64 v_12)]) ∧ (hNew #[(.int .i64 0), (.int .i64 0), (.int .i64 0)] 34 fun b_13 =>
  hStore (.int .i64 r_9) ⟨b_13, 0, none⟩
    (hStore (.int .i64 r_10) ⟨b_13, 1, none⟩
    (hStore (.int .i64 r_11) ⟨b_13, 2, none⟩
    (hIf (v_12 != 0)
    (R (.returned (.tuple #[(.int .i64 0), (.int .i64 v_12)])))
    (hNil c_1 fun a_14 =>
  hLoad .slice (a_14.add 1) fun (v_15 : Sl) =>
  hLoad (.int .i64) ⟨b_13, 0, none⟩ fun (v_16 : Int) =>
  hMake 1 1 #[(.bool false)] 4 cells_5 cells_5 fun b_17 =>
  hLoad .slice (a_14.add 1) fun (v_18 : Sl) =>
  fun m => ((.slice v_18.a v_18.n v_18.cap) : Value) = (.slice v_15.a v_15.n v_15.cap) ∧ (hLoad (.int .i64) ⟨b_13, 0, none⟩ fun (v_19 : Int) =>
  fun m => ((.int .i64 v_19) : Value) = (.int .i64 v_16) ∧ (hNew #[(.int .i64 v_16), (.int .i64 class_3), (.int .i64 words_4), (.slice (some ⟨b_17, 0, none⟩) (Int.toNat cells_5) (Int.toNat cells_5)), (.int .i64 (-1))] 118 fun b_20 =>
  hLoad .slice (a_14.add 1) fun (v_21 : Sl) =>
  fun m => ((.slice v_21.a v_21.n v_21.cap) : Value) = (.slice v_15.a v_15.n v_15.cap) ∧ (hAppend 5 56 #[(.int .i64 0), (.int .i64 0), (.int .i64 0), (.slice none 0 0), (.int .i64 0)] 118 ⟨v_15.a, v_15.n, v_15.cap⟩ ⟨(some ⟨b_20, 0, none⟩), 1, 1⟩ fun v_22 =>
  hNil c_1 fun a_23 =>
  hStore (.slice v_22.a v_22.n v_22.cap) (a_23.add 1)
    (hNil c_1 fun a_24 =>
  hLoad .slice (a_24.add 1) fun (v_25 : Sl) =>
  hInt .i64 (((v_25.n : Nat) : Int) - 1) fun v_26 =>
  R (.returned (.tuple #[(.int .i64 v_26), (.int .i64 0)])))) m) m) m))))) m
def ann74 : Ann := { loop := [], cut := [] }
theorem den74 (c_1 : Option Addr) (pages_2 : Int) (class_3 : Int) (words_4 : Int) (cells_5 : Int) (R : Ending → HP → Prop) : denF Tryd.prog ann74 Tryd.f74.ntmps Tryd.f74.results.toList code74 [(.pointer c_1), (.int .i64 pages_2), (.int .i64 class_3), (.int .i64 words_4), (.int .i64 cells_5)] R = F74 c_1 pages_2 class_3 words_4 cells_5 R := by kernel_rfl
theorem call74 : Callable Tryd.prog 74 := fun a w => Tryd.call74 a w
theorem F74_fn {c_1 : Option Addr} {pages_2 : Int} {class_3 : Int} {words_4 : Int} {cells_5 : Int} {R : Ending → HP → Prop} {m : HP} (h : F74 c_1 pages_2 class_3 words_4 cells_5 R m) : Does Tryd.prog 74 #[(.pointer c_1), (.int .i64 pages_2), (.int .i64 class_3), (.int .i64 words_4), (.int .i64 cells_5)] m R :=
  fn_of_den mixed (ann := ann74) Tryd.func74 call74 (c := code74) (by kernel_rfl) (by kernel_rfl) (args := [(.pointer c_1), (.int .i64 pages_2), (.int .i64 class_3), (.int .i64 words_4), (.int .i64 cells_5)]) (Nat.le_of_ble_eq_true (by kernel_rfl)) (.inl (by kernel_rfl)) (by rw [den74]; exact h)
/-! (*treadle/treadleref07.Cells).pick -/
noncomputable def code75 : Code := (Tryd.f75.body).getD .skip
def F75_j4 (i_6 : Int) (again_5 : (Int × Unit) → HP → Prop) (R : Ending → HP → Prop) : HP → Prop :=
  hInt .i64 (i_6 + 1) fun v_37 =>
  again_5 (v_37, ())
def F75_j13 (i_41 : Int) (again_39 : (Int × Int × Unit) → HP → Prop) (best_69 : Int) (R : Ending → HP → Prop) : HP → Prop :=
  hInt .i64 (i_41 + 1) fun v_70 =>
  again_39 (best_69, v_70, ())
def F75_j22 (c_1 : Option Addr) (p_2 : Int) (best_82 : Int) (R : Ending → HP → Prop) : HP → Prop :=
  hNil c_1 fun a_83 =>
  hLoad .slice (a_83.add 1) fun (v_84 : Sl) =>
  hIdx v_84.a v_84.n best_82 5 fun a_85 =>
  hStore (.int .i64 p_2) (a_85.add 4)
    (R (.returned (.tuple #[(.int .i64 best_82), (.int .i64 0)])))
def F75_l12 (c_1 : Option Addr) (p_2 : Int) (class_3 : Int) (best_40 : Int) (i_41 : Int) (again_39 : (Int × Int × Unit) → HP → Prop) (R : Ending → HP → Prop) : HP → Prop :=
  hNil c_1 fun a_42 =>
  hLoad .slice (a_42.add 1) fun (v_43 : Sl) =>
  hIf (decide (i_41 < ((v_43.n : Nat) : Int)))
    (hLet (α := Int × Unit) (fun k_44 => hNil c_1 fun a_45 =>
  hLoad .slice (a_45.add 1) fun (v_46 : Sl) =>
  hIdx v_46.a v_46.n i_41 5 fun a_47 =>
  hLoad (.int .i64) a_47 fun (v_48 : Int) =>
  hLoad (.int .i64) (a_47.add 1) fun (v_49 : Int) =>
  hLoad (.int .i64) (a_47.add 2) fun (v_50 : Int) =>
  hLoad .slice (a_47.add 3) fun (v_51 : Sl) =>
  hLoad (.int .i64) (a_47.add 4) fun (v_52 : Int) =>
  hNew #[(.int .i64 0), (.int .i64 0), (.int .i64 0), (.slice none 0 0), (.int .i64 0)] 118 fun b_53 =>
  hStore (.int .i64 v_48) ⟨b_53, 0, none⟩
    (hStore (.int .i64 v_49) ⟨b_53, 1, none⟩
    (hStore (.int .i64 v_50) ⟨b_53, 2, none⟩
    (hStore (.slice v_51.a v_51.n v_51.cap) ⟨b_53, 3, none⟩
    (hStore (.int .i64 v_52) ⟨b_53, 4, none⟩
    (hLoad (.int .i64) ⟨b_53, 1, none⟩ fun (v_54 : Int) =>
  hIf (v_54 == class_3)
    (hLoad (.int .i64) ⟨b_53, 4, none⟩ fun (v_55 : Int) =>
  hIf (decide (v_55 < 0))
    (hLoad (.int .i64) ⟨b_53, 0, none⟩ fun (v_56 : Int) =>
  hLoad (.int .i64) ⟨b_53, 1, none⟩ fun (v_57 : Int) =>
  hLoad (.int .i64) ⟨b_53, 2, none⟩ fun (v_58 : Int) =>
  hLoad .slice ⟨b_53, 3, none⟩ fun (v_59 : Sl) =>
  hLoad (.int .i64) ⟨b_53, 4, none⟩ fun (v_60 : Int) =>
  hCall Tryd.prog 76 #[(.agg #[(.int .i64 v_56), (.int .i64 v_57), (.int .i64 v_58), (.slice v_59.a v_59.n v_59.cap), (.int .i64 v_60)])] (fun ch => R (.panicked ch)) fun r_61 m => ∃ (v_62 : Int), r_61 = (.int .i64 v_62) ∧ (hIf (decide (v_62 ≥ 0))
    (hIf (decide (best_40 < 0))
    (k_44 (i_41, ()))
    (hLoad (.int .i64) ⟨b_53, 0, none⟩ fun (v_63 : Int) =>
  hNil c_1 fun a_64 =>
  hLoad .slice (a_64.add 1) fun (v_65 : Sl) =>
  hIdx v_65.a v_65.n best_40 5 fun a_66 =>
  hLoad (.int .i64) a_66 fun (v_67 : Int) =>
  hIf (decide (v_63 < v_67))
    (k_44 (i_41, ()))
    (k_44 (best_40, ()))))
    (k_44 (best_40, ()))) m)
    (k_44 (best_40, ())))
    (k_44 (best_40, ()))))))))
    (fun x_68 => hAll fun _ => F75_j13 i_41 again_39 x_68.1 R))
    (hLet (α := Int × Unit) (fun k_71 => hIf (decide (best_40 < 0))
    (hCall Tryd.prog 86 #[(.int .i64 class_3)] (fun ch => R (.panicked ch)) fun r_72 m => ∃ (v_73 : Int), r_72 = (.int .i64 v_73) ∧ (hCall Tryd.prog 85 #[(.int .i64 class_3)] (fun ch => R (.panicked ch)) fun r_74 m => ∃ (v_75 : Int), r_74 = (.int .i64 v_75) ∧ (hCall Tryd.prog 87 #[(.int .i64 class_3)] (fun ch => R (.panicked ch)) fun r_76 m => ∃ (v_77 : Int), r_76 = (.int .i64 v_77) ∧ (hCall Tryd.prog 74 #[(.pointer c_1), (.int .i64 v_73), (.int .i64 class_3), (.int .i64 v_75), (.int .i64 v_77)] (fun ch => R (.panicked ch)) fun r_78 m => ∃ (v_79 : Int) (v_80 : Int), r_78 = (.tuple #[(.int .i64 v_79), (.int .i64 v_80)]) ∧ (hIf (v_80 != 0)
    (R (.returned (.tuple #[(.int .i64 0), (.int .i64 v_80)])))
    (k_71 (v_79, ()))) m) m) m) m)
    (k_71 (best_40, ())))
    (fun x_81 => hAll fun _ => F75_j22 c_1 p_2 x_81.1 R))
def F75_l3 (c_1 : Option Addr) (p_2 : Int) (class_3 : Int) (i_6 : Int) (again_5 : (Int × Unit) → HP → Prop) (R : Ending → HP → Prop) : HP → Prop :=
  hNil c_1 fun a_7 =>
  hLoad .slice (a_7.add 1) fun (v_8 : Sl) =>
  hIf (decide (i_6 < ((v_8.n : Nat) : Int)))
    (hLet (α := Unit) (fun k_9 => hNil c_1 fun a_10 =>
  hLoad .slice (a_10.add 1) fun (v_11 : Sl) =>
  hIdx v_11.a v_11.n i_6 5 fun a_12 =>
  hLoad (.int .i64) a_12 fun (v_13 : Int) =>
  hLoad (.int .i64) (a_12.add 1) fun (v_14 : Int) =>
  hLoad (.int .i64) (a_12.add 2) fun (v_15 : Int) =>
  hLoad .slice (a_12.add 3) fun (v_16 : Sl) =>
  hLoad (.int .i64) (a_12.add 4) fun (v_17 : Int) =>
  hNew #[(.int .i64 0), (.int .i64 0), (.int .i64 0), (.slice none 0 0), (.int .i64 0)] 118 fun b_18 =>
  hStore (.int .i64 v_13) ⟨b_18, 0, none⟩
    (hStore (.int .i64 v_14) ⟨b_18, 1, none⟩
    (hStore (.int .i64 v_15) ⟨b_18, 2, none⟩
    (hStore (.slice v_16.a v_16.n v_16.cap) ⟨b_18, 3, none⟩
    (hStore (.int .i64 v_17) ⟨b_18, 4, none⟩
    (hLoad (.int .i64) ⟨b_18, 1, none⟩ fun (v_19 : Int) =>
  hIf (v_19 != class_3)
    (k_9 (()))
    (hLoad (.int .i64) ⟨b_18, 4, none⟩ fun (v_20 : Int) =>
  hIf (v_20 == p_2)
    (hLoad (.int .i64) ⟨b_18, 0, none⟩ fun (v_21 : Int) =>
  hLoad (.int .i64) ⟨b_18, 1, none⟩ fun (v_22 : Int) =>
  hLoad (.int .i64) ⟨b_18, 2, none⟩ fun (v_23 : Int) =>
  hLoad .slice ⟨b_18, 3, none⟩ fun (v_24 : Sl) =>
  hLoad (.int .i64) ⟨b_18, 4, none⟩ fun (v_25 : Int) =>
  hCall Tryd.prog 76 #[(.agg #[(.int .i64 v_21), (.int .i64 v_22), (.int .i64 v_23), (.slice v_24.a v_24.n v_24.cap), (.int .i64 v_25)])] (fun ch => R (.panicked ch)) fun r_26 m => ∃ (v_27 : Int), r_26 = (.int .i64 v_27) ∧ (hIf (decide (v_27 ≥ 0))
    (R (.returned (.tuple #[(.int .i64 i_6), (.int .i64 0)])))
    (hLoad (.int .i64) ⟨b_18, 4, none⟩ fun (v_28 : Int) =>
  hIf (v_28 == p_2)
    (hNil c_1 fun a_29 =>
  hLoad .slice (a_29.add 1) fun (v_30 : Sl) =>
  hIdx v_30.a v_30.n i_6 5 fun a_31 =>
  hStore (.int .i64 (-1)) (a_31.add 4)
    (k_9 (())))
    (k_9 (())))) m)
    (hLoad (.int .i64) ⟨b_18, 4, none⟩ fun (v_32 : Int) =>
  hIf (v_32 == p_2)
    (hNil c_1 fun a_33 =>
  hLoad .slice (a_33.add 1) fun (v_34 : Sl) =>
  hIdx v_34.a v_34.n i_6 5 fun a_35 =>
  hStore (.int .i64 (-1)) (a_35.add 4)
    (k_9 (())))
    (k_9 (()))))))))))
    (fun x_36 => hAll fun _ => F75_j4 i_6 again_5 R))
    (hLoop (α := Int × Int × Unit) ((-1), 0, ()) fun x_38 again_39 => hAll fun _ => F75_l12 c_1 p_2 class_3 x_38.1 x_38.2.1 again_39 R)
def F75 (c_1 : Option Addr) (p_2 : Int) (class_3 : Int) (R : Ending → HP → Prop) : HP → Prop :=
  hLoop (α := Int × Unit) (0, ()) fun x_4 again_5 => hAll fun _ => F75_l3 c_1 p_2 class_3 x_4.1 again_5 R
def ann75 : Ann := { loop := [(3, [(9, (Ty.int .i64))]), (12, [(8, (Ty.int .i64)), (11, (Ty.int .i64))])], cut := [(4, []), (13, [(8, (Ty.int .i64))]), (22, [(8, (Ty.int .i64))])] }
theorem den75 (c_1 : Option Addr) (p_2 : Int) (class_3 : Int) (R : Ending → HP → Prop) : denF Tryd.prog ann75 Tryd.f75.ntmps Tryd.f75.results.toList code75 [(.pointer c_1), (.int .i64 p_2), (.int .i64 class_3)] R = F75 c_1 p_2 class_3 R := by kernel_rfl
theorem call75 : Callable Tryd.prog 75 := fun a w => Tryd.call75 a w
theorem F75_fn {c_1 : Option Addr} {p_2 : Int} {class_3 : Int} {R : Ending → HP → Prop} {m : HP} (h : F75 c_1 p_2 class_3 R m) : Does Tryd.prog 75 #[(.pointer c_1), (.int .i64 p_2), (.int .i64 class_3)] m R :=
  fn_of_den mixed (ann := ann75) Tryd.func75 call75 (c := code75) (by kernel_rfl) (by kernel_rfl) (args := [(.pointer c_1), (.int .i64 p_2), (.int .i64 class_3)]) (Nat.le_of_ble_eq_true (by kernel_rfl)) (.inl (by kernel_rfl)) (by rw [den75]; exact h)
/-! treadle/treadleref07.free -/
noncomputable def code76 : Code := (Tryd.f76.body).getD .skip
def F76_l2 (b_6 : Nat) (k_9 : Int) (again_8 : (Int × Unit) → HP → Prop) (R : Ending → HP → Prop) : HP → Prop :=
  hLoad .slice ⟨b_6, 3, none⟩ fun (v_10 : Sl) =>
  hIf (decide (k_9 < ((v_10.n : Nat) : Int)))
    (hLoad .slice ⟨b_6, 3, none⟩ fun (v_11 : Sl) =>
  hIdx v_11.a v_11.n k_9 1 fun a_12 =>
  hLoad .bool a_12 fun (v_13 : Bool) =>
  hIf (!v_13)
    (R (.returned (.int .i64 k_9)))
    (hInt .i64 (k_9 + 1) fun v_14 =>
  again_8 (v_14, ())))
    (R (.returned (.int .i64 (-1))))
def F76 (b_1 : Int) (b_2 : Int) (b_3 : Int) (b_4 : Sl) (b_5 : Int) (R : Ending → HP → Prop) : HP → Prop :=
  hNew #[(.int .i64 b_1), (.int .i64 b_2), (.int .i64 b_3), (.slice b_4.a b_4.n b_4.cap), (.int .i64 b_5)] 118 fun b_6 =>
  hLoop (α := Int × Unit) (0, ()) fun x_7 again_8 => hAll fun _ => F76_l2 b_6 x_7.1 again_8 R
def ann76 : Ann := { loop := [(2, [(3, (Ty.int .i64))])], cut := [] }
theorem den76 (b_1 : Int) (b_2 : Int) (b_3 : Int) (b_4 : Sl) (b_5 : Int) (R : Ending → HP → Prop) : denF Tryd.prog ann76 Tryd.f76.ntmps Tryd.f76.results.toList code76 [(.agg #[(.int .i64 b_1), (.int .i64 b_2), (.int .i64 b_3), (.slice b_4.a b_4.n b_4.cap), (.int .i64 b_5)])] R = F76 b_1 b_2 b_3 b_4 b_5 R := by kernel_rfl
theorem call76 : Callable Tryd.prog 76 := fun a w => Tryd.call76 a w
theorem F76_fn {b_1 : Int} {b_2 : Int} {b_3 : Int} {b_4 : Sl} {b_5 : Int} {R : Ending → HP → Prop} {m : HP} (h : F76 b_1 b_2 b_3 b_4 b_5 R m) : Does Tryd.prog 76 #[(.agg #[(.int .i64 b_1), (.int .i64 b_2), (.int .i64 b_3), (.slice b_4.a b_4.n b_4.cap), (.int .i64 b_5)])] m R :=
  fn_of_den mixed (ann := ann76) Tryd.func76 call76 (c := code76) (by kernel_rfl) (by kernel_rfl) (args := [(.agg #[(.int .i64 b_1), (.int .i64 b_2), (.int .i64 b_3), (.slice b_4.a b_4.n b_4.cap), (.int .i64 b_5)])]) (Nat.le_of_ble_eq_true (by kernel_rfl)) (.inl (by kernel_rfl)) (by rw [den76]; exact h)
/-! (*treadle/treadleref07.Cells).drop -/
noncomputable def code77 : Code := (Tryd.f77.body).getD .skip
def F77_l7 (c_1 : Option Addr) (list_4 : Sl) (b_17 : Nat) (k_8 : (Sl × Unit) → HP → Prop) (some_21 : Bool) (k_22 : Int) (again_20 : (Bool × Int × Unit) → HP → Prop) (R : Ending → HP → Prop) : HP → Prop :=
  hLoad .slice ⟨b_17, 3, none⟩ fun (v_23 : Sl) =>
  hIf (decide (k_22 < ((v_23.n : Nat) : Int)))
    (hIf some_21
    (hInt .i64 (k_22 + 1) fun v_24 =>
  again_20 (true, v_24, ()))
    (hLoad .slice ⟨b_17, 3, none⟩ fun (v_25 : Sl) =>
  hIdx v_25.a v_25.n k_22 1 fun a_26 =>
  hLoad .bool a_26 fun (v_27 : Bool) =>
  hInt .i64 (k_22 + 1) fun v_28 =>
  again_20 (v_27, v_28, ())))
    (hIf some_21
    (hLoad (.int .i64) ⟨b_17, 0, none⟩ fun (v_29 : Int) =>
  hLoad (.int .i64) ⟨b_17, 1, none⟩ fun (v_30 : Int) =>
  hLoad (.int .i64) ⟨b_17, 2, none⟩ fun (v_31 : Int) =>
  hLoad .slice ⟨b_17, 3, none⟩ fun (v_32 : Sl) =>
  hLoad (.int .i64) ⟨b_17, 4, none⟩ fun (v_33 : Int) =>
  hNew #[(.int .i64 v_29), (.int .i64 v_30), (.int .i64 v_31), (.slice v_32.a v_32.n v_32.cap), (.int .i64 v_33)] 118 fun b_34 =>
  hAppend 5 56 #[(.int .i64 0), (.int .i64 0), (.int .i64 0), (.slice none 0 0), (.int .i64 0)] 118 ⟨list_4.a, list_4.n, list_4.cap⟩ ⟨(some ⟨b_34, 0, none⟩), 1, 1⟩ fun v_35 =>
  k_8 (v_35, ()))
    (hNil c_1 fun a_36 =>
  hLoad .ptr a_36 fun (v_37 : Option Addr) =>
  hLoad (.int .i64) ⟨b_17, 0, none⟩ fun (v_38 : Int) =>
  hCall Tryd.prog 14 #[(.pointer v_37), (.int .i64 v_38)] (fun ch => R (.panicked ch)) fun r_39 m => ∃ (v_40 : Int), r_39 = (.int .i64 v_40) ∧ (k_8 (list_4, ())) m))
def F77_l7_2 (c_1 : Option Addr) (list_4 : Sl) (b_17 : Nat) (k_8 : (Sl × Unit) → HP → Prop) (some_44 : Bool) (k_45 : Int) (again_43 : (Bool × Int × Unit) → HP → Prop) (R : Ending → HP → Prop) : HP → Prop :=
  hLoad .slice ⟨b_17, 3, none⟩ fun (v_46 : Sl) =>
  hIf (decide (k_45 < ((v_46.n : Nat) : Int)))
    (hIf some_44
    (hInt .i64 (k_45 + 1) fun v_47 =>
  again_43 (true, v_47, ()))
    (hLoad .slice ⟨b_17, 3, none⟩ fun (v_48 : Sl) =>
  hIdx v_48.a v_48.n k_45 1 fun a_49 =>
  hLoad .bool a_49 fun (v_50 : Bool) =>
  hInt .i64 (k_45 + 1) fun v_51 =>
  again_43 (v_50, v_51, ())))
    (hIf some_44
    (hLoad (.int .i64) ⟨b_17, 0, none⟩ fun (v_52 : Int) =>
  hLoad (.int .i64) ⟨b_17, 1, none⟩ fun (v_53 : Int) =>
  hLoad (.int .i64) ⟨b_17, 2, none⟩ fun (v_54 : Int) =>
  hLoad .slice ⟨b_17, 3, none⟩ fun (v_55 : Sl) =>
  hLoad (.int .i64) ⟨b_17, 4, none⟩ fun (v_56 : Int) =>
  hNew #[(.int .i64 v_52), (.int .i64 v_53), (.int .i64 v_54), (.slice v_55.a v_55.n v_55.cap), (.int .i64 v_56)] 118 fun b_57 =>
  hAppend 5 56 #[(.int .i64 0), (.int .i64 0), (.int .i64 0), (.slice none 0 0), (.int .i64 0)] 118 ⟨list_4.a, list_4.n, list_4.cap⟩ ⟨(some ⟨b_57, 0, none⟩), 1, 1⟩ fun v_58 =>
  k_8 (v_58, ()))
    (hNil c_1 fun a_59 =>
  hLoad .ptr a_59 fun (v_60 : Option Addr) =>
  hLoad (.int .i64) ⟨b_17, 0, none⟩ fun (v_61 : Int) =>
  hCall Tryd.prog 14 #[(.pointer v_60), (.int .i64 v_61)] (fun ch => R (.panicked ch)) fun r_62 m => ∃ (v_63 : Int), r_62 = (.int .i64 v_63) ∧ (k_8 (list_4, ())) m))
def F77_j3 (i_5 : Int) (again_3 : (Sl × Int × Unit) → HP → Prop) (list_65 : Sl) (R : Ending → HP → Prop) : HP → Prop :=
  hInt .i64 (i_5 + 1) fun v_66 =>
  again_3 (list_65, v_66, ())
def F77_l2 (c_1 : Option Addr) (list_4 : Sl) (i_5 : Int) (again_3 : (Sl × Int × Unit) → HP → Prop) (R : Ending → HP → Prop) : HP → Prop :=
  hNil c_1 fun a_6 =>
  hLoad .slice (a_6.add 1) fun (v_7 : Sl) =>
  hIf (decide (i_5 < ((v_7.n : Nat) : Int)))
    (hLet (α := Sl × Unit) (fun k_8 => hNil c_1 fun a_9 =>
  hLoad .slice (a_9.add 1) fun (v_10 : Sl) =>
  hIdx v_10.a v_10.n i_5 5 fun a_11 =>
  hLoad (.int .i64) a_11 fun (v_12 : Int) =>
  hLoad (.int .i64) (a_11.add 1) fun (v_13 : Int) =>
  hLoad (.int .i64) (a_11.add 2) fun (v_14 : Int) =>
  hLoad .slice (a_11.add 3) fun (v_15 : Sl) =>
  hLoad (.int .i64) (a_11.add 4) fun (v_16 : Int) =>
  hNew #[(.int .i64 0), (.int .i64 0), (.int .i64 0), (.slice none 0 0), (.int .i64 0)] 118 fun b_17 =>
  hStore (.int .i64 v_12) ⟨b_17, 0, none⟩
    (hStore (.int .i64 v_13) ⟨b_17, 1, none⟩
    (hStore (.int .i64 v_14) ⟨b_17, 2, none⟩
    (hStore (.slice v_15.a v_15.n v_15.cap) ⟨b_17, 3, none⟩
    (hStore (.int .i64 v_16) ⟨b_17, 4, none⟩
    (hLoad (.int .i64) ⟨b_17, 4, none⟩ fun (v_18 : Int) =>
  hIf (decide (v_18 ≥ 0))
    (hLoop (α := Bool × Int × Unit) (true, 0, ()) fun x_19 again_20 => hAll fun _ => F77_l7 c_1 list_4 b_17 k_8 x_19.1 x_19.2.1 again_20 R)
    (hLoad (.int .i64) ⟨b_17, 1, none⟩ fun (v_41 : Int) =>
  hLoop (α := Bool × Int × Unit) ((v_41 == (-2)), 0, ()) fun x_42 again_43 => hAll fun _ => F77_l7_2 c_1 list_4 b_17 k_8 x_42.1 x_42.2.1 again_43 R)))))))
    (fun x_64 => hAll fun _ => F77_j3 i_5 again_3 x_64.1 R))
    (hNil c_1 fun a_67 =>
  hStore (.slice list_4.a list_4.n list_4.cap) (a_67.add 1)
    (R (.returned (.tuple #[]))))
def F77 (c_1 : Option Addr) (R : Ending → HP → Prop) : HP → Prop :=
  hLoop (α := Sl × Int × Unit) ((⟨none, 0, 0⟩ : Sl), 0, ()) fun x_2 again_3 => hAll fun _ => F77_l2 c_1 x_2.1 x_2.2.1 again_3 R
def ann77 : Ann := { loop := [(2, [(2, Ty.slice), (3, (Ty.int .i64))]), (7, [(5, Ty.bool), (6, (Ty.int .i64))])], cut := [(3, [(2, Ty.slice)])] }
theorem den77 (c_1 : Option Addr) (R : Ending → HP → Prop) : denF Tryd.prog ann77 Tryd.f77.ntmps Tryd.f77.results.toList code77 [(.pointer c_1)] R = F77 c_1 R := by kernel_rfl
theorem call77 : Callable Tryd.prog 77 := fun a w => Tryd.call77 a w
theorem F77_fn {c_1 : Option Addr} {R : Ending → HP → Prop} {m : HP} (h : F77 c_1 R m) : Does Tryd.prog 77 #[(.pointer c_1)] m R :=
  fn_of_den mixed (ann := ann77) Tryd.func77 call77 (c := code77) (by kernel_rfl) (by kernel_rfl) (args := [(.pointer c_1)]) (Nat.le_of_ble_eq_true (by kernel_rfl)) (.inl (by kernel_rfl)) (by rw [den77]; exact h)
/-! treadle/treadleref06.Words -/
noncomputable def code85 : Code := (Tryd.f85.body).getD .skip
def F85 (c_1 : Int) (R : Ending → HP → Prop) : HP → Prop :=
  hNew #[(.int .i64 1), (.int .i64 2), (.int .i64 3), (.int .i64 4), (.int .i64 5), (.int .i64 6), (.int .i64 8), (.int .i64 10), (.int .i64 12), (.int .i64 16), (.int .i64 20), (.int .i64 24), (.int .i64 32), (.int .i64 40), (.int .i64 48), (.int .i64 64)] 3 fun b_2 =>
  hIf (decide (c_1 < 0))
    (R (.returned (.int .i64 0)))
    (hIf (decide (c_1 ≥ ((16 : Nat) : Int)))
    (R (.returned (.int .i64 0)))
    (hIdx (some ⟨b_2, 0, none⟩) 16 c_1 1 fun a_3 =>
  hLoad (.int .i64) a_3 fun (v_4 : Int) =>
  R (.returned (.int .i64 v_4))))
def ann85 : Ann := { loop := [], cut := [] }
theorem den85 (c_1 : Int) (R : Ending → HP → Prop) : denF Tryd.prog ann85 Tryd.f85.ntmps Tryd.f85.results.toList code85 [(.int .i64 c_1)] R = F85 c_1 R := by kernel_rfl
theorem call85 : Callable Tryd.prog 85 := fun a w => Tryd.call85 a w
theorem F85_fn {c_1 : Int} {R : Ending → HP → Prop} {m : HP} (h : F85 c_1 R m) : Does Tryd.prog 85 #[(.int .i64 c_1)] m R :=
  fn_of_den mixed (ann := ann85) Tryd.func85 call85 (c := code85) (by kernel_rfl) (by kernel_rfl) (args := [(.int .i64 c_1)]) (Nat.le_of_ble_eq_true (by kernel_rfl)) (.inl (by kernel_rfl)) (by rw [den85]; exact h)
/-! treadle/treadleref06.Pages -/
noncomputable def code86 : Code := (Tryd.f86.body).getD .skip
def F86_l5 (v_3 : Int) (p_6 : Int) (again_5 : (Int × Unit) → HP → Prop) (R : Ending → HP → Prop) : HP → Prop :=
  hInt .i64 (p_6 * 64) fun v_7 =>
  hRem v_7 v_3 fun v_8 =>
  hInt .i64 (v_8 * 8) fun v_9 =>
  hInt .i64 (p_6 * 64) fun v_10 =>
  hIf (decide (v_9 > v_10))
    (hInt .i64 (p_6 + 1) fun v_11 =>
  again_5 (v_11, ()))
    (R (.returned (.int .i64 p_6)))
def F86 (c_1 : Int) (R : Ending → HP → Prop) : HP → Prop :=
  hCall Tryd.prog 85 #[(.int .i64 c_1)] (fun ch => R (.panicked ch)) fun r_2 m => ∃ (v_3 : Int), r_2 = (.int .i64 v_3) ∧ (hIf (v_3 == 0)
    (R (.returned (.int .i64 0)))
    (hLoop (α := Int × Unit) (1, ()) fun x_4 again_5 => hAll fun _ => F86_l5 v_3 x_4.1 again_5 R)) m
def ann86 : Ann := { loop := [(5, [(4, (Ty.int .i64))])], cut := [] }
theorem den86 (c_1 : Int) (R : Ending → HP → Prop) : denF Tryd.prog ann86 Tryd.f86.ntmps Tryd.f86.results.toList code86 [(.int .i64 c_1)] R = F86 c_1 R := by kernel_rfl
theorem call86 : Callable Tryd.prog 86 := fun a w => Tryd.call86 a w
theorem F86_fn {c_1 : Int} {R : Ending → HP → Prop} {m : HP} (h : F86 c_1 R m) : Does Tryd.prog 86 #[(.int .i64 c_1)] m R :=
  fn_of_den mixed (ann := ann86) Tryd.func86 call86 (c := code86) (by kernel_rfl) (by kernel_rfl) (args := [(.int .i64 c_1)]) (Nat.le_of_ble_eq_true (by kernel_rfl)) (.inl (by kernel_rfl)) (by rw [den86]; exact h)
/-! treadle/treadleref06.Cells -/
noncomputable def code87 : Code := (Tryd.f87.body).getD .skip
def F87 (c_1 : Int) (R : Ending → HP → Prop) : HP → Prop :=
  hCall Tryd.prog 85 #[(.int .i64 c_1)] (fun ch => R (.panicked ch)) fun r_2 m => ∃ (v_3 : Int), r_2 = (.int .i64 v_3) ∧ (hIf (v_3 == 0)
    (R (.returned (.int .i64 0)))
    (hCall Tryd.prog 86 #[(.int .i64 c_1)] (fun ch => R (.panicked ch)) fun r_4 m => ∃ (v_5 : Int), r_4 = (.int .i64 v_5) ∧ (hInt .i64 (v_5 * 64) fun v_6 =>
  hCall Tryd.prog 85 #[(.int .i64 c_1)] (fun ch => R (.panicked ch)) fun r_7 m => ∃ (v_8 : Int), r_7 = (.int .i64 v_8) ∧ (hQuo .i64 v_6 v_8 fun v_9 =>
  R (.returned (.int .i64 v_9))) m) m)) m
def ann87 : Ann := { loop := [], cut := [] }
theorem den87 (c_1 : Int) (R : Ending → HP → Prop) : denF Tryd.prog ann87 Tryd.f87.ntmps Tryd.f87.results.toList code87 [(.int .i64 c_1)] R = F87 c_1 R := by kernel_rfl
theorem call87 : Callable Tryd.prog 87 := fun a w => Tryd.call87 a w
theorem F87_fn {c_1 : Int} {R : Ending → HP → Prop} {m : HP} (h : F87 c_1 R m) : Does Tryd.prog 87 #[(.int .i64 c_1)] m R :=
  fn_of_den mixed (ann := ann87) Tryd.func87 call87 (c := code87) (by kernel_rfl) (by kernel_rfl) (args := [(.int .i64 c_1)]) (Nat.le_of_ble_eq_true (by kernel_rfl)) (.inl (by kernel_rfl)) (by rw [den87]; exact h)
end Go.Proofs.YtolfcdjbchdkgaaDoor
/- The document's cells (treadleref06, treadleref07): classes, layout, New, free, find, Find, IsUsed. Own work. -/
namespace Go.Proofs.YtolfcdjbchdkgaaDoor
open Go Go.Hp
set_option maxRecDepth 100000
attribute [local irreducible] hLoad hStore hNew hInt hQuo hRem hShl hShr hIf hNil hIdx hCut hElem hByte hAppend hMake hCall hYield hGet hPut hDel hNewMap hLoop hLet hAll hRange hRec hEq hCmp bitv W Does HYield

theorem rwords_does {c : Nat} (hc : c < 16) {m : HP} : Does Tryd.prog 85 #[.int .i64 (c : Int)] m (ret (.int .i64 (wordsN c : Nat)) m) := by
  refine F85_fn ?_
  unfold F85
  refine hNew_of fun b2 => hIf_neg (by omega) (hIf_neg (by omega) (hIdx_of (by omega) (by omega) ?_))
  refine hLoad_int (x := (wordsN c : Nat)) (by rw [show 0 + (c : Int).toNat * 1 = c by omega]; exact szC_get hc) (ret.mk (Over.of _ _))
theorem rpages_does {c : Nat} (hc : c < 16) {m : HP} : Does Tryd.prog 86 #[.int .i64 (c : Int)] m (ret (.int .i64 (pagesN c : Nat)) m) := by
  obtain ⟨w1, w2, p1, p2, _⟩ := words_facts hc
  obtain ⟨f1, f2⟩ := pages_first hc
  refine F86_fn ?_
  unfold F86
  refine hCall_ret (rwords_does hc) ⟨_, rfl, hIf_eqF (by omega) ?_⟩
  refine hLoop_of (fun d x m' => ∃ p : Nat, 1 ≤ p ∧ p ≤ pagesN c ∧ d = pagesN c - p ∧ x = ((p : Int), ()) ∧ m' = m) ⟨_, 1, by omega, p1, rfl, rfl, rfl⟩ ?_
  rintro d x m' ⟨p, h1, h2, rfl, rfl, rfl⟩
  refine hAll_of fun _ => ?_
  unfold F86_l5
  dsimp only
  refine hInt_i64 (by omega) (by omega) (hRem_pos (by omega) (by omega) ?_)
  have e1 : ((p : Int) * 64) % (wordsN c : Nat) = ((p * 64 % wordsN c : Nat) : Int) := by rw [Int.natCast_emod]; congr 1
  rw [e1]
  have hm := Nat.mod_lt (p * 64) (show wordsN c > 0 by omega)
  refine hInt_i64 (by omega) (by omega) (hInt_i64 (by omega) (by omega) (hIf_dec (fun h3 => ?_) (fun h3 => ?_)))
  · have : p ≠ pagesN c := by rintro rfl; omega
    exact hInt_i64 (by omega) (by omega) ⟨pagesN c - (p + 1), by omega, p + 1, by omega, by omega, rfl, rfl, rfl⟩
  · have : p = pagesN c := by
      rcases Nat.lt_or_ge p (pagesN c) with h4 | h4
      · exact absurd (by omega) (f2 p h1 h4)
      · omega
    subst this
    exact ret.mk (Over.refl _)
theorem rcells_does {c : Nat} (hc : c < 16) {m : HP} : Does Tryd.prog 87 #[.int .i64 (c : Int)] m (ret (.int .i64 (cellsN c : Nat)) m) := by
  obtain ⟨w1, w2, p1, p2, c1, c2, ce, _⟩ := words_facts hc
  refine F87_fn ?_
  unfold F87
  refine hCall_ret (rwords_does hc) ⟨_, rfl, hIf_eqF (by omega) (hCall_ret (rpages_does hc) ⟨_, rfl, hInt_i64 (by omega) (by omega) (hCall_ret (rwords_does hc) ⟨_, rfl, ?_⟩)⟩)⟩
  refine hQuo_pos (by omega) (by omega) (by omega) ?_
  have e : ((pagesN c : Nat) : Int) * 64 / (wordsN c : Nat) = (cellsN c : Nat) := by rw [ce, Int.natCast_ediv]; congr 1
  rw [e]
  exact ret.mk (Over.refl _)
theorem rof_does (w : Int) (hw : 1 ≤ w) {m : HP} : Does Tryd.prog 73 #[.int .i64 w] m fun e m' => (64 < w ∧ ret (.tuple #[.int .i64 0, .int .i64 2]) m e m') ∨ ∃ c : Nat, w ≤ 64 ∧ IsOf w.toNat c ∧ ret (.tuple #[.int .i64 (c : Int), .int .i64 0]) m e m' := by
  obtain ⟨w, rfl⟩ := Int.eq_ofNat_of_zero_le (a := w) (by omega)
  refine F73_fn ?_
  unfold F73
  refine hIf_neg (by omega) ?_
  refine hLoop_of (fun d x m' => ∃ c : Nat, c ≤ 16 ∧ d = 16 - c ∧ x = ((c : Int), ()) ∧ m' = m ∧ ∀ i, i < c → wordsN i < w) ⟨_, 0, by omega, rfl, rfl, rfl, fun i h => by omega⟩ ?_
  rintro d x m' ⟨c, h1, rfl, rfl, rfl, h2⟩
  refine hAll_of fun _ => ?_
  unfold F73_l4
  dsimp only
  refine hIf_dec (fun h3 => ?_) (fun h3 => ?_)
  · have hc : c < 16 := by omega
    have hwf := words_facts hc
    refine hCall_ret (rwords_does hc) ⟨_, rfl, hIf_dec (fun h4 => ?_) (fun h4 => ?_)⟩
    · exact .inr ⟨c, by omega, ⟨hc, by rw [Int.toNat_natCast]; omega, fun i hi => by rw [Int.toNat_natCast]; exact h2 i hi⟩, ret.mk (Over.refl _)⟩
    · refine hInt_i64 (by omega) (by omega) ⟨16 - (c + 1), by omega, c + 1, by omega, rfl, rfl, rfl, fun i hi => ?_⟩
      rcases Nat.lt_or_ge i c with h5 | h5
      · exact h2 i h5
      · obtain rfl : i = c := by omega
        omega
  · have := h2 15 (by omega)
    rw [words_15] at this
    exact .inl ⟨by omega, ret.mk (Over.refl _)⟩

/-! ### The layout -/
structure QL where
  c : Nat
  T : RL
def Blk.rw_ (B : Blk) : Nat := if B.cls = -2 then 1 else B.words
def holdI (h : Option Nat) : Int := match h with | none => -1 | some p => (p : Int)
def rbC (ub : Nat → Nat) (B : Blk) : List Value := [.int .i64 (B.base : Int), .int .i64 B.cls, .int .i64 (B.rw_ : Nat), .slice (some ⟨ub B.base, 0, none⟩) B.cells B.cells, .int .i64 (holdI B.holder)]
theorem rbC_len (ub : Nat → Nat) (B : Blk) : (rbC ub B).length = 5 := rfl
def bitsL (B : Blk) : List Bool := (List.range B.cells).map B.bit
def uO (B : Blk) : Obj := .cells (rows boolC (bitsL B)) 4 (0, 0)
def uH (ub : Nat → Nat) (B : Blk) : HP := pt (ub B.base) (uO B)
structure QGood (Q : QL) (ub : Nat → Nat) (n P : Nat) (l : List Sp) (bs : List Blk) (XT : HP) (s : Sl) (HB : HP) : Prop where
  ok : COk n P l bs
  nle : n ≤ 4096
  ple : P ≤ 8
  tab : RefAt Q.T n l XT
  own : Own 118 5 (rbC ub) bs s HB
def refCX (Q : QL) (ub : Nat → Nat) (P : Nat) (bs : List Blk) (XT : HP) (s : Sl) (HB : HP) : HP :=
  pt Q.c (.cells #[.pointer (some ⟨Q.T.t, 0, none⟩), .slice s.a s.n s.cap, .int .i64 (P : Int)] 115 (0, 0)) + (XT + (HB + sumB (uH ub) bs))
/-- The document's room for cells in memory. -/
def RefC (Q : QL) (n P : Nat) (l : List Sp) (bs : List Blk) (X : HP) : Prop := ∃ ub XT s HB, QGood Q ub n P l bs XT s HB ∧ X = refCX Q ub P bs XT s HB

theorem bitsL_get {B : Blk} {k : Nat} (hk : k < B.cells) : (bitsL B)[k]? = some (B.bit k) := by unfold bitsL; rw [List.getElem?_map, List.getElem?_range hk]; rfl
theorem bitsL_len (B : Blk) : (bitsL B).length = B.cells := by unfold bitsL; simp
theorem own_at {α : Type} {e : TypeId} {sz : Nat} {f : α → List Value} {l : List α} {s : Sl} {H : HP} (h : Own e sz f l s H) (hf : ∀ x, (f x).length = sz) {i : Nat} {x : α} (hx : l[i]? = some x) :
    ∃ b cap c, s = ⟨some ⟨b, 0, none⟩, l.length, cap⟩ ∧ H = pt b (.cells c e (0, 0)) ∧ (∀ j, j < sz → c[i * sz + j]? = (f x)[j]?) ∧ (∀ j, j < sz → i * sz + j < c.size) ∧
      ∀ j y v, j < sz → f y = (f x).set j v → Own e sz f (l.set i y) s (pt b (.cells (c.setIfInBounds (i * sz + j) v) e (0, 0))) := by
  obtain ⟨b, cap, c, h1, h2, h3, h4, h5⟩ := h.get hf hx
  have hi := (List.getElem?_eq_some_iff.1 hx).1
  have hbd : ∀ j, j < sz → i * sz + j < l.length * sz := fun j hj => by
    have := Nat.mul_le_mul_right sz (show i + 1 ≤ l.length by omega)
    rw [Nat.add_mul] at this; omega
  have hsz := Nat.mul_le_mul_right sz h4
  refine ⟨b, cap, c, h1, h2, h5, fun j hj => by have := hbd j hj; omega, fun j y v hj hy => ?_⟩
  rcases h with ⟨h6, _⟩ | ⟨b', cap', c', h6, h7, h8, h9, h10⟩
  · rw [h6] at h1; cases h1
  · rw [h6] at h1
    simp only [Sl.mk.injEq, Option.some.injEq, Addr.mk.injEq, and_true, true_and] at h1
    obtain ⟨rfl, rfl⟩ := h1
    rw [h2] at h10
    have hcc : c = c' := by
      have := congrFun (congrArg HP.blk h10) b'
      rw [show (pt b' (.cells c e (0, 0))).blk b' = .one (.cells c e (0, 0)) from pt_same _ _, show (pt b' (.cells c' e (0, 0))).blk b' = .one (.cells c' e (0, 0)) from pt_same _ _] at this
      simpa using this
    subst hcc
    refine .inr ⟨b', cap', _, by rw [h6]; simp, by simpa using h3, by simpa using h8, fun q hq => ?_, rfl⟩
    rw [List.length_set] at hq
    have hold := h9 q hq
    rw [Array.getElem?_setIfInBounds, ← flatMap_set hf hj hx hy, List.getElem?_set, ← hold]
    have hlen : (l.flatMap f).length = l.length * sz := flatMap_len hf l
    have hb := hbd j hj
    by_cases e2 : i * sz + j = q
    · subst e2; rw [if_pos rfl, if_pos (by omega), if_pos rfl, if_pos (by omega)]
    · rw [if_neg e2, if_neg e2]

/-! ### free, find, Find, IsUsed, New -/
section
variable {Q : QL} {ub : Nat → Nat} {n P : Nat} {l : List Sp} {bs : List Blk} {X : HP}
open Classical in
theorem rfreecell_does {B : Blk} (hB : BOk P B) (b1 b2 b3 b5 : Int) {a : Nat} {m r : HP} [hs : Has a m (uO B) r] :
    Does Tryd.prog 76 #[.agg #[.int .i64 b1, .int .i64 b2, .int .i64 b3, .slice (some ⟨a, 0, none⟩) B.cells B.cells, .int .i64 b5]] m fun e m' =>
      (B.full ∧ ret (.int .i64 (-1)) m e m') ∨ ∃ k, IsFree B k ∧ ret (.int .i64 (k : Int)) m e m' := by
  haveI : Has a m (.cells (rows boolC (bitsL B)) 4 (0, 0)) r := hs
  have hle := Blk.cells_le hB
  refine F76_fn (b_4 := ⟨some ⟨a, 0, none⟩, B.cells, B.cells⟩) ?_
  unfold F76
  refine hNew_of fun b6 => ?_
  dsimp only
  refine hLoop_of (fun d x m' => ∃ k : Nat, k ≤ B.cells ∧ d = B.cells - k ∧ x = ((k : Int), ()) ∧ (∀ i, i < k → B.bit i = true) ∧ m' = pt b6 (.cells #[.int .i64 b1, .int .i64 b2, .int .i64 b3, .slice (some ⟨a, 0, none⟩) B.cells B.cells, .int .i64 b5] 118 (0, 0)) + m) ⟨_, 0, by omega, rfl, rfl, fun i h => by omega, rfl⟩ ?_
  rintro d x m' ⟨k, h1, rfl, rfl, h2, rfl⟩
  refine hAll_of fun _ => ?_
  unfold F76_l2
  dsimp only
  refine hLoad_slice (by rfl) ?_
  dsimp only
  refine hIf_dec (fun h3 => ?_) (fun h3 => ?_)
  · have hk : k < B.cells := by omega
    refine hLoad_slice (by rfl) ?_
    dsimp only
    refine hIdx_of (by omega) (by omega) ?_
    refine hLoad_bool (rowsB (i := k) (by omega) (bitsL_get hk)) (hIf_not (hIf_split (fun h4 => ?_) (fun h4 => ?_)))
    · refine hInt_i64 (by omega) (by omega) ⟨B.cells - (k + 1), by omega, k + 1, by omega, rfl, rfl, fun i hi => ?_, rfl⟩
      rcases Nat.lt_or_ge i k with h5 | h5
      · exact h2 i h5
      · obtain rfl : i = k := by omega
        exact h4
    · exact .inr ⟨k, ⟨hk, h4, h2⟩, ret.mk (Over.of _ _)⟩
  · exact .inl ⟨fun i hi => h2 i (by omega), ret.mk (Over.of _ _)⟩

theorem ublk_at {B : Blk} (hB : B ∈ bs) : ∃ R, sumB (uH ub) bs = pt (ub B.base) (uO B) + R := by
  obtain ⟨b1, b2, rfl⟩ := mem_split hB
  exact ⟨sumB (uH ub) (b1 ++ b2), sumB_mid⟩

theorem rcfind_does (h : RefC Q n P l bs X) (addr : Int) (ha : addr ≤ 9223372036854775807) {m r : HP} [hs : Sub X m r] :
    Does Tryd.prog 60 #[.pointer (some ⟨Q.c, 0, none⟩), .int .i64 addr] m fun e m' =>
      ((∀ B k, ¬ Hit bs addr B k) ∧ ret (.tuple #[.int .i64 (-1), .int .i64 0]) (X + r) e m') ∨ ∃ i B k, bs[i]? = some B ∧ Hit bs addr B k ∧ ret (.tuple #[.int .i64 (i : Nat), .int .i64 (k : Nat)]) (X + r) e m' := by
  obtain ⟨ub, XT, s, HB, G, rfl⟩ := h
  have hnle := G.nle
  have hlen := G.ok.len
  have hsn := G.own.len
  rw [hs.eq]
  refine F60_fn ?_
  unfold F60
  refine hLoop_of (fun d x m' => ∃ i : Nat, i ≤ bs.length ∧ d = bs.length - i ∧ x = ((i : Int), ()) ∧ (∀ j B k, j < i → bs[j]? = some B → ¬ Hit bs addr B k) ∧ Over (refCX Q ub P bs XT s HB + r) m') ⟨_, 0, by omega, rfl, rfl, fun j B k h => by omega, Over.refl _⟩ ?_
  rintro d x m' ⟨i, hi, rfl, rfl, hno, g, rfl⟩
  refine hAll_of fun _ => ?_
  unfold F60_l2 refCX
  dsimp only
  refine hNil_some (hLoad_add (hLoad_slice (by rfl) ?_))
  dsimp only
  refine hIf_dec (fun h1 => ?_) (fun h1 => ?_)
  · have hi' : i < bs.length := by omega
    have hBi : bs[i]? = some bs[i] := List.getElem?_eq_getElem hi'
    have hBm := List.getElem_mem hi'
    generalize bs[i] = B at hBi hBm
    obtain ⟨b, cap, c, rfl, rfl, hc, _, _⟩ := own_at G.own (rbC_len ub) hBi
    have hbk := G.ok.bok B hBm
    have hcl := Blk.cells_le hbk
    have hpl := G.ok.pages_le hBm
    obtain ⟨R, hR⟩ := ublk_at (ub := ub) hBm
    rw [hR]
    refine hLet_of (fun _ m' => (∀ k, ¬ Hit bs addr B k) ∧ Over (pt Q.c (.cells #[.pointer (some ⟨Q.T.t, 0, none⟩), .slice (some ⟨b, 0, none⟩) bs.length cap, .int .i64 (P : Int)] 115 (0, 0)) + (XT + (pt b (.cells c 118 (0, 0)) + (pt (ub B.base) (uO B) + R))) + r) m') ?_ ?_
    · refine hNil_some (hLoad_add (hLoad_slice (by rfl) ?_))
      dsimp only
      have e0 : 0 + (i : Int).toNat * 5 = i * 5 := by omega
      refine hIdx_of (by omega) (by omega) ?_
      rw [e0]
      refine hLoad_int (hc 0 (by omega)) ?_
      refine hLoad_add (hLoad_int (hc 1 (by omega)) ?_)
      refine hLoad_add (hLoad_int (hc 2 (by omega)) ?_)
      refine hLoad_add (hLoad_slice (hc 3 (by omega)) ?_)
      refine hLoad_add (hLoad_int (hc 4 (by omega)) ?_)
      refine hNew_of fun b17 => hStore5_0 (hStore5_1 (hStore5_2 (hStore5_3 (hStore5_4 ?_))))
      refine hLoad_int (by rfl) (hInt_i64 (by omega) (by omega) (hIf_dec (fun h2 => ?_) (fun h2 => ?_)))
      · refine ⟨fun k ht => ?_, Over.of _ _⟩
        have := ht.lo; unfold Blk.at_ at this; omega
      refine hLoad_slice (by rfl) ?_
      dsimp only
      refine hIf_eq (fun h3 => ?_) (fun h3 => ?_)
      · refine ⟨fun k ht => ?_, Over.of _ _⟩
        have := hbk.bit_lt ht.bit; omega
      have hc2 : B.cls ≠ -2 := fun e => h3 (by unfold Blk.cells; rw [if_pos e]; rfl)
      have hrw : B.rw_ = B.words := by unfold Blk.rw_; rw [if_neg hc2]
      have hwp := Blk.words_pos hbk
      refine hInt_i64 (by omega) (by omega) (hLoad_int (by rfl) ?_)
      rw [hrw]
      refine hQuo_pos (by omega) (by omega) (by omega) (hLoad_slice (by rfl) ?_)
      dsimp only
      have ek : (addr - (B.base : Int) * 64) / (B.words : Nat) = (((addr.toNat - B.base * 64) / B.words : Nat) : Int) := by
        rw [Int.natCast_ediv]; congr 1; omega
      rw [ek]
      obtain ⟨k, hk⟩ : ∃ k, k = (addr.toNat - B.base * 64) / B.words := ⟨_, rfl⟩
      rw [← hk]
      have hkk : ∀ j, Hit bs addr B j → j = k := fun j ht => by
        have := (hit_div hwp (ht.has G.ok) j).1 ⟨ht.lo, ht.hi⟩
        rw [hk, this]
      have hdm := Nat.div_add_mod (addr.toNat - B.base * 64) B.words
      have hml := Nat.mod_lt (addr.toNat - B.base * 64) (show B.words > 0 by omega)
      rw [← hk, Nat.mul_comm] at hdm
      refine hIf_dec (fun h4 => ?_) (fun h4 => ?_)
      · have hkc : k < B.cells := by omega
        refine hLoad_slice (by rfl) ?_
        dsimp only
        refine hIdx_of (by omega) (by omega) ?_
        haveI : Has (ub B.base) (pt (ub B.base) (uO B) + R) (.cells (rows boolC (bitsL B)) 4 (0, 0)) R := ⟨rfl⟩
        refine hLoad_bool (rowsB (i := k) (by omega) (bitsL_get hkc)) (hIf_split (fun h5 => ?_) (fun h5 => ?_))
        · exact .inr ⟨i, B, k, hBi, ⟨hBm, h5, by unfold Blk.at_; omega, by unfold Blk.at_; omega⟩, ret.mk (Over.of _ _)⟩
        · exact ⟨fun j ht => (by rw [hkk j ht] at ht; have := ht.bit; rw [h5] at this; cases this), Over.of _ _⟩
      · exact ⟨fun j ht => (by have := hbk.bit_lt ht.bit; rw [hkk j ht] at this; omega), Over.of _ _⟩
    · rintro st m' ⟨hn2, g2, rfl⟩
      refine hAll_of fun _ => ?_
      unfold F60_j3
      refine hInt_i64 (by omega) (by omega) ⟨bs.length - (i + 1), by omega, i + 1, by omega, rfl, rfl, fun j D k hj hD => ?_, Over.of _ _⟩
      rcases Nat.lt_or_ge j i with h5 | h5
      · exact hno j D k h5 hD
      · obtain rfl : j = i := by omega
        rw [hBi] at hD
        simp only [Option.some.injEq] at hD
        subst hD; exact hn2 k
  · refine .inl ⟨fun B k ht => ?_, ret.mk (Over.of _ _)⟩
    obtain ⟨j, hj⟩ := List.getElem?_of_mem ht.mem
    exact hno j B k (by have := (List.getElem?_eq_some_iff.1 hj).1; omega) hj ht
end
end Go.Proofs.YtolfcdjbchdkgaaDoor
/- The document's cells: Find, IsUsed, Counts, make_, New, Pages, Give. Own work. -/
namespace Go.Proofs.YtolfcdjbchdkgaaDoor
open Go Go.Hp
set_option maxRecDepth 100000
attribute [local irreducible] hLoad hStore hNew hInt hQuo hRem hShl hShr hIf hNil hIdx hCut hElem hByte hAppend hMake hCall hYield hGet hPut hDel hNewMap hLoop hLet hAll hRange hRec hEq hCmp bitv W Does HYield

theorem Own.congr {α : Type} {e : TypeId} {sz : Nat} {f g : α → List Value} {l : List α} {s : Sl} {H : HP} (h : Own e sz f l s H) (he : ∀ x ∈ l, f x = g x) : Own e sz g l s H := by
  have : l.flatMap f = l.flatMap g := by
    rw [List.flatMap_def, List.flatMap_def]; congr 1; exact List.map_congr_left he
  rcases h with h | ⟨b, cap, c, h1, h2, h3, h4, h5⟩
  · exact .inl h
  · exact .inr ⟨b, cap, c, h1, h2, h3, fun i hi => by rw [h4 i hi, this], h5⟩
theorem sum_take {f : Blk → Nat} {bs : List Blk} {i : Nat} : ((bs.take i).map f).sum ≤ (bs.map f).sum := by
  conv => rhs; rw [← List.take_append_drop i bs]
  rw [List.map_append, List.sum_append]; omega
theorem sum_take_succ {f : Blk → Nat} {bs : List Blk} {i : Nat} {B : Blk} (h : bs[i]? = some B) : ((bs.take (i + 1)).map f).sum = ((bs.take i).map f).sum + f B := by
  obtain ⟨hi, rfl⟩ := List.getElem?_eq_some_iff.1 h
  rw [List.take_succ_eq_append_getElem hi, List.map_append, List.sum_append]; simp

section
variable {Q : QL} {ub : Nat → Nat} {n P : Nat} {l : List Sp} {bs : List Blk} {X : HP}
theorem RefC.ok (h : RefC Q n P l bs X) : COk n P l bs := by obtain ⟨_, _, _, _, G, _⟩ := h; exact G.ok
theorem RefC.nle (h : RefC Q n P l bs X) : n ≤ 4096 := by obtain ⟨_, _, _, _, G, _⟩ := h; exact G.nle
theorem RefC.ple (h : RefC Q n P l bs X) : P ≤ 8 := by obtain ⟨_, _, _, _, G, _⟩ := h; exact G.ple

theorem rcFind_does (h : RefC Q n P l bs X) (addr : Int) (ha : addr ≤ 9223372036854775807) {m r : HP} [hs : Sub X m r] :
    Does Tryd.prog 29 #[.pointer (some ⟨Q.c, 0, none⟩), .int .i64 addr] m fun e m' =>
      ((∀ B k, ¬ Hit bs addr B k) ∧ ret (.tuple #[.int .i64 0, .int .i64 0, .bool false]) (X + r) e m') ∨
      ∃ B k, Hit bs addr B k ∧ ret (.tuple #[.int .i64 (B.at_ k : Nat), .int .i64 (B.words : Nat), .bool true]) (X + r) e m' := by
  refine F29_fn ?_
  unfold F29
  refine hCall_of (rcfind_does h addr ha) ?_
  rintro e m' (⟨h1, rfl, ho⟩ | ⟨i, B, k, hB, ht, rfl, ho⟩)
  · exact ⟨_, ho, _, _, rfl, hIf_pos (by omega) (.inl ⟨h1, ret.mk (Over.refl _)⟩)⟩
  · refine ⟨_, ho, _, _, rfl, hIf_neg (by omega) ?_⟩
    obtain ⟨ub, XT, s, HB, G, rfl⟩ := h
    have hnle := G.nle
    have hbk := G.ok.bok B ht.mem
    have hpl := G.ok.pages_le ht.mem
    have hkc := hbk.bit_lt ht.bit
    have hroom := Blk.room hbk
    have hm := Nat.mul_le_mul_right B.words (show k ≤ B.cells by omega)
    have hi := (List.getElem?_eq_some_iff.1 hB).1
    have hlen := G.ok.len
    have hc2 : B.cls ≠ -2 := fun e => by unfold Blk.cells at hkc; rw [if_pos e] at hkc; omega
    have hrw : B.rw_ = B.words := by unfold Blk.rw_; rw [if_neg hc2]
    obtain ⟨b, cap, c, rfl, rfl, hc, _, _⟩ := own_at G.own (rbC_len ub) hB
    unfold refCX
    refine hNil_some (hLoad_add (hLoad_slice (by rfl) ?_))
    dsimp only
    have e0 : 0 + (i : Int).toNat * 5 = i * 5 := by omega
    refine hIdx_of (by omega) (by omega) ?_
    rw [e0]
    refine hLoad_int (hc 0 (by omega)) ?_
    refine hLoad_add (hLoad_int (hc 1 (by omega)) ?_)
    refine hLoad_add (hLoad_int (hc 2 (by omega)) ?_)
    refine hLoad_add (hLoad_slice (hc 3 (by omega)) ?_)
    refine hLoad_add (hLoad_int (hc 4 (by omega)) ?_)
    refine hNew_of fun b17 => hStore5_0 (hStore5_1 (hStore5_2 (hStore5_3 (hStore5_4 ?_))))
    refine hLoad_int (by rfl) (hInt_i64 (by omega) (by omega) (hLoad_int (by rfl) ?_))
    rw [hrw]
    have hkw : ((k : Nat) : Int) * (B.words : Nat) = ((k * B.words : Nat) : Int) := by push_cast; rfl
    rw [hkw]
    refine hInt_i64 (by omega) (by omega) (hInt_i64 (by omega) (by omega) (hLoad_int (x := (B.words : Nat)) (by rw [← hrw]; rfl) ?_))
    refine .inr ⟨B, k, ht, ret.eq ?_ (Over.of _ _)⟩
    unfold Blk.at_
    rw [show ((B.base * 64 + k * B.words : Nat) : Int) = (B.base : Int) * 64 + ((k * B.words : Nat) : Int) by push_cast; rfl]

theorem rcUsed_does (h : RefC Q n P l bs X) (page : Int) (hp : -9223372036854775808 ≤ page ∧ page ≤ 9223372036854775807) {m r : HP} [hs : Sub X m r] :
    Does Tryd.prog 31 #[.pointer (some ⟨Q.c, 0, none⟩), .int .i64 page] m (ret (.bool (findS l page).isSome) (X + r)) := by
  obtain ⟨ub, XT, s, HB, G, rfl⟩ := h
  rw [hs.eq]
  refine F31_fn ?_
  unfold F31 refCX
  refine hNil_some (hLoad_ptr (by rfl) (hCall_ret (rfind_does G.tab _ hp) ⟨_, _, _, _, rfl, ?_⟩))
  refine hNew_of fun b11 => hStore3_0 (hStore3_1 (hStore3_2 ?_))
  exact ret.mk (Over.of _ _)

theorem rcCounts_does (h : RefC Q n P l bs X) {m r : HP} [hs : Sub X m r] :
    Does Tryd.prog 32 #[.pointer (some ⟨Q.c, 0, none⟩)] m (ret (.tuple #[.int .i64 (cellsT bs : Nat), .int .i64 (wordsT bs : Nat), .int .i64 (cntFree (UL n l) n : Nat)]) (X + r)) := by
  obtain ⟨ub, XT, s, HB, G, rfl⟩ := h
  have hnle := G.nle
  have hlen := G.ok.len
  have hsn := G.own.len
  obtain ⟨hc1, hc2⟩ := G.ok.counts hnle
  rw [hs.eq]
  refine F32_fn ?_
  unfold F32
  refine hLoop_of (fun d x m' => ∃ i : Nat, i ≤ bs.length ∧ d = bs.length - i ∧ x = (((cellsT (bs.take i) : Nat) : Int), ((wordsT (bs.take i) : Nat) : Int), (i : Int), ()) ∧ Over (refCX Q ub P bs XT s HB + r) m') ⟨_, 0, by omega, rfl, rfl, Over.refl _⟩ ?_
  rintro d x m' ⟨i, hi, rfl, rfl, g, rfl⟩
  refine hAll_of fun _ => ?_
  unfold F32_l3 refCX
  dsimp only
  refine hNil_some (hLoad_add (hLoad_slice (by rfl) ?_))
  dsimp only
  have t1 : cellsT (bs.take i) ≤ cellsT bs := sum_take
  have t2 : wordsT (bs.take i) ≤ wordsT bs := sum_take
  refine hIf_dec (fun h1 => ?_) (fun h1 => ?_)
  · have hi' : i < bs.length := by omega
    have hBi : bs[i]? = some bs[i] := List.getElem?_eq_getElem hi'
    have hBm := List.getElem_mem hi'
    generalize bs[i] = B at hBi hBm
    have s1 : cellsT (bs.take (i + 1)) = cellsT (bs.take i) + cntT B.bit 64 := sum_take_succ hBi
    have s2 : wordsT (bs.take (i + 1)) = wordsT (bs.take i) + cntT B.bit 64 * B.words := sum_take_succ hBi
    have t3 : cellsT (bs.take (i + 1)) ≤ cellsT bs := sum_take
    have t4 : wordsT (bs.take (i + 1)) ≤ wordsT bs := sum_take
    obtain ⟨b, cap, c, rfl, rfl, hc, _, _⟩ := own_at G.own (rbC_len ub) hBi
    have hbk := G.ok.bok B hBm
    have hcl := Blk.cells_le hbk
    have hcm : cntT B.bit 64 = cntT B.bit B.cells := cntT_more hcl hbk.low
    rw [hcm] at s1 s2
    obtain ⟨R, hR⟩ := ublk_at (ub := ub) hBm
    rw [hR]
    have e0 : 0 + (i : Int).toNat * 5 = i * 5 := by omega
    haveI : Has (ub B.base) (pt (ub B.base) (uO B) + R) (.cells (rows boolC (bitsL B)) 4 (0, 0)) R := ⟨rfl⟩
    refine hLoop_of (fun d x m' => ∃ k : Nat, k ≤ B.cells ∧ d = B.cells - k ∧ x = (((cellsT (bs.take i) + cntT B.bit k : Nat) : Int), ((wordsT (bs.take i) + cntT B.bit k * B.words : Nat) : Int), (k : Int), ()) ∧
      Over (pt Q.c (.cells #[.pointer (some ⟨Q.T.t, 0, none⟩), .slice (some ⟨b, 0, none⟩) bs.length cap, .int .i64 (P : Int)] 115 (0, 0)) + (XT + (pt b (.cells c 118 (0, 0)) + (pt (ub B.base) (uO B) + R))) + r) m') ?_ ?_
    · exact ⟨_, 0, by omega, rfl, by simp [cntT], Over.of _ _⟩
    rintro d x m' ⟨k, hk, rfl, rfl, g2, rfl⟩
    refine hAll_of fun _ => ?_
    unfold F32_l6
    dsimp only
    refine hNil_some (hLoad_add (hLoad_slice (by rfl) ?_))
    dsimp only
    refine hIdx_of (by omega) (by omega) ?_
    rw [e0]
    refine hLoad_add (hLoad_slice (hc 3 (by omega)) ?_)
    dsimp only
    refine hIf_dec (fun h2 => ?_) (fun h2 => ?_)
    · have hkc : k < B.cells := by omega
      have hc2' : B.cls ≠ -2 := fun e => by unfold Blk.cells at hkc; rw [if_pos e] at hkc; omega
      have hrw : B.rw_ = B.words := by unfold Blk.rw_; rw [if_neg hc2']
      have hmono : cntT B.bit (k + 1) ≤ cntT B.bit B.cells := by
        have : ∀ j, k + 1 ≤ j → cntT B.bit (k + 1) ≤ cntT B.bit j := by
          intro j hj
          induction j with
          | zero => omega
          | succ j ih =>
            rcases Nat.lt_or_ge k j with h | h
            · have := ih (by omega); simp only [cntT] at this ⊢; omega
            · obtain rfl : j = k := by omega
              omega
        exact this _ (by omega)
      have hmul := Nat.mul_le_mul_right B.words hmono
      refine hLet_of (fun st m' => st = (((cellsT (bs.take i) + cntT B.bit (k + 1) : Nat) : Int), ((wordsT (bs.take i) + cntT B.bit (k + 1) * B.words : Nat) : Int), ()) ∧
        Over (pt Q.c (.cells #[.pointer (some ⟨Q.T.t, 0, none⟩), .slice (some ⟨b, 0, none⟩) bs.length cap, .int .i64 (P : Int)] 115 (0, 0)) + (XT + (pt b (.cells c 118 (0, 0)) + (pt (ub B.base) (uO B) + R))) + r) m') ?_ ?_
      · refine hNil_some (hLoad_add (hLoad_slice (by rfl) ?_))
        dsimp only
        refine hIdx_of (by omega) (by omega) ?_
        rw [e0]
        refine hLoad_add (hLoad_slice (hc 3 (by omega)) ?_)
        dsimp only
        refine hIdx_of (by omega) (by omega) ?_
        refine hLoad_bool (rowsB (i := k) (by omega) (bitsL_get hkc)) (hIf_split (fun h5 => ?_) (fun h5 => ?_))
        · have e1 : cntT B.bit (k + 1) = cntT B.bit k + 1 := by simp only [cntT]; rw [h5]; rfl
          have e2 : cntT B.bit (k + 1) * B.words = cntT B.bit k * B.words + B.words := by rw [e1, Nat.add_mul, Nat.one_mul]
          refine hInt_i64 (by omega) (by omega) (hNil_some (hLoad_add (hLoad_slice (by rfl) ?_)))
          dsimp only
          refine hIdx_of (by omega) (by omega) ?_
          rw [e0]
          refine hLoad_add (hLoad_int (hc 2 (by omega)) ?_)
          rw [hrw]
          refine hInt_i64 (by omega) (by omega) ⟨?_, Over.of _ _⟩
          rw [show ((cellsT (bs.take i) + cntT B.bit k : Nat) : Int) + 1 = ((cellsT (bs.take i) + cntT B.bit (k + 1) : Nat) : Int) by omega, show ((wordsT (bs.take i) + cntT B.bit k * B.words : Nat) : Int) + (B.words : Nat) = ((wordsT (bs.take i) + cntT B.bit (k + 1) * B.words : Nat) : Int) by omega]
        · have e1 : cntT B.bit (k + 1) = cntT B.bit k := by simp only [cntT]; rw [h5]; rfl
          exact ⟨by rw [e1], Over.of _ _⟩
      · rintro st m' ⟨rfl, g3, rfl⟩
        refine hAll_of fun _ => ?_
        unfold F32_j7
        dsimp only
        exact hInt_i64 (by omega) (by omega) ⟨B.cells - (k + 1), by omega, k + 1, by omega, rfl, rfl, Over.of _ _⟩
    · obtain rfl : k = B.cells := by omega
      refine hInt_i64 (by omega) (by omega) ⟨bs.length - (i + 1), by omega, i + 1, by omega, rfl, ?_, Over.of _ _⟩
      rw [s1, s2]; rfl
  · obtain rfl : i = bs.length := by omega
    rw [List.take_length]
    have hul : ∃ B s' Hl, RGood n l B s' Hl ∧ XT = refX Q.T B s' Hl := G.tab
    obtain ⟨Bt, s', Hl, Gt, rfl⟩ := hul
    unfold refX
    refine hNil_some (hLoad_ptr (by rfl) ?_)
    refine hNil_some (hLoad_ptr (by rfl) ?_)
    refine hCall_of (rcounts_does (ub := Q.T.ub) (B := Bt) (by have := Gt.blen; omega)) ?_
    rintro e m' ⟨y, hy, rfl, ho⟩
    refine ⟨_, ho, _, _, rfl, ret.eq ?_ (Over.of _ _)⟩
    rw [Gt.used, Gt.blen]

theorem rcnew_does (pages procs : Int) {m : HP} :
    Does Tryd.prog 27 #[.int .i64 pages, .int .i64 procs] m fun e m' =>
      (¬ ((1 ≤ procs ∧ procs ≤ 8) ∧ 1 ≤ pages ∧ pages ≤ 4096) ∧ ret (.tuple #[.pointer none, .int .i64 1]) m e m') ∨
      ∃ (Q : QL) (X : HP), ((1 ≤ procs ∧ procs ≤ 8) ∧ 1 ≤ pages ∧ pages ≤ 4096) ∧ RefC Q pages.toNat procs.toNat [] [] X ∧ ret (.tuple #[.pointer (some ⟨Q.c, 0, none⟩), .int .i64 0]) (X + m) e m' := by
  refine F27_fn ?_
  unfold F27
  refine hIf_dec (fun h1 => .inl ⟨by omega, ret.mk (Over.refl _)⟩) (fun h1 => hIf_dec (fun h2 => .inl ⟨by omega, ret.mk (Over.refl _)⟩) (fun h2 => ?_))
  obtain ⟨P, rfl⟩ := Int.eq_ofNat_of_zero_le (a := procs) (by omega)
  refine hCall_of (rtnew_does pages) ?_
  rintro e m' (⟨h3, rfl, ho⟩ | ⟨T, XT, h3, hT, rfl, ho⟩)
  · exact ⟨_, ho, _, _, rfl, hIf_neT (by omega) (.inl ⟨fun h => h3 h.2, ret.mk (Over.refl _)⟩)⟩
  refine ⟨_, ho, _, _, rfl, hIf_neF rfl (hNew_of fun b6 => ?_)⟩
  have hlok : LOk pages.toNat [] := ⟨by simp, by simp⟩
  refine .inr ⟨⟨b6, T⟩, refCX ⟨b6, T⟩ (fun _ => 0) P [] XT ⟨none, 0, 0⟩ 0, by omega, ⟨fun _ => 0, XT, ⟨none, 0, 0⟩, 0, ⟨⟨hlok, by simp, by simp, by simp, by simp, by simp, by simp⟩, by omega, by omega, hT, Own.nil⟩, rfl⟩, ret.mk ?_⟩
  unfold refCX
  simp only [sumB, HP.add_zero]
  exact Over.of _ _

theorem rcmake_does (h : RefC Q n P l bs X) (c : Int) (hc : c ≤ 9223372036854775807) {cls : Int} {wd cells : Nat} (hcells : cells ≤ 64)
    (hN : 1 ≤ c → ∀ a, (⟨a, c.toNat, cls, 0#64, none⟩ : Blk).cells = cells ∧ (⟨a, c.toNat, cls, 0#64, none⟩ : Blk).rw_ = wd ∧ BOk P ⟨a, c.toNat, cls, 0#64, none⟩) {m r : HP} [hs : Sub X m r] :
    Does Tryd.prog 74 #[.pointer (some ⟨Q.c, 0, none⟩), .int .i64 c, .int .i64 cls, .int .i64 (wd : Int), .int .i64 (cells : Int)] m fun e m' =>
      (c < 1 ∧ ret (.tuple #[.int .i64 0, .int .i64 1]) (X + r) e m') ∨ (1 ≤ c ∧ Nowhere (UL n l) c.toNat ∧ ret (.tuple #[.int .i64 0, .int .i64 3]) (X + r) e m') ∨
      ∃ a X', 1 ≤ c ∧ First (UL n l) c.toNat a ∧ RefC Q n P (insS ⟨a, c.toNat, 0⟩ l) (bs ++ [⟨a, c.toNat, cls, 0#64, none⟩]) X' ∧ ret (.tuple #[.int .i64 (bs.length : Nat), .int .i64 0]) (X' + r) e m' := by
  obtain ⟨ub, XT, s, HB, G, rfl⟩ := h
  have hnle := G.nle
  have hlen := G.ok.len
  rw [hs.eq]
  refine F74_fn ?_
  unfold F74 refCX
  refine hNil_some (hLoad_ptr (by rfl) ?_)
  refine hCall_of (ralloc5_does G.tab c 0 hc) ?_
  rintro e m' (⟨h1, rfl, ho⟩ | ⟨h1, h2, rfl, ho⟩ | ⟨a, XT', h1, hf, hT, rfl, ho⟩)
  · exact ⟨_, ho, _, _, _, _, rfl, hNew_of fun b13 => hStore3_0 (hStore3_1 (hStore3_2 (hIf_neT (by omega) (.inl ⟨h1, ret.mk (Over.of _ _)⟩))))⟩
  · exact ⟨_, ho, _, _, _, _, rfl, hNew_of fun b13 => hStore3_0 (hStore3_1 (hStore3_2 (hIf_neT (by omega) (.inr (.inl ⟨h1, h2, ret.mk (Over.of _ _)⟩)))))⟩
  · refine ⟨_, ho, _, _, _, _, rfl, hNew_of fun b13 => hStore3_0 (hStore3_1 (hStore3_2 (hIf_neF rfl ?_)))⟩
    obtain ⟨N, hNe⟩ : ∃ N : Blk, N = ⟨a, c.toNat, cls, 0#64, none⟩ := ⟨_, rfl⟩
    obtain ⟨n1, n2, n3⟩ := hN h1 a
    rw [← hNe] at n1 n2 n3
    have hok : COk n P (insS ⟨N.base, N.pages, 0⟩ l) (bs ++ [N]) := G.ok.add (by rw [hNe]; exact hf) n3 (fun D _ p hp _ _ => by rw [hNe] at hp; cases hp)
    have hnew : ∀ D ∈ bs, D.base ≠ a := fun D hD e => by
      have := (G.ok.bok D hD).pos
      exact hf.apart (G.ok.sp hD) (p := a) (Nat.le_refl _) (by omega) ⟨by simp only; omega, by simp only; omega⟩
    refine hNil_some (hLoad_add (hLoad_slice (by rfl) (hLoad_int (by rfl) ?_)))
    refine hMake_of (by omega) (by omega) (by omega) (by omega) fun b17 => ?_
    refine hLoad_add (hLoad_slice (by rfl) ⟨rfl, hLoad_int (by rfl) ⟨rfl, hNew_of fun b20 => hLoad_add (hLoad_slice (by rfl) ⟨rfl, ?_⟩)⟩⟩)
    rw [Int.toNat_natCast]
    have hbits : makeCells #[.bool false] (cells * 1) = rows boolC (bitsL N) := by
      have e1 : makeCells #[.bool false] (cells * 1) = rows boolC (List.replicate cells false) := rows_make (f := boolC) (z := false) (by decide) cells
      rw [e1]
      congr 1
      apply List.ext_getElem?
      intro i
      rw [List.getElem?_replicate]
      by_cases hi : i < cells
      · rw [if_pos hi, bitsL_get (by omega)]; rw [hNe]; unfold Blk.bit; simp
      · rw [if_neg hi, List.getElem?_eq_none (by rw [bitsL_len]; omega)]
    rw [hbits]
    obtain ⟨ub', hub⟩ : ∃ ub' : Nat → Nat, ub' = fun x => if x = a then b17 else ub x := ⟨_, rfl⟩
    have hubo : ∀ D ∈ bs, ub' D.base = ub D.base := fun D hD => by rw [hub]; simp only; rw [if_neg (hnew D hD)]
    have hubn : ub' N.base = b17 := by rw [hub, hNe]; simp
    have hown := Own.congr G.own (g := rbC ub') fun D hD => by unfold rbC; rw [hubo D hD]
    have hrow : rbC ub' N = [.int .i64 (a : Int), .int .i64 cls, .int .i64 (wd : Int), .slice (some ⟨b17, 0, none⟩) cells cells, .int .i64 (-1)] := by
      unfold rbC; rw [hubn, n1, n2, hNe]; rfl
    refine hAppend_Own hown N (rbC_len ub') (Row.of (c := #[.int .i64 (a : Int), .int .i64 cls, .int .i64 (wd : Int), .slice (some ⟨b17, 0, none⟩) cells cells, .int .i64 (-1)]) (fun j v hj => by rw [Nat.zero_add]; rw [hrow] at hj; simpa using hj)) (by rw [hrow]; rfl) rfl (by omega) (by omega) (fun s2 H2 r3 hO2 hr2 => ?_)
    obtain ⟨g2, rfl⟩ := hr2
    have hs2 := hO2.len
    rw [List.length_append, List.length_singleton] at hs2
    refine hNil_some (hStore_add (hStore_at (by simp) ?_))
    simp only [List.setIfInBounds_toArray, Nat.zero_add, List.set_cons_succ, List.set_cons_zero]
    refine hNil_some (hLoad_add (hLoad_slice (by rfl) ?_))
    dsimp only
    refine hInt_i64 (by omega) (by omega) ?_
    refine .inr (.inr ⟨a, refCX Q ub' P (bs ++ [N]) XT' s2 H2, h1, hf, ⟨ub', XT', s2, H2, ⟨?_, hnle, G.ple, hT, ?_⟩, ?_⟩, ret.eq ?_ ?_⟩)
    · have := hok; rw [hNe] at this; exact this
    · rw [← hNe]; exact hO2
    · rw [← hNe]
    · rw [hs2]; simp
    · unfold refCX
      have e1 : sumB (uH ub') (bs ++ [N]) = sumB (uH ub) bs + pt b17 (.cells (rows boolC (bitsL N)) 4 (0, 0)) := by
        rw [sumB_append, sumB_congr (f := uH ub') (g := uH ub) (fun D hD => by unfold uH; rw [hubo D hD])]
        simp only [sumB, HP.add_zero]; unfold uH uO; rw [hubn]
      rw [e1]
      exact Over.of _ _
end
end Go.Proofs.YtolfcdjbchdkgaaDoor
/- The document's cells: Pages, Give, pick. Own work. -/
namespace Go.Proofs.YtolfcdjbchdkgaaDoor
open Go Go.Hp
set_option maxRecDepth 100000
attribute [local irreducible] hLoad hStore hNew hInt hQuo hRem hShl hShr hIf hNil hIdx hCut hElem hByte hAppend hMake hCall hYield hGet hPut hDel hNewMap hLoop hLet hAll hRange hRec hEq hCmp bitv W Does HYield

theorem take_filter {α : Type} {f : α → Bool} {l : List α} {i : Nat} {x : α} (h : l[i]? = some x) : (l.take (i + 1)).filter f = (l.take i).filter f ++ if f x then [x] else [] := by
  obtain ⟨hi, rfl⟩ := List.getElem?_eq_some_iff.1 h
  rw [List.take_succ_eq_append_getElem hi, List.filter_append]
  congr 1
  cases h3 : f l[i] <;> simp [h3]
theorem holdI_eq {h : Option Nat} {p : Nat} : holdI h = (p : Int) ↔ h = some p := by
  cases h with
  | none => simp only [holdI, reduceCtorEq, iff_false] <;> omega
  | some q => simp only [holdI, Option.some.injEq] <;> omega
theorem holdI_neg {h : Option Nat} : holdI h < 0 ↔ h = none := by
  cases h with
  | none => simp [holdI]
  | some q => simp only [holdI, reduceCtorEq, iff_false]; omega
theorem holdI_le {P : Nat} {B : Blk} (h : BOk P B) (hp : P ≤ 8) : -1 ≤ holdI B.holder ∧ holdI B.holder ≤ 8 := by
  cases e : B.holder with
  | none => simp [holdI]
  | some q => have := (h.hold q e).1; simp only [holdI]; omega
theorem set_upd {n P : Nat} {l : List Sp} {bs : List Blk} (hk : COk n P l bs) {i : Nat} {B : Blk} (hB : bs[i]? = some B) (f : Blk → Blk) : bs.set i (f B) = upd bs B.base f := by
  obtain ⟨a, b, rfl, rfl⟩ := split_at hB
  rw [upd_split (nodup_split hk.nod), List.set_append_right _ _ (Nat.le_refl _), Nat.sub_self, List.set_cons_zero]

section
variable {Q : QL} {ub : Nat → Nat} {n P : Nat} {l : List Sp} {bs : List Blk} {X : HP}
theorem rcPages_does (h : RefC Q n P l bs X) (c : Int) (hc : c ≤ 9223372036854775807) {m r : HP} [hs : Sub X m r] :
    Does Tryd.prog 58 #[.pointer (some ⟨Q.c, 0, none⟩), .int .i64 c] m fun e m' =>
      (c < 1 ∧ ret (.tuple #[.int .i64 0, .int .i64 1]) (X + r) e m') ∨ (1 ≤ c ∧ Nowhere (UL n l) c.toNat ∧ ret (.tuple #[.int .i64 0, .int .i64 3]) (X + r) e m') ∨
      ∃ (a : Nat) (X' : HP), 1 ≤ c ∧ First (UL n l) c.toNat a ∧ RefC Q n P (insS ⟨a, c.toNat, 0⟩ l) (bs ++ [⟨a, c.toNat, -2, 0#64, none⟩]) X' ∧ ret (.tuple #[.int .i64 (a : Int), .int .i64 0]) (X' + r) e m' := by
  refine F58_fn ?_
  unfold F58
  refine hCall_of (rcmake_does h c hc (cls := -2) (wd := 1) (cells := 0) (by omega) (fun h1 a => ⟨rfl, rfl, .inl rfl, by simp only; omega, fun i _ => by unfold Blk.bit; simp, fun p hp => by cases hp⟩)) ?_
  rintro e m' (⟨h1, rfl, ho⟩ | ⟨h1, h2, rfl, ho⟩ | ⟨a, X', h1, hf, hC, rfl, ho⟩)
  · exact ⟨_, ho, _, _, rfl, hIf_neT (by omega) (.inl ⟨h1, ret.mk (Over.refl _)⟩)⟩
  · exact ⟨_, ho, _, _, rfl, hIf_neT (by omega) (.inr (.inl ⟨h1, h2, ret.mk (Over.refl _)⟩))⟩
  · refine ⟨_, ho, _, _, rfl, hIf_neF rfl ?_⟩
    obtain ⟨ub, XT, s, HB, G, rfl⟩ := id hC
    have hlen := G.ok.len
    have hnle := G.nle
    rw [List.length_append, List.length_singleton] at hlen
    obtain ⟨b, cap, cc, rfl, rfl, hcc, _, _⟩ := own_at G.own (rbC_len ub) (i := bs.length) (x := ⟨a, c.toNat, -2, 0#64, none⟩) (by rw [List.getElem?_append_right (Nat.le_refl _)]; simp)
    unfold refCX
    refine hNil_some (hLoad_add (hLoad_slice (by rfl) ?_))
    dsimp only
    have e0 : 0 + ((bs.length : Nat) : Int).toNat * 5 = bs.length * 5 := by omega
    refine hIdx_of (by omega) (by simp only [List.length_append, List.length_singleton]; omega) ?_
    rw [e0]
    refine hLoad_int (hcc 0 (by omega)) ?_
    refine .inr (.inr ⟨a, _, h1, hf, hC, ?_⟩)
    unfold refCX
    exact ret.mk (Over.of _ _)

/-- What Give keeps. -/
def kept (base : Int) (B : Blk) : Bool := !(decide ((B.base : Int) = base) && decide (B.cls = -2))
theorem kept_rem (hk : COk n P l bs) {B : Blk} (hB : B ∈ bs) (hc : B.cls = -2) : bs.filter (kept (B.base : Int)) = rem bs B.base := by
  unfold rem
  apply List.filter_congr
  intro D hD
  unfold kept
  by_cases e : D.base = B.base
  · rw [hk.base_inj hD hB e]; simp [hc]
  · have e1 : ¬ (D.base : Int) = (B.base : Int) := by omega
    have e2 : (D.base != B.base) = true := by simpa using e
    rw [e2]; simp [e1]
theorem uh_rem (hk : COk n P l bs) {B : Blk} (hB : B ∈ bs) : sumB (uH ub) bs = uH ub B + sumB (uH ub) (rem bs B.base) := by
  obtain ⟨b1, b2, rfl⟩ := mem_split hB
  rw [rem_split (nodup_split hk.nod), sumB_mid]

theorem rcGive_does (h : RefC Q n P l bs X) (base : Int) {m r : HP} [hs : Sub X m r] :
    Does Tryd.prog 59 #[.pointer (some ⟨Q.c, 0, none⟩), .int .i64 base] m fun e m' =>
      ((∀ B ∈ bs, B.cls = -2 → (B.base : Int) ≠ base) ∧ ret (.int .i64 4) (X + r) e m') ∨
      ∃ (B : Blk) (X' : HP), B ∈ bs ∧ B.cls = -2 ∧ (B.base : Int) = base ∧ RefC Q n P (delS B.base l) (rem bs B.base) X' ∧ ret (.int .i64 0) (X' + r) e m' := by
  obtain ⟨ub, XT, s, HB, G, rfl⟩ := h
  have hnle := G.nle
  have hlen := G.ok.len
  have hsn := G.own.len
  rw [hs.eq]
  refine F59_fn ?_
  unfold F59
  refine hLoop_of (fun d x m' => ∃ (i : Nat) (s' : Sl) (H' : HP), i ≤ bs.length ∧ d = bs.length - i ∧ x = (s', ((bs.take i).any fun B => !kept base B), (i : Int), ()) ∧ Own 118 5 (rbC ub) ((bs.take i).filter (kept base)) s' H' ∧ Over (refCX Q ub P bs XT s HB + (H' + r)) m') ?_ ?_
  · exact ⟨_, 0, ⟨none, 0, 0⟩, 0, by omega, rfl, rfl, Own.nil, by rw [HP.zero_add]; exact Over.refl _⟩
  rintro d x m' ⟨i, s', H', hi, rfl, rfl, hO, g, rfl⟩
  refine hAll_of fun _ => ?_
  unfold F59_l4 refCX
  dsimp only
  refine hNil_some (hLoad_add (hLoad_slice (by rfl) ?_))
  dsimp only
  refine hIf_dec (fun h1 => ?_) (fun h1 => ?_)
  · have hi' : i < bs.length := by omega
    have hBi : bs[i]? = some bs[i] := List.getElem?_eq_getElem hi'
    have hBm := List.getElem_mem hi'
    generalize bs[i] = B at hBi hBm
    have hq : ((bs.take i).filter (kept base)).length ≤ 4096 := Nat.le_trans (List.length_filter_le _ _) (by rw [List.length_take]; omega)
    obtain ⟨b, cap, c, rfl, rfl, hc, _, _⟩ := own_at G.own (rbC_len ub) hBi
    have e0 : 0 + (i : Int).toNat * 5 = i * 5 := by omega
    have htf := take_filter (f := kept base) hBi
    have hta : ((bs.take (i + 1)).any fun B => !kept base B) = (((bs.take i).any fun B => !kept base B) || !kept base B) := by
      obtain ⟨hi2, rfl⟩ := List.getElem?_eq_some_iff.1 hBi
      rw [List.take_succ_eq_append_getElem hi2, List.any_append]; simp
    refine hLet_of (fun st m' => ∃ (s2 : Sl) (H2 : HP), st = (s2, ((bs.take (i + 1)).any fun B => !kept base B), ()) ∧ Own 118 5 (rbC ub) ((bs.take (i + 1)).filter (kept base)) s2 H2 ∧
      Over (pt Q.c (.cells #[.pointer (some ⟨Q.T.t, 0, none⟩), .slice (some ⟨b, 0, none⟩) bs.length cap, .int .i64 (P : Int)] 115 (0, 0)) + (XT + (pt b (.cells c 118 (0, 0)) + sumB (uH ub) bs)) + (H2 + r)) m') ?_ ?_
    · refine hNil_some (hLoad_add (hLoad_slice (by rfl) ?_))
      dsimp only
      refine hIdx_of (by omega) (by omega) ?_
      rw [e0]
      refine hLoad_int (hc 0 (by omega)) ?_
      have app : ∀ (st : Sl × Bool × Unit → HP → Prop), kept base B = true → (∀ s2 H2 m', Own 118 5 (rbC ub) ((bs.take (i + 1)).filter (kept base)) s2 H2 → Over (pt Q.c (.cells #[.pointer (some ⟨Q.T.t, 0, none⟩), .slice (some ⟨b, 0, none⟩) bs.length cap, .int .i64 (P : Int)] 115 (0, 0)) + (XT + (pt b (.cells c 118 (0, 0)) + sumB (uH ub) bs)) + (H2 + r)) m' → st (s2, ((bs.take (i + 1)).any fun B => !kept base B), ()) m') →
          (hNil (some ⟨Q.c, 0, none⟩) fun a_29 => hLoad .slice (a_29.add 1) fun (v_30 : Sl) => hIdx v_30.a v_30.n (i : Int) 5 fun a_31 => hLoad (.int .i64) a_31 fun (v_32 : Int) => hLoad (.int .i64) (a_31.add 1) fun (v_33 : Int) => hLoad (.int .i64) (a_31.add 2) fun (v_34 : Int) =>
            hLoad .slice (a_31.add 3) fun (v_35 : Sl) => hLoad (.int .i64) (a_31.add 4) fun (v_36 : Int) => hNew #[(.int .i64 v_32), (.int .i64 v_33), (.int .i64 v_34), (.slice v_35.a v_35.n v_35.cap), (.int .i64 v_36)] 118 fun b_37 =>
            hAppend 5 56 #[(.int .i64 0), (.int .i64 0), (.int .i64 0), (.slice none 0 0), (.int .i64 0)] 118 ⟨s'.a, s'.n, s'.cap⟩ ⟨(some ⟨b_37, 0, none⟩), 1, 1⟩ fun v_38 => st (v_38, ((bs.take i).any fun B => !kept base B), ())) (pt Q.c (.cells #[.pointer (some ⟨Q.T.t, 0, none⟩), .slice (some ⟨b, 0, none⟩) bs.length cap, .int .i64 (P : Int)] 115 (0, 0)) + (XT + (pt b (.cells c 118 (0, 0)) + sumB (uH ub) bs)) + (H' + r) + g) := by
        intro st hkB hst
        refine hNil_some (hLoad_add (hLoad_slice (by rfl) ?_))
        dsimp only
        refine hIdx_of (by omega) (by omega) ?_
        rw [e0]
        refine hLoad_int (hc 0 (by omega)) ?_
        refine hLoad_add (hLoad_int (hc 1 (by omega)) ?_)
        refine hLoad_add (hLoad_int (hc 2 (by omega)) ?_)
        refine hLoad_add (hLoad_slice (hc 3 (by omega)) ?_)
        refine hLoad_add (hLoad_int (hc 4 (by omega)) ?_)
        refine hNew_of fun b37 => ?_
        dsimp only
        refine hAppend_Own hO B (rbC_len ub) (Row.of (c := #[.int .i64 (B.base : Int), .int .i64 B.cls, .int .i64 (B.rw_ : Nat), .slice (some ⟨ub B.base, 0, none⟩) B.cells B.cells, .int .i64 (holdI B.holder)]) (fun j v hj => by rw [Nat.zero_add]; simpa [rbC] using hj)) rfl rfl (by omega) (by omega) (fun s2 H2 r3 hO2 hr2 => ?_)
        obtain ⟨g2, rfl⟩ := hr2
        have e1 : ((bs.take (i + 1)).any fun B => !kept base B) = ((bs.take i).any fun B => !kept base B) := by rw [hta, hkB]; simp
        rw [← e1]
        refine hst s2 H2 _ ?_ (Over.of _ _)
        rw [htf, hkB]; exact hO2
      refine hIf_eq (fun h2 => ?_) (fun h2 => ?_)
      · refine hNil_some (hLoad_add (hLoad_slice (by rfl) ?_))
        dsimp only
        refine hIdx_of (by omega) (by omega) ?_
        rw [e0]
        refine hLoad_add (hLoad_int (hc 1 (by omega)) (hIf_eq (fun h3 => ?_) (fun h3 => ?_)))
        · have hkB : kept base B = false := by unfold kept; simp [h2, h3]
          refine ⟨s', H', ?_, by rw [htf, hkB]; simpa using hO, Over.of _ _⟩
          rw [hta, hkB]; simp
        · exact app (fun st m' => ∃ (s2 : Sl) (H2 : HP), st = (s2, ((bs.take (i + 1)).any fun B => !kept base B), ()) ∧ Own 118 5 (rbC ub) ((bs.take (i + 1)).filter (kept base)) s2 H2 ∧
          Over (pt Q.c (.cells #[.pointer (some ⟨Q.T.t, 0, none⟩), .slice (some ⟨b, 0, none⟩) bs.length cap, .int .i64 (P : Int)] 115 (0, 0)) + (XT + (pt b (.cells c 118 (0, 0)) + sumB (uH ub) bs)) + (H2 + r)) m') (by unfold kept; simp [h3]) fun s2 H2 m' h4 h5 => ⟨s2, H2, rfl, h4, h5⟩
      · exact app (fun st m' => ∃ (s2 : Sl) (H2 : HP), st = (s2, ((bs.take (i + 1)).any fun B => !kept base B), ()) ∧ Own 118 5 (rbC ub) ((bs.take (i + 1)).filter (kept base)) s2 H2 ∧
          Over (pt Q.c (.cells #[.pointer (some ⟨Q.T.t, 0, none⟩), .slice (some ⟨b, 0, none⟩) bs.length cap, .int .i64 (P : Int)] 115 (0, 0)) + (XT + (pt b (.cells c 118 (0, 0)) + sumB (uH ub) bs)) + (H2 + r)) m') (by unfold kept; simp [h2]) fun s2 H2 m' h4 h5 => ⟨s2, H2, rfl, h4, h5⟩
    · rintro st m' ⟨s2, H2, rfl, hO2, g2, rfl⟩
      refine hAll_of fun _ => ?_
      unfold F59_j5
      dsimp only
      exact hInt_i64 (by omega) (by omega) ⟨bs.length - (i + 1), by omega, i + 1, s2, H2, by omega, rfl, rfl, hO2, Over.of _ _⟩
  · obtain rfl : i = bs.length := by omega
    rw [List.take_length] at hO ⊢
    refine hIf_not (hIf_split (fun h2 => ?_) (fun h2 => ?_))
    · rw [List.any_eq_true] at h2
      obtain ⟨B, hB, hkB⟩ := h2
      have hb : (B.base : Int) = base ∧ B.cls = -2 := by unfold kept at hkB; simpa using hkB
      obtain ⟨rfl, hcls⟩ := hb
      rw [kept_rem G.ok hB hcls] at hO
      rw [uh_rem G.ok hB]
      refine hNil_some (hStore_add (hStore_at (by simp) ?_))
      simp only [List.setIfInBounds_toArray, Nat.zero_add, List.set_cons_succ, List.set_cons_zero]
      refine hNil_some (hLoad_ptr (by rfl) ?_)
      refine hCall_of (rfree5_does G.tab _) ?_
      rintro e m' (⟨h3, _⟩ | ⟨t, XT', h3, h4, hT, rfl, ho⟩)
      · exact absurd rfl (h3 _ (G.ok.sp hB))
      have ht : t.base = B.base := by omega
      rw [ht] at hT
      refine ⟨_, ho, _, rfl, .inr ⟨B, refCX Q ub P (rem bs B.base) XT' s' H', hB, hcls, rfl, ⟨ub, XT', s', H', ⟨G.ok.rem hB, hnle, G.ple, hT, hO⟩, rfl⟩, ?_⟩⟩
      unfold refCX
      exact ret.mk (Over.of _ _)
    · refine .inl ⟨fun B hB hcls e => ?_, ret.mk (Over.of _ _)⟩
      rw [List.any_eq_false] at h2
      have := h2 B hB
      unfold kept at this
      simp [hcls, e] at this

/-- A block of the document's list in memory: its row, its cells. -/
theorem refc_at {XT HB : HP} {s : Sl} (G : QGood Q ub n P l bs XT s HB) {i : Nat} {B : Blk} (hB : bs[i]? = some B) : ∃ b cap c R, s = ⟨some ⟨b, 0, none⟩, bs.length, cap⟩ ∧ HB = pt b (.cells c 118 (0, 0)) ∧ (∀ j, j < 5 → c[i * 5 + j]? = (rbC ub B)[j]?) ∧ i * 5 + 4 < c.size ∧
    sumB (uH ub) bs = pt (ub B.base) (uO B) + R ∧
    (∀ x : Option Nat, Own 118 5 (rbC ub) (upd bs B.base fun D => { D with holder := x }) s (pt b (.cells (c.setIfInBounds (i * 5 + 4) (.int .i64 (holdI x))) 118 (0, 0))) ∧ sumB (uH ub) (upd bs B.base fun D => { D with holder := x }) = sumB (uH ub) bs) ∧
    (∀ u : BitVec 64, Own 118 5 (rbC ub) (upd bs B.base fun D => { D with used := u }) s HB ∧ sumB (uH ub) (upd bs B.base fun D => { D with used := u }) = pt (ub B.base) (uO { B with used := u }) + R) := by
  have hBm := List.mem_of_getElem? hB
  obtain ⟨b, cap, c, h1, h2, h3, h4, h5⟩ := own_at G.own (rbC_len ub) hB
  obtain ⟨b1, b2, hbs⟩ := mem_split hBm
  have hnd := G.ok.nod
  rw [hbs] at hnd
  have hsplit := nodup_split hnd
  refine ⟨b, cap, c, sumB (uH ub) (b1 ++ b2), h1, h2, h3, h4 4 (by omega), ?_, fun x => ⟨?_, ?_⟩, fun u => ⟨?_, ?_⟩⟩
  · rw [hbs, sumB_mid]; rfl
  · have := h5 4 { B with holder := x } (.int .i64 (holdI x)) (by omega) rfl
    rw [set_upd G.ok hB fun D => { D with holder := x }] at this
    exact this
  · rw [hbs, upd_split hsplit, sumB_mid, sumB_mid]; rfl
  · have e : (upd bs B.base fun D => { D with used := u }).flatMap (rbC ub) = bs.flatMap (rbC ub) := by
      unfold upd
      rw [List.flatMap_map]
      rw [List.flatMap_def, List.flatMap_def]; congr 1
      apply List.map_congr_left
      intro D _
      split <;> rfl
    have el : (upd bs B.base fun D => { D with used := u }).length = bs.length := by unfold upd; simp
    rcases G.own with ⟨_, h7, _⟩ | ⟨b', cap', c', h6, h7, h8, h9, h10⟩
    · rw [h7] at hB; simp at hB
    · exact .inr ⟨b', cap', c', by rw [el]; exact h6, h7, by rw [el]; exact h8, fun q hq => by rw [e]; rw [el] at hq; exact h9 q hq, h10⟩
  · rw [hbs, upd_split hsplit, sumB_mid]; rfl
end
end Go.Proofs.YtolfcdjbchdkgaaDoor
/- The document's cells: pick, Alloc. Own work. -/
namespace Go.Proofs.YtolfcdjbchdkgaaDoor
open Go Go.Hp
set_option maxRecDepth 100000
attribute [local irreducible] hLoad hStore hNew hInt hQuo hRem hShl hShr hIf hNil hIdx hCut hElem hByte hAppend hMake hCall hYield hGet hPut hDel hNewMap hLoop hLet hAll hRange hRec hEq hCmp bitv W Does HYield

def qHead (Q : QL) (P b n cap : Nat) : HP := pt Q.c (.cells #[.pointer (some ⟨Q.T.t, 0, none⟩), .slice (some ⟨b, 0, none⟩) n cap, .int .i64 (P : Int)] 115 (0, 0))
section
variable {Q : QL} {ub : Nat → Nat} {n P : Nat} {l : List Sp} {bs : List Blk} {X : HP}

theorem j22_does (h : RefC Q n P l bs X) {j p c : Nat} {B : Blk} (hB : bs[j]? = some B) (hp : p < P) (hc : c < 16) (hcls : B.cls = (c : Int)) (hno : ∀ D ∈ bs, D.holder = some p → D.cls = (c : Int) → False)
    {r g : HP} {R : Ending → HP → Prop} (hR : ∀ X' m', RefC Q n P l (upd bs B.base fun D => { D with holder := some p }) X' → Over (X' + r) m' → R (.returned (.tuple #[.int .i64 (j : Int), .int .i64 0])) m') :
    F75_j22 (some ⟨Q.c, 0, none⟩) (p : Int) (j : Int) R (X + r + g) := by
  obtain ⟨ub, XT, s, HB, G, rfl⟩ := h
  have hlen := G.ok.len
  have hnle := G.nle
  have hj := (List.getElem?_eq_some_iff.1 hB).1
  obtain ⟨b, cap, cc, R2, rfl, rfl, hcc, hsz, hsum, hset, _⟩ := refc_at G hB
  obtain ⟨hO, hS⟩ := hset (some p)
  unfold F75_j22 refCX
  have e0 : 0 + (j : Int).toNat * 5 = j * 5 := by omega
  refine hNil_some (hLoad_add (hLoad_slice (by rfl) ?_))
  dsimp only
  refine hIdx_of (by omega) (by omega) ?_
  rw [e0]
  refine hStore_add (hStore_at (by omega) ?_)
  have hlu : (upd bs B.base fun D => { D with holder := some p }).length = bs.length := by unfold upd; simp
  refine hR (refCX Q ub P (upd bs B.base fun D => { D with holder := some p }) XT ⟨some ⟨b, 0, none⟩, bs.length, cap⟩ (pt b (.cells (cc.setIfInBounds (j * 5 + 4) (.int .i64 (p : Int))) 118 (0, 0)))) _
    ⟨ub, XT, _, _, ⟨G.ok.hold (List.mem_of_getElem? hB) hp (by omega) (fun D hD e1 e2 => (hno D hD e1 (by rw [e2, hcls])).elim), hnle, G.ple, G.tab, hO⟩, rfl⟩ ?_
  unfold refCX
  rw [hS]
  exact Over.of _ _

theorem rcpick_does (h : RefC Q n P l bs X) {p c : Nat} (hp : p < P) (hc : c < 16) {m r : HP} [hs : Sub X m r] :
    Does Tryd.prog 75 #[.pointer (some ⟨Q.c, 0, none⟩), .int .i64 (p : Int), .int .i64 (c : Int)] m fun e m' => ∃ l' bs' o X', TakeR n l bs p c l' bs' o ∧ RefC Q n P l' bs' X' ∧
      ((o = none ∧ ret (.tuple #[.int .i64 0, .int .i64 3]) (X' + r) e m') ∨ ∃ j B, bs'[j]? = some B ∧ o = some B.base ∧ ret (.tuple #[.int .i64 (j : Nat), .int .i64 0]) (X' + r) e m') := by
  have hok := h.ok
  have hnle := h.nle
  have hple := h.ple
  have hlen := hok.len
  have hw := words_facts hc
  rw [hs.eq]
  refine F75_fn ?_
  unfold F75
  refine hLoop_of (fun d x m' => ∃ (i : Nat) (bsi : List Blk) (Xi : HP), i ≤ bs.length ∧ d = bs.length - i ∧ x = ((i : Int), ()) ∧ RefC Q n P l bsi Xi ∧ bsi.length = bs.length ∧
    ((bsi = bs ∧ ∀ (j : Nat) (B : Blk), j < i → bs[j]? = some B → B.holder = some p → B.cls = (c : Int) → False) ∨ (bsi = release bs p c ∧ ∀ B ∈ bs, B.holder = some p → B.cls = (c : Int) → B.full)) ∧ Over (Xi + r) m') ?_ ?_
  · exact ⟨_, 0, bs, X, by omega, rfl, rfl, h, rfl, .inl ⟨rfl, fun j B hj => by omega⟩, Over.refl _⟩
  rintro d x m' ⟨i, bsi, Xi, hi, rfl, rfl, hC, hli, hcase, g, rfl⟩
  refine hAll_of fun _ => ?_
  unfold F75_l3
  dsimp only
  have hoki := hC.ok
  obtain ⟨ub, XT, s, HB, G, rfl⟩ := id hC
  have hsn := G.own.len

  unfold refCX
  refine hNil_some (hLoad_add (hLoad_slice (by rfl) ?_))
  dsimp only
  refine hIf_dec (fun h1 => ?_) (fun h1 => ?_)
  · have hi' : i < bsi.length := by omega
    have hBi : bsi[i]? = some bsi[i] := List.getElem?_eq_getElem hi'
    have hBm := List.getElem_mem hi'
    generalize bsi[i] = B at hBi hBm
    have hbk := hoki.bok B hBm
    have hhl := holdI_le hbk hple
    obtain ⟨b, cap, cc, R2, rfl, rfl, hcc, hsz, hsum, hset, _⟩ := refc_at G hBi
    have e0 : 0 + (i : Int).toNat * 5 = i * 5 := by omega
    -- the next state
    obtain ⟨NX, hNX⟩ : ∃ NX : Unit → HP → Prop, NX = fun _ m' => ∃ (bsj : List Blk) (Xj : HP), RefC Q n P l bsj Xj ∧ bsj.length = bs.length ∧
      ((bsj = bs ∧ ∀ (j : Nat) (B : Blk), j < i + 1 → bs[j]? = some B → B.holder = some p → B.cls = (c : Int) → False) ∨ (bsj = release bs p c ∧ ∀ B ∈ bs, B.holder = some p → B.cls = (c : Int) → B.full)) ∧ Over (Xj + r) m' := ⟨_, rfl⟩
    have hskip : ¬ (B.holder = some p ∧ B.cls = (c : Int)) → ∀ m', Over (refCX Q ub P bsi XT ⟨some ⟨b, 0, none⟩, bsi.length, cap⟩ (pt b (.cells cc 118 (0, 0))) + r) m' → NX () m' := by
      intro hn m' ho
      rw [hNX]
      refine ⟨bsi, _, hC, hli, ?_, ho⟩
      rcases hcase with ⟨rfl, h2⟩ | h2
      · refine .inl ⟨rfl, fun j D hj hD d1 d2 => ?_⟩
        rcases Nat.lt_or_ge j i with h5 | h5
        · exact h2 j D h5 hD d1 d2
        · obtain rfl : j = i := by omega
          rw [hBi] at hD
          simp only [Option.some.injEq] at hD
          subst hD; exact hn ⟨d1, d2⟩
      · exact .inr h2
    refine hLet_of NX ?_ ?_
    · rw [hsum]
      haveI hub : Has (ub B.base) (pt (ub B.base) (uO B) + R2) (uO B) R2 := ⟨rfl⟩
      refine hNil_some (hLoad_add (hLoad_slice (by rfl) ?_))
      dsimp only
      refine hIdx_of (by omega) (by omega) ?_
      rw [e0]
      refine hLoad_int (hcc 0 (by omega)) ?_
      refine hLoad_add (hLoad_int (hcc 1 (by omega)) ?_)
      refine hLoad_add (hLoad_int (hcc 2 (by omega)) ?_)
      refine hLoad_add (hLoad_slice (hcc 3 (by omega)) ?_)
      refine hLoad_add (hLoad_int (hcc 4 (by omega)) ?_)
      refine hNew_of fun b18 => hStore5_0 (hStore5_1 (hStore5_2 (hStore5_3 (hStore5_4 ?_))))
      refine hLoad_int (by rfl) (hIf_ne (fun h2 => ?_) (fun h2 => ?_))
      · refine hskip (fun e => h2 e.2) _ ?_
        unfold refCX; rw [hsum]; exact Over.of _ _
      refine hLoad_int (by rfl) (hIf_eq (fun h3 => ?_) (fun h3 => ?_))
      · have hh : B.holder = some p := holdI_eq.1 h3
        -- the block is held: this is the first case
        have hbs : bsi = bs := by
          rcases hcase with ⟨e, _⟩ | ⟨e, _⟩
          · exact e
          · rw [e] at hBm; exact (release_no B hBm hh h2).elim
        subst hbs
        refine hLoad_int (by rfl) (hLoad_int (by rfl) (hLoad_int (by rfl) (hLoad_slice (by rfl) (hLoad_int (by rfl) ?_))))
        dsimp only
        refine hCall_of (rfreecell_does hbk _ _ _ _) ?_
        rintro e m2 (⟨hfull, rfl, ho2⟩ | ⟨k, hk, rfl, ho2⟩)
        · refine ⟨_, ho2, _, rfl, hIf_neg (by omega) (hLoad_int (by rfl) (hIf_eqT h3 ?_))⟩
          refine hNil_some (hLoad_add (hLoad_slice (by rfl) ?_))
          dsimp only
          refine hIdx_of (by omega) (by omega) ?_
          rw [e0]
          refine hStore_add (hStore_at (by omega) ?_)
          rw [hNX]
          obtain ⟨hO, hS⟩ := hset none
          have hrel := release_one hoki hBm hh h2
          have hrok := hoki.release p (c : Int)
          rw [hrel] at hrok
          refine ⟨upd bsi B.base fun D => { D with holder := none }, refCX Q ub P (upd bsi B.base fun D => { D with holder := none }) XT _ _, ⟨ub, XT, _, _, ⟨hrok, hnle, hple, G.tab, hO⟩, rfl⟩, by unfold upd; simp, .inr ⟨hrel.symm, fun D hD d1 d2 => ?_⟩, ?_⟩
          · rw [hoki.base_inj hD hBm (hoki.one D hD B hBm (by rw [d1]; rfl) (by rw [d1, hh]) (by rw [d2, h2]))]; exact hfull
          · unfold refCX; rw [hS, hsum]; dsimp only [holdI]; exact Over.of _ _
        · refine ⟨_, ho2, _, rfl, hIf_pos (by omega) ⟨l, bsi, some B.base, _, .inl ⟨B, hBm, hh, h2, fun hf => ?_, rfl, rfl, rfl⟩, hC, .inr ⟨i, B, hBi, rfl, ?_⟩⟩⟩
          · have := hf k hk.1; rw [hk.2.1] at this; cases this
          · unfold refCX; rw [hsum]; exact ret.mk (Over.of _ _)
      · refine hLoad_int (by rfl) (hIf_eqF h3 (hskip (fun e => h3 (holdI_eq.2 e.1)) _ ?_))
        unfold refCX; rw [hsum]; exact Over.of _ _
    · rw [hNX]
      rintro st m' ⟨bsj, Xj, hCj, hlj, hcj, g2, rfl⟩
      refine hAll_of fun _ => ?_
      unfold F75_j4
      exact hInt_i64 (by omega) (by omega) ⟨bs.length - (i + 1), by omega, i + 1, bsj, Xj, by omega, rfl, rfl, hCj, hlj, hcj, Over.of _ _⟩
  · -- none held with a free cell: the state is that of release
    have hend : bsi = release bs p c ∧ ∀ B ∈ bs, B.holder = some p → B.cls = (c : Int) → B.full := by
      rcases hcase with ⟨rfl, h2⟩ | h2
      · have hno : ∀ B ∈ bsi, B.holder = some p → B.cls = (c : Int) → False := fun B hB d1 d2 => by
          obtain ⟨j, hj⟩ := List.getElem?_of_mem hB
          exact h2 j B (by have := (List.getElem?_eq_some_iff.1 hj).1; omega) hj d1 d2
        exact ⟨(release_none hno).symm, fun B hB d1 d2 => (hno B hB d1 d2).elim⟩
      · exact h2
    obtain ⟨hbe, hfull⟩ := hend
    have hno : ∀ B ∈ bsi, B.holder = some p → B.cls = (c : Int) → False := by rw [hbe]; exact release_no
    obtain ⟨Z, hZ⟩ : ∃ Z, Z = refCX Q ub P bsi XT s HB := ⟨_, rfl⟩
    have hZ' : pt Q.c (.cells #[.pointer (some ⟨Q.T.t, 0, none⟩), .slice s.a s.n s.cap, .int .i64 (P : Int)] 115 (0, 0)) + (XT + (HB + sumB (uH ub) bsi)) + r + g = Z + r + g := by rw [hZ]; rfl
    rw [hZ']
    refine hLoop_of (fun d x m' => ∃ (i : Nat) (best : Int), i ≤ bsi.length ∧ d = bsi.length - i ∧ x = (best, (i : Int), ()) ∧
      ((best = -1 ∧ ∀ (j : Nat) (B : Blk), j < i → bsi[j]? = some B → ¬ Elig c B) ∨ ∃ (k : Nat) (B : Blk), best = (k : Int) ∧ k < i ∧ bsi[k]? = some B ∧ Elig c B ∧ ∀ (j : Nat) (D : Blk), j < i → bsi[j]? = some D → Elig c D → B.base ≤ D.base) ∧ Over (Z + r) m') ?_ ?_
    · exact ⟨_, 0, -1, by omega, rfl, rfl, .inl ⟨rfl, fun j B hj => by omega⟩, Over.of _ _⟩
    rintro d x m' ⟨i2, best, hi2, rfl, rfl, hbest, g2, rfl⟩
    rw [hZ]
    refine hAll_of fun _ => ?_
    unfold F75_l12 refCX
    dsimp only
    refine hNil_some (hLoad_add (hLoad_slice (by rfl) ?_))
    dsimp only
    have hbr : -1 ≤ best ∧ best < bsi.length := by
      rcases hbest with ⟨e, _⟩ | ⟨k, B, rfl, h2, h3, _⟩
      · omega
      · omega
    refine hIf_dec (fun h2 => ?_) (fun h2 => ?_)
    · have hi' : i2 < bsi.length := by omega
      have hBi : bsi[i2]? = some bsi[i2] := List.getElem?_eq_getElem hi'
      have hBm := List.getElem_mem hi'
      generalize bsi[i2] = B at hBi hBm
      have hbk := hoki.bok B hBm
      have hhl := holdI_le hbk hple
      obtain ⟨b, cap, cc, R2, rfl, rfl, hcc, hsz, hsum, _, _⟩ := refc_at G hBi
      have e0 : 0 + (i2 : Int).toNat * 5 = i2 * 5 := by omega
      obtain ⟨NX, hNX⟩ : ∃ NX : Int × Unit → HP → Prop, NX = fun s m' => ∃ best' : Int, s = (best', ()) ∧
        ((best' = -1 ∧ ∀ (j : Nat) (B : Blk), j < i2 + 1 → bsi[j]? = some B → ¬ Elig c B) ∨ ∃ (k : Nat) (B : Blk), best' = (k : Int) ∧ k < i2 + 1 ∧ bsi[k]? = some B ∧ Elig c B ∧ ∀ (j : Nat) (D : Blk), j < i2 + 1 → bsi[j]? = some D → Elig c D → B.base ≤ D.base) ∧ Over (Z + r) m' := ⟨_, rfl⟩
      have hstay : ¬ Elig c B → ∀ m', Over (Z + r) m' → NX (best, ()) m' := by
        intro hn m' ho
        rw [hNX]
        refine ⟨best, rfl, ?_, ho⟩
        rcases hbest with ⟨h3, h4⟩ | ⟨k, B', h3, h4, h5, h6, h7⟩
        · refine .inl ⟨h3, fun j D hj hD => ?_⟩
          rcases Nat.lt_or_ge j i2 with h8 | h8
          · exact h4 j D h8 hD
          · obtain rfl : j = i2 := by omega
            rw [hBi] at hD; simp only [Option.some.injEq] at hD; subst hD; exact hn
        · refine .inr ⟨k, B', h3, by omega, h5, h6, fun j D hj hD hel => ?_⟩
          rcases Nat.lt_or_ge j i2 with h8 | h8
          · exact h7 j D h8 hD hel
          · obtain rfl : j = i2 := by omega
            rw [hBi] at hD; simp only [Option.some.injEq] at hD; subst hD; exact absurd hel hn
      have htake : Elig c B → (∀ (j : Nat) (D : Blk), j < i2 → bsi[j]? = some D → Elig c D → B.base ≤ D.base) → ∀ m', Over (Z + r) m' → NX ((i2 : Int), ()) m' := by
        intro hel hmin m' ho
        rw [hNX]
        refine ⟨(i2 : Int), rfl, .inr ⟨i2, B, rfl, by omega, hBi, hel, fun j D hj hD hd => ?_⟩, ho⟩
        rcases Nat.lt_or_ge j i2 with h8 | h8
        · exact hmin j D h8 hD hd
        · obtain rfl : j = i2 := by omega
          rw [hBi] at hD; simp only [Option.some.injEq] at hD; subst hD; omega
      have hov : ∀ {Y m'' : HP}, Over (refCX Q ub P bsi XT ⟨some ⟨b, 0, none⟩, bsi.length, cap⟩ (pt b (.cells cc 118 (0, 0))) + r) m'' → Over (Z + r) m'' := fun ho => by rw [hZ]; exact ho
      refine hLet_of NX ?_ ?_
      · rw [hsum]
        haveI hub : Has (ub B.base) (pt (ub B.base) (uO B) + R2) (uO B) R2 := ⟨rfl⟩
        refine hNil_some (hLoad_add (hLoad_slice (by rfl) ?_))
        dsimp only
        refine hIdx_of (by omega) (by omega) ?_
        rw [e0]
        refine hLoad_int (hcc 0 (by omega)) ?_
        refine hLoad_add (hLoad_int (hcc 1 (by omega)) ?_)
        refine hLoad_add (hLoad_int (hcc 2 (by omega)) ?_)
        refine hLoad_add (hLoad_slice (hcc 3 (by omega)) ?_)
        refine hLoad_add (hLoad_int (hcc 4 (by omega)) ?_)
        refine hNew_of fun b53 => hStore5_0 (hStore5_1 (hStore5_2 (hStore5_3 (hStore5_4 ?_))))
        refine hLoad_int (by rfl) (hIf_eq (fun h3 => ?_) (fun h3 => ?_))
        rotate_left
        · refine hstay (fun e => h3 e.1) _ (hov (Y := 0) ?_)
          unfold refCX; rw [hsum]; exact Over.of _ _
        refine hLoad_int (by rfl) (hIf_dec (fun h4 => ?_) (fun h4 => ?_))
        rotate_left
        · refine hstay (fun e => h4 (holdI_neg.2 e.2.1)) _ (hov (Y := 0) ?_)
          unfold refCX; rw [hsum]; exact Over.of _ _
        have hh := holdI_neg.1 h4
        refine hLoad_int (by rfl) (hLoad_int (by rfl) (hLoad_int (by rfl) (hLoad_slice (by rfl) (hLoad_int (by rfl) ?_))))
        dsimp only
        refine hCall_of (rfreecell_does hbk _ _ _ _) ?_
        rintro e m2 (⟨hfl, rfl, ho2⟩ | ⟨k, hk, rfl, ho2⟩)
        · refine ⟨_, ho2, _, rfl, hIf_neg (by omega) (hstay (fun e => e.2.2 hfl) _ (hov (Y := 0) ?_))⟩
          unfold refCX; rw [hsum]; exact Over.of _ _
        · have hel : Elig c B := ⟨h3, hh, fun hf => by have := hf k hk.1; rw [hk.2.1] at this; cases this⟩
          refine ⟨_, ho2, _, rfl, hIf_pos (by omega) (hIf_dec (fun h5 => ?_) (fun h5 => ?_))⟩
          · refine htake hel (fun j D hj hD hd => ?_) _ (hov (Y := 0) ?_)
            · rcases hbest with ⟨_, h6⟩ | ⟨k', _, h6, _⟩
              · exact absurd hd (h6 j D hj hD)
              · omega
            · unfold refCX; rw [hsum]; exact Over.of _ _
          · rcases hbest with ⟨h6, _⟩ | ⟨k', B', rfl, h6, h7, h8, h9⟩
            · omega
            have hk' := (List.getElem?_eq_some_iff.1 h7).1
            obtain ⟨_, _, _, _, e1, e2, hcc', _⟩ := refc_at G h7
            simp only [Sl.mk.injEq, Option.some.injEq, Addr.mk.injEq, and_true, true_and] at e1
            obtain ⟨rfl, rfl⟩ := e1
            have hcc2 : _ := e2
            have hceq : ∀ j, j < 5 → cc[k' * 5 + j]? = (rbC ub B')[j]? := by
              have := congrFun (congrArg HP.blk e2) b
              rw [show (pt b (.cells cc 118 (0, 0))).blk b = .one (.cells cc 118 (0, 0)) from pt_same _ _] at this
              have h10 := this.trans (pt_same _ _)
              simp only [C.one.injEq, Obj.cells.injEq, and_true, true_and] at h10
              rw [h10]; exact hcc'
            have e5 : 0 + (k' : Int).toNat * 5 = k' * 5 := by omega
            refine hLoad_int (by rfl) (hNil_some (hLoad_add (hLoad_slice (by rfl) ?_)))
            dsimp only
            refine hIdx_of (by omega) (by omega) ?_
            rw [e5]
            refine hLoad_int (hceq 0 (by omega)) (hIf_dec (fun h10 => ?_) (fun h10 => ?_))
            · refine htake hel (fun j D hj hD hd => ?_) _ (hov (Y := 0) ?_)
              · have := h9 j D hj hD hd; omega
              · unfold refCX; rw [hsum]; exact Over.of _ _
            · rw [hNX]
              refine ⟨(k' : Int), rfl, .inr ⟨k', B', rfl, by omega, h7, h8, fun j D hj hD hd => ?_⟩, hov (Y := 0) ?_⟩
              · rcases Nat.lt_or_ge j i2 with h11 | h11
                · exact h9 j D h11 hD hd
                · obtain rfl : j = i2 := by omega
                  rw [hBi] at hD; simp only [Option.some.injEq] at hD; subst hD; omega
              · unfold refCX; rw [hsum]; exact Over.of _ _
      · rw [hNX]
        rintro st m' ⟨best', rfl, hb', g3, rfl⟩
        refine hAll_of fun _ => ?_
        unfold F75_j13
        dsimp only
        exact hInt_i64 (by omega) (by omega) ⟨bsi.length - (i2 + 1), by omega, i2 + 1, best', by omega, rfl, rfl, hb', ⟨g3, by rw [hZ]; rfl⟩⟩
    · have hZ2 : pt Q.c (.cells #[.pointer (some ⟨Q.T.t, 0, none⟩), .slice s.a s.n s.cap, .int .i64 (P : Int)] 115 (0, 0)) + (XT + (HB + sumB (uH ub) bsi)) + r + g2 = Z + r + g2 := by rw [hZ]; rfl
      rw [hZ2]
      have hCZ : RefC Q n P l bsi Z := by rw [hZ]; exact hC
      refine hLet_of (fun s m' => ∃ (j : Nat) (B : Blk) (l2 : List Sp) (bs2 : List Blk) (X2 : HP), s = ((j : Int), ()) ∧ bs2[j]? = some B ∧ RefC Q n P l2 bs2 X2 ∧ B.cls = (c : Int) ∧ (∀ D ∈ bs2, D.holder = some p → D.cls = (c : Int) → False) ∧
        TakeR n l bs p c l2 (upd bs2 B.base fun D => { D with holder := some p }) (some B.base) ∧ Over (X2 + r) m') ?_ ?_
      · refine hIf_dec (fun h3 => ?_) (fun h3 => ?_)
        · have hne : ∀ D ∈ bsi, ¬ Elig c D := fun D hD => by
            obtain ⟨j, hj⟩ := List.getElem?_of_mem hD
            rcases hbest with ⟨_, h4⟩ | ⟨k, _, h4, _⟩
            · exact h4 j D (by have := (List.getElem?_eq_some_iff.1 hj).1; omega) hj
            · omega
          refine hCall_ret (rpages_does hc) ⟨_, rfl, hCall_ret (rwords_does hc) ⟨_, rfl, hCall_ret (rcells_does hc) ⟨_, rfl, ?_⟩⟩⟩
          refine hCall_of (rcmake_does hCZ (pagesN c : Nat) (by omega) (cls := (c : Int)) (wd := wordsN c) (cells := cellsN c) (by omega) (fun h1 a => ⟨?_, ?_, ?_⟩)) ?_
          · unfold Blk.cells; simp only; rw [if_neg (by omega), if_neg (by omega)]; rfl
          · unfold Blk.rw_ Blk.words; simp only; rw [if_neg (by omega), if_neg (by omega)]; rfl
          · exact ⟨.inr (.inr ⟨by simp only; omega, by simp only; omega, by simp⟩), by simp only; omega, fun i _ => by unfold Blk.bit; simp, fun q hq => by cases hq⟩
          rintro e m2 (⟨h4, _⟩ | ⟨_, h4, rfl, ho2⟩ | ⟨a, X', _, h4, hCn, rfl, ho2⟩)
          · omega
          · rw [Int.toNat_natCast] at h4
            refine ⟨_, ho2, _, _, rfl, hIf_neT (by omega) ⟨l, bsi, none, Z, .inr ⟨hfull, .inr (.inl ⟨by rw [← hbe]; exact hne, h4, rfl, hbe, rfl⟩)⟩, hCZ, .inl ⟨rfl, ret.mk (Over.of _ _)⟩⟩⟩
          · rw [Int.toNat_natCast] at h4 hCn
            refine ⟨_, ho2, _, _, rfl, hIf_neF rfl ?_⟩
            obtain ⟨N, hN⟩ : ∃ N : Blk, N = ⟨a, pagesN c, (c : Int), 0#64, none⟩ := ⟨_, rfl⟩
            rw [← hN] at hCn
            have hupd : upd (bsi ++ [N]) N.base (fun D => { D with holder := some p }) = bsi ++ [⟨a, pagesN c, (c : Int), 0#64, some p⟩] := by
              have := upd_split (b1 := bsi) (b2 := []) (B := N) (f := fun D => { D with holder := some p }) (nodup_split hCn.ok.nod)
              rw [this, hN]
            refine ⟨bsi.length, N, _, bsi ++ [N], X', rfl, by rw [List.getElem?_append_right (Nat.le_refl _)]; simp, hCn, by rw [hN], fun D hD d1 d2 => ?_, ?_, Over.of _ _⟩
            · rcases List.mem_append.1 hD with hD | hD
              · exact hno D hD d1 d2
              · rw [List.mem_singleton] at hD; subst hD; rw [hN] at d1; cases d1
            · rw [hupd]
              exact .inr ⟨hfull, .inr (.inr ⟨by rw [← hbe]; exact hne, a, h4, rfl, by rw [← hbe], by rw [hN]⟩)⟩
        · rcases hbest with ⟨h4, _⟩ | ⟨k, B, rfl, h4, h5, h6, h7⟩
          · omega
          refine ⟨k, B, l, bsi, Z, rfl, h5, hCZ, h6.1, hno, .inr ⟨hfull, .inl ⟨B, ⟨by rw [← hbe]; exact List.mem_of_getElem? h5, h6, fun D hD hd => ?_⟩, rfl, by rw [← hbe], rfl⟩⟩, Over.of _ _⟩
          rw [← hbe] at hD
          obtain ⟨j, hj⟩ := List.getElem?_of_mem hD
          exact h7 j D (by have := (List.getElem?_eq_some_iff.1 hj).1; omega) hj hd
      · rintro st m' ⟨j, B, l2, bs2, X2, rfl, hj, hC2, hcls, hno2, hT, g3, rfl⟩
        refine hAll_of fun _ => ?_
        dsimp only
        refine j22_does hC2 hj hp hc hcls hno2 fun X3 m3 hC3 ho3 => ?_
        refine ⟨l2, _, _, X3, hT, hC3, .inr ⟨j, { B with holder := some p }, ?_, rfl, ret.mk ho3⟩⟩
        unfold upd; rw [List.getElem?_map, hj]; simp
end
end Go.Proofs.YtolfcdjbchdkgaaDoor
/- The document's cells: Alloc, drop, Free, Flush. Own work. -/
namespace Go.Proofs.YtolfcdjbchdkgaaDoor
open Go Go.Hp
set_option maxRecDepth 100000
attribute [local irreducible] hLoad hStore hNew hInt hQuo hRem hShl hShr hIf hNil hIdx hCut hElem hByte hAppend hMake hCall hYield hGet hPut hDel hNewMap hLoop hLet hAll hRange hRec hEq hCmp bitv W Does HYield

theorem bitsL_set {P : Nat} {B : Blk} (hB : BOk P B) {k : Nat} (hk : k < B.cells) {u : BitVec 64} {v : Bool} (h : ∀ i, i < 64 → u.getLsbD i = if i = k then v else B.bit i) : (bitsL B).set k v = bitsL { B with used := u } := by
  have hle := Blk.cells_le hB
  have hc : Blk.cells { B with used := u } = B.cells := rfl
  apply List.ext_getElem?
  intro i
  rw [List.getElem?_set, bitsL_len]
  by_cases hi : i < B.cells
  · rw [bitsL_get (B := { B with used := u }) (by rw [hc]; exact hi)]
    have h2 : Blk.bit { B with used := u } i = if i = k then v else B.bit i := h i (by omega)
    rw [h2]
    by_cases e : k = i
    · subst e; rw [if_pos rfl, if_pos hk, if_pos rfl]
    · rw [if_neg e, if_neg (Ne.symm e), bitsL_get hi]
  · rw [if_neg (by omega), List.getElem?_eq_none (by rw [bitsL_len]; omega), List.getElem?_eq_none (by rw [bitsL_len, hc]; omega)]

section
variable {Q : QL} {ub : Nat → Nat} {n P : Nat} {l : List Sp} {bs : List Blk} {X : HP}

theorem j15_does (h : RefC Q n P l bs X) {i k : Nat} {B : Blk} (hB : bs[i]? = some B) (hc : B.cls ≠ -2) (hF : IsFree B k) {r g : HP} {R : Ending → HP → Prop}
    (hR : ∀ X' m', RefC Q n P l (upd bs B.base fun D => { D with used := setb B.used k }) X' → Over (X' + r) m' → R (.returned (.tuple #[.int .i64 (B.at_ k : Nat), .int .i64 0])) m') :
    F55_j15 (some ⟨Q.c, 0, none⟩) 0 (i : Int) R (X + r + g) := by
  obtain ⟨ub, XT, s, HB, G, rfl⟩ := h
  have hlen := G.ok.len
  have hnle := G.nle
  have hi := (List.getElem?_eq_some_iff.1 hB).1
  have hBm := List.mem_of_getElem? hB
  have hbk := G.ok.bok B hBm
  have hcl := Blk.cells_le hbk
  have hpl := G.ok.pages_le hBm
  have hkc := hF.1
  have hroom := Blk.room hbk
  have hm := Nat.mul_le_mul_right B.words (show k ≤ B.cells by omega)
  have hrw : B.rw_ = B.words := by unfold Blk.rw_; rw [if_neg hc]
  obtain ⟨b, cap, cc, R2, rfl, rfl, hcc, hsz, hsum, _, hset⟩ := refc_at G hB
  obtain ⟨hO, hS⟩ := hset (setb B.used k)
  have e0 : 0 + (i : Int).toNat * 5 = i * 5 := by omega
  unfold F55_j15 refCX
  rw [hsum]
  haveI hub : Has (ub B.base) (pt (ub B.base) (uO B) + R2) (uO B) R2 := ⟨rfl⟩
  haveI hub2 : Has (ub B.base) (pt (ub B.base) (uO B) + R2) (.cells (rows boolC (bitsL B)) 4 (0, 0)) R2 := ⟨rfl⟩
  refine hIf_neF rfl (hNil_some (hLoad_add (hLoad_slice (by rfl) ?_)))
  dsimp only
  refine hIdx_of (by omega) (by omega) ?_
  rw [e0]
  refine hLoad_int (hcc 0 (by omega)) ?_
  refine hLoad_add (hLoad_int (hcc 1 (by omega)) ?_)
  refine hLoad_add (hLoad_int (hcc 2 (by omega)) ?_)
  refine hLoad_add (hLoad_slice (hcc 3 (by omega)) ?_)
  refine hLoad_add (hLoad_int (hcc 4 (by omega)) ?_)
  dsimp only
  refine hCall_of (rfreecell_does hbk _ _ _ _) ?_
  rintro e m2 (⟨hfl, _⟩ | ⟨k', hk', rfl, ho2⟩)
  · have := hfl k hF.1; rw [hF.2.1] at this; cases this
  obtain rfl := hk'.uniq hF
  refine ⟨_, ho2, _, rfl, hNil_some (hLoad_add (hLoad_slice (by rfl) ?_))⟩
  dsimp only
  refine hIdx_of (by omega) (by omega) ?_
  rw [e0]
  refine hLoad_add (hLoad_slice (hcc 3 (by omega)) ?_)
  dsimp only
  refine hIdx_of (by omega) (by omega) ?_
  have hbl := bitsL_len B
  have hsz2 := rowsB_size (bitsL B)
  refine hStore_at (by omega) ?_
  rw [rowsB_set (i := k') (by omega) (bitsL_get hkc), bitsL_set hbk hkc (fun j hj => setb_get (u := B.used) (by omega))]
  refine hNil_some (hLoad_add (hLoad_slice (by rfl) ?_))
  dsimp only
  refine hIdx_of (by omega) (by omega) ?_
  rw [e0]
  refine hLoad_int (hcc 0 (by omega)) (hInt_i64 (by omega) (by omega) (hNil_some (hLoad_add (hLoad_slice (by rfl) ?_))))
  dsimp only
  refine hIdx_of (by omega) (by omega) ?_
  rw [e0]
  refine hLoad_add (hLoad_int (hcc 2 (by omega)) ?_)
  rw [hrw]
  have hkw : ((k' : Nat) : Int) * (B.words : Nat) = ((k' * B.words : Nat) : Int) := by push_cast; rfl
  rw [hkw]
  refine hInt_i64 (by omega) (by omega) (hInt_i64 (by omega) (by omega) ?_)
  have hat : (B.base : Int) * 64 + ((k' * B.words : Nat) : Int) = (B.at_ k' : Nat) := by unfold Blk.at_; push_cast; rfl
  rw [hat]
  have hlu : (upd bs B.base fun D => { D with used := setb B.used k' }).length = bs.length := by unfold upd; simp
  refine hR (refCX Q ub P (upd bs B.base fun D => { D with used := setb B.used k' }) XT ⟨some ⟨b, 0, none⟩, bs.length, cap⟩ (pt b (.cells cc 118 (0, 0)))) _ ⟨ub, XT, _, _, ⟨G.ok.used hBm (setb_low hbk hkc), hnle, G.ple, G.tab, hO⟩, rfl⟩ ?_
  unfold refCX
  rw [hS]
  unfold uO
  exact Over.of _ _

theorem rcalloc_does (h : RefC Q n P l bs X) (hl : Live bs) (p w : Int) {m r : HP} [hs : Sub X m r] :
    Does Tryd.prog 55 #[.pointer (some ⟨Q.c, 0, none⟩), .int .i64 p, .int .i64 w] m fun e m' =>
      ∃ l' bs' v x X', AllocR n P l bs p w bs' v x ∧ RefC Q n P l' bs' X' ∧ ret (.tuple #[.int .i64 v, .int .i64 x]) (X' + r) e m' := by
  have hok := h.ok
  have hnle := h.nle
  have hple := h.ple
  rw [hs.eq]
  refine F55_fn ?_
  unfold F55
  refine hIf_dec (fun h1 => ⟨l, bs, 0, 1, X, .inl ⟨.inl h1, rfl, rfl, rfl⟩, h, ret.mk (Over.refl _)⟩) (fun h1 => ?_)
  obtain ⟨r', hhas⟩ : ∃ r', ∃ s : Sl, Has Q.c X (.cells #[.pointer (some ⟨Q.T.t, 0, none⟩), .slice s.a s.n s.cap, .int .i64 (P : Int)] 115 (0, 0)) r' := by
    obtain ⟨ub, XT, s, HB, G, rfl⟩ := h
    exact ⟨_, s, ⟨rfl⟩⟩
  obtain ⟨s, hhas⟩ := hhas
  refine hNil_some (hLoad_add (hLoad_int (x := (P : Int)) (by rfl) ?_))
  refine hIf_dec (fun h2 => ⟨l, bs, 0, 1, X, .inl ⟨.inr (.inl (by omega)), rfl, rfl, rfl⟩, h, ret.mk (Over.refl _)⟩) (fun h2 => ?_)
  refine hIf_dec (fun h3 => ⟨l, bs, 0, 1, X, .inl ⟨.inr (.inr h3), rfl, rfl, rfl⟩, h, ret.mk (Over.refl _)⟩) (fun h3 => ?_)
  have hgood : ¬ (p < 0 ∨ (P : Int) ≤ p ∨ w < 1) := by omega
  refine hIf_dec (fun h4 => ⟨l, bs, 0, 2, X, .inr (.inl ⟨hgood, by omega, rfl, rfl, rfl⟩), h, ret.mk (Over.refl _)⟩) (fun h4 => ?_)
  clear hhas
  obtain ⟨p, rfl⟩ := Int.eq_ofNat_of_zero_le (a := p) (by omega)
  refine hCall_of (rof_does w (by omega)) ?_
  rintro e m' (⟨h5, rfl, ho⟩ | ⟨c, h6, hof, rfl, ho⟩)
  · refine ⟨_, ho, _, _, rfl, hLet_of (fun s m' => ∃ (e i : Int) (Z : HP), s = (e, i, ()) ∧ Over (Z + r) m' ∧ ((e = 3 ∧ Nowhere (UL n l) ((w.toNat + 63) / 64) ∧ Z = X) ∨
      (e = 0 ∧ i = (bs.length : Nat) ∧ ∃ a, First (UL n l) ((w.toNat + 63) / 64) a ∧ RefC Q n P (insS ⟨a, (w.toNat + 63) / 64, 0⟩ l) (bs ++ [⟨a, (w.toNat + 63) / 64, -1, 0#64, none⟩]) Z))) ?_ ?_⟩
    · refine hIf_neT (by omega) (hInt_i64 (by omega) (by omega) (hInt_i64 (by omega) (by omega) (hQuo_pos (by omega) (by omega) (by omega) ?_)))
      have ew : (w + 64 - 1) / 64 = (((w.toNat + 63) / 64 : Nat) : Int) := by omega
      rw [ew]
      refine hInt_i64 (by omega) (by omega) ?_
      rw [show (((w.toNat + 63) / 64 : Nat) : Int) * 64 = (((w.toNat + 63) / 64 * 64 : Nat) : Int) by push_cast; rfl]
      refine hCall_of (rcmake_does h (((w.toNat + 63) / 64 : Nat) : Int) (by omega) (cls := -1) (wd := (w.toNat + 63) / 64 * 64) (cells := 1) (by omega) (fun h1 a => ⟨rfl, by rw [Int.toNat_natCast]; rfl, ?_⟩)) ?_
      · exact ⟨.inr (.inl rfl), by simp only; omega, fun i _ => by unfold Blk.bit; simp, fun q hq => by cases hq⟩
      rintro e m2 (⟨h7, _⟩ | ⟨_, h7, rfl, ho2⟩ | ⟨a, X', _, h7, hC, rfl, ho2⟩)
      · omega
      · rw [Int.toNat_natCast] at h7
        exact ⟨_, ho2, _, _, rfl, 3, 0, X, rfl, Over.of _ _, .inl ⟨rfl, h7, rfl⟩⟩
      · rw [Int.toNat_natCast] at h7 hC
        exact ⟨_, ho2, _, _, rfl, 0, _, X', rfl, Over.of _ _, .inr ⟨rfl, rfl, a, h7, hC⟩⟩
    · rintro st m' ⟨e, i, Z, rfl, ⟨g, rfl⟩, (⟨rfl, h7, rfl⟩ | ⟨rfl, rfl, a, h7, hC⟩)⟩
      · refine hAll_of fun _ => ?_
        unfold F55_j15
        exact hIf_neT (by dsimp only; omega) ⟨l, bs, 0, 3, _, .inr (.inr (.inl ⟨hgood, by omega, h5, h7, rfl, rfl, rfl⟩)), h, ret.mk (Over.of _ _)⟩
      · refine hAll_of fun _ => ?_
        dsimp only
        obtain ⟨N, hN⟩ : ∃ N : Blk, N = ⟨a, (w.toNat + 63) / 64, -1, 0#64, none⟩ := ⟨_, rfl⟩
        rw [← hN] at hC
        have hupd : upd (bs ++ [N]) N.base (fun D => { D with used := setb N.used 0 }) = bs ++ [⟨a, (w.toNat + 63) / 64, -1, 1#64, none⟩] := by
          have := upd_split (b1 := bs) (b2 := []) (B := N) (f := fun D => { D with used := setb N.used 0 }) (nodup_split hC.ok.nod)
          rw [this, hN]
          have : setb 0#64 0 = 1#64 := by decide
          simp only [this]
        refine j15_does hC (i := bs.length) (k := 0) (B := N) (by rw [List.getElem?_append_right (Nat.le_refl _)]; simp) (by rw [hN]; simp) ⟨by rw [hN]; unfold Blk.cells; simp, by rw [hN]; unfold Blk.bit; simp, fun i hi => by omega⟩ fun X2 m2 hC2 ho2 => ?_
        rw [hupd] at hC2
        refine ⟨_, _, (a * 64 : Nat), 0, X2, .inr (.inr (.inr (.inl ⟨hgood, by omega, h5, a, h7, rfl, rfl, rfl⟩))), hC2, ret.eq ?_ ho2⟩
        rw [hN]; unfold Blk.at_; simp
  · refine ⟨_, ho, _, _, rfl, hLet_of (fun s m' => ∃ (e i : Int) (l1 : List Sp) (bs1 : List Blk) (o : Option Nat) (Z : HP), s = (e, i, ()) ∧ TakeR n l bs p c l1 bs1 o ∧ RefC Q n P l1 bs1 Z ∧ Over (Z + r) m' ∧ ((e = 3 ∧ o = none) ∨ ∃ (j : Nat) (B : Blk), e = 0 ∧ i = (j : Int) ∧ bs1[j]? = some B ∧ o = some B.base)) ?_ ?_⟩
    · refine hIf_neF rfl (hCall_of (rcpick_does h (p := p) (by omega) hof.1) ?_)
      rintro e m2 ⟨l1, bs1, o, X1, hT, hC, (⟨h7, rfl, ho2⟩ | ⟨j, B, hj, h7, rfl, ho2⟩)⟩
      · exact ⟨_, ho2, _, _, rfl, 3, 0, l1, bs1, o, X1, rfl, hT, hC, Over.of _ _, .inl ⟨rfl, h7⟩⟩
      · exact ⟨_, ho2, _, _, rfl, 0, _, l1, bs1, o, X1, rfl, hT, hC, Over.of _ _, .inr ⟨j, B, rfl, rfl, hj, h7⟩⟩
    · rintro st m' ⟨e, i, l1, bs1, o, Z, rfl, hT, hC, ⟨g, rfl⟩, (⟨rfl, rfl⟩ | ⟨j, B, rfl, rfl, hj, rfl⟩)⟩
      · refine hAll_of fun _ => ?_
        unfold F55_j15
        exact hIf_neT (by dsimp only; omega) ⟨l1, bs1, 0, 3, _, .inr (.inr (.inr (.inr ⟨hgood, h6, c, l1, bs1, none, hof, by simpa using hT, .inl ⟨rfl, rfl, rfl, rfl⟩⟩))), hC, ret.mk (Over.of _ _)⟩
      · refine hAll_of fun _ => ?_
        dsimp only
        obtain ⟨B', hB', e1, e2, e3, e4⟩ := hT.block hof.1
        obtain rfl := hC.ok.base_inj hB' (List.mem_of_getElem? hj) e1
        have hF := isFree_tz (hC.ok.bok B' hB') e4
        refine j15_does hC hj (by omega) hF fun X2 m2 hC2 ho2 => ?_
        exact ⟨l1, _, (B'.at_ (tz (~~~B'.used)) : Nat), 0, X2, .inr (.inr (.inr (.inr ⟨hgood, h6, c, l1, bs1, some B'.base, hof, by simpa using hT, .inr ⟨B', _, hB', rfl, hF, rfl, rfl, rfl⟩⟩))), hC2, ret.mk ho2⟩

/-! ### drop -/
theorem inner7_does {B : Blk} (hB : BOk P B) {list : Sl} {b17 : Nat} {ubB : Nat} {row : Value → Array Value} {init : Bool} {k8 : (Sl × Unit) → HP → Prop} {R : Ending → HP → Prop} {c_1 : Option Addr} {m r1 r2 : HP} {c : Array Value}
    (hrow : c[3]? = some (.slice (some ⟨ubB, 0, none⟩) B.cells B.cells)) [h1 : Has b17 m (.cells c 118 (0, 0)) r1] [h2 : Has ubB m (uO B) r2]
    (hk : ∀ again, F77_l7 c_1 list b17 k8 (init || decide (∃ k, k < B.cells ∧ B.bit k = true)) (B.cells : Int) again R m) :
    hLoop (α := Bool × Int × Unit) (init, 0, ()) (fun x_19 again_20 => hAll fun _ => F77_l7 c_1 list b17 k8 x_19.1 x_19.2.1 again_20 R) m := by
  haveI : Has ubB m (.cells (rows boolC (bitsL B)) 4 (0, 0)) r2 := h2
  have hle := Blk.cells_le hB
  refine hLoop_of (fun d x m' => ∃ k : Nat, k ≤ B.cells ∧ d = B.cells - k ∧ x = (init || decide (∃ i, i < k ∧ B.bit i = true), (k : Int), ()) ∧ m' = m) ⟨_, 0, by omega, rfl, by simp, rfl⟩ ?_
  rintro d x m' ⟨k, hk1, rfl, rfl, rfl⟩
  refine hAll_of fun _ => ?_
  dsimp only
  rcases Nat.lt_or_ge k B.cells with hkc | hkc
  · unfold F77_l7
    refine hLoad_slice hrow ?_
    dsimp only
    have key : (init || decide (∃ i, i < k + 1 ∧ B.bit i = true)) = ((init || decide (∃ i, i < k ∧ B.bit i = true)) || B.bit k) := by
      rw [Bool.eq_iff_iff]
      simp only [Bool.or_eq_true, decide_eq_true_eq, or_assoc]
      constructor
      · rintro (h | ⟨i, hi, h⟩)
        · exact .inl h
        · rcases Nat.lt_or_ge i k with h3 | h3
          · exact .inr (.inl ⟨i, h3, h⟩)
          · obtain rfl : i = k := by omega
            exact .inr (.inr h)
      · rintro (h | ⟨i, hi, h⟩ | h)
        · exact .inl h
        · exact .inr ⟨i, by omega, h⟩
        · exact .inr ⟨k, by omega, h⟩
    refine hIf_pos (by omega) (hIf_split (fun h3 => ?_) (fun h3 => ?_))
    · refine hInt_i64 (by omega) (by omega) ⟨B.cells - (k + 1), by omega, k + 1, by omega, rfl, ?_, rfl⟩
      rw [key, h3]; rfl
    · refine hLoad_slice hrow ?_
      dsimp only
      refine hIdx_of (by omega) (by omega) ?_
      refine hLoad_bool (rowsB (i := k) (by omega) (bitsL_get hkc)) (hInt_i64 (by omega) (by omega) ⟨B.cells - (k + 1), by omega, k + 1, by omega, rfl, ?_, rfl⟩)
      rw [key, h3]; rfl
  · obtain rfl : k = B.cells := by omega
    exact hk _
theorem live_any {P : Nat} {B : Blk} (hB : BOk P B) : liveB B = ((decide (0 ≤ holdI B.holder) || (B.cls == -2)) || decide (∃ k, k < B.cells ∧ B.bit k = true)) := by
  have h1 : (B.used != 0#64) = decide (∃ k, k < B.cells ∧ B.bit k = true) := by
    rw [Bool.eq_iff_iff, bne_iff_ne, decide_eq_true_eq]
    constructor
    · intro h
      apply Classical.byContradiction
      intro hn
      apply h
      apply BitVec.eq_of_getLsbD_eq
      intro i _
      rcases Nat.lt_or_ge i B.cells with h3 | h3
      · cases e : B.bit i with
        | true => exact absurd ⟨i, h3, e⟩ hn
        | false => rw [show B.used.getLsbD i = false from e]; simp
      · rw [show B.used.getLsbD i = false from hB.low i h3]; simp
    · rintro ⟨k, _, hk⟩ e
      unfold Blk.bit at hk; rw [e] at hk; simp at hk
  have h2 : B.holder.isSome = decide (0 ≤ holdI B.holder) := by
    cases B.holder with
    | none => simp [holdI]
    | some q => simp [holdI]
  unfold liveB
  rw [h1, h2]
  cases (B.cls == -2) <;> cases decide (0 ≤ holdI B.holder) <;> simp

theorem rcdrop_does (h : RefC Q n P l bs X) {m r : HP} [hs : Sub X m r] :
    Does Tryd.prog 77 #[.pointer (some ⟨Q.c, 0, none⟩)] m fun e m' => ∃ l' X', RefC Q n P l' (bs.filter liveB) X' ∧ ret (.tuple #[]) (X' + r) e m' := by
  obtain ⟨ub, XT0, s, HB, G, rfl⟩ := h
  have hnle := G.nle
  have hlen := G.ok.len
  have hsn := G.own.len
  rw [hs.eq]
  refine F77_fn ?_
  unfold F77
  refine hLoop_of (fun d x m' => ∃ (i : Nat) (s' : Sl) (H' : HP) (li : List Sp) (XT : HP), i ≤ bs.length ∧ d = bs.length - i ∧ x = (s', (i : Int), ()) ∧ Own 118 5 (rbC ub) ((bs.take i).filter liveB) s' H' ∧ COk n P li ((bs.take i).filter liveB ++ bs.drop i) ∧ RefAt Q.T n li XT ∧
    Over (refCX Q ub P bs XT s HB + (H' + r)) m') ?_ ?_
  · exact ⟨_, 0, ⟨none, 0, 0⟩, 0, l, XT0, by omega, rfl, rfl, Own.nil, by simpa using G.ok, G.tab, by rw [HP.zero_add]; exact Over.refl _⟩
  rintro d x m' ⟨i, s', H', li, XT, hi, rfl, rfl, hO, hk, hT, g, rfl⟩
  refine hAll_of fun _ => ?_
  unfold F77_l2 refCX
  dsimp only
  refine hNil_some (hLoad_add (hLoad_slice (by rfl) ?_))
  dsimp only
  refine hIf_dec (fun h1 => ?_) (fun h1 => ?_)
  · have hi' : i < bs.length := by omega
    have hBi : bs[i]? = some bs[i] := List.getElem?_eq_getElem hi'
    have hBm := List.getElem_mem hi'
    have hdrop : bs.drop i = bs[i] :: bs.drop (i + 1) := List.drop_eq_getElem_cons hi'
    generalize bs[i] = B at hBi hBm hdrop
    have hq : ((bs.take i).filter liveB).length ≤ 4096 := Nat.le_trans (List.length_filter_le _ _) (by rw [List.length_take]; omega)
    have hbk := G.ok.bok B hBm
    have hpl := G.ok.pages_le hBm
    have hhl := holdI_le hbk G.ple
    obtain ⟨b, cap, c, R2, rfl, rfl, hcc, _, hsum, _, _⟩ := refc_at G hBi
    have e0 : 0 + (i : Int).toNat * 5 = i * 5 := by omega
    have htf := take_filter (f := liveB) hBi
    rw [hdrop] at hk
    rw [hsum]
    haveI hub : Has (ub B.base) (pt (ub B.base) (uO B) + R2) (uO B) R2 := ⟨rfl⟩
    refine hLet_of (fun st m' => ∃ (s2 : Sl) (H2 : HP) (l2 : List Sp) (XT2 : HP), st = (s2, ()) ∧ Own 118 5 (rbC ub) ((bs.take (i + 1)).filter liveB) s2 H2 ∧ COk n P l2 ((bs.take (i + 1)).filter liveB ++ bs.drop (i + 1)) ∧ RefAt Q.T n l2 XT2 ∧
      Over (pt Q.c (.cells #[.pointer (some ⟨Q.T.t, 0, none⟩), .slice (some ⟨b, 0, none⟩) bs.length cap, .int .i64 (P : Int)] 115 (0, 0)) + (XT2 + (pt b (.cells c 118 (0, 0)) + (pt (ub B.base) (uO B) + R2))) + (H2 + r)) m') ?_ ?_
    · refine hNil_some (hLoad_add (hLoad_slice (by rfl) ?_))
      dsimp only
      refine hIdx_of (by omega) (by omega) ?_
      rw [e0]
      refine hLoad_int (hcc 0 (by omega)) ?_
      refine hLoad_add (hLoad_int (hcc 1 (by omega)) ?_)
      refine hLoad_add (hLoad_int (hcc 2 (by omega)) ?_)
      refine hLoad_add (hLoad_slice (hcc 3 (by omega)) ?_)
      refine hLoad_add (hLoad_int (hcc 4 (by omega)) ?_)
      refine hNew_of fun b17 => hStore5_0 (hStore5_1 (hStore5_2 (hStore5_3 (hStore5_4 ?_))))
      dsimp only
      obtain ⟨J, hJ⟩ : ∃ J : Sl × Unit → HP → Prop, J = fun st m' => ∃ (s2 : Sl) (H2 : HP) (l2 : List Sp) (XT2 : HP), st = (s2, ()) ∧ Own 118 5 (rbC ub) ((bs.take (i + 1)).filter liveB) s2 H2 ∧ COk n P l2 ((bs.take (i + 1)).filter liveB ++ bs.drop (i + 1)) ∧ RefAt Q.T n l2 XT2 ∧
        Over (pt Q.c (.cells #[.pointer (some ⟨Q.T.t, 0, none⟩), .slice (some ⟨b, 0, none⟩) bs.length cap, .int .i64 (P : Int)] 115 (0, 0)) + (XT2 + (pt b (.cells c 118 (0, 0)) + (pt (ub B.base) (uO B) + R2))) + (H2 + r)) m' := ⟨_, rfl⟩
      rw [← hJ]
      have fin : ∀ (R : Ending → HP → Prop) again, F77_l7 (some ⟨Q.c, 0, none⟩) s' b17 J (liveB B) (B.cells : Int) again R (pt b17 (.cells #[.int .i64 (B.base : Int), .int .i64 B.cls, .int .i64 (B.rw_ : Nat), .slice (some ⟨ub B.base, 0, none⟩) B.cells B.cells, .int .i64 (holdI B.holder)] 118 (0, 0)) +
          (pt Q.c (.cells #[.pointer (some ⟨Q.T.t, 0, none⟩), .slice (some ⟨b, 0, none⟩) bs.length cap, .int .i64 (P : Int)] 115 (0, 0)) + (XT + (pt b (.cells c 118 (0, 0)) + (pt (ub B.base) (uO B) + R2))) + (H' + r) + g)) := by
        intro R again
        unfold F77_l7
        refine hLoad_slice (by rfl) ?_
        dsimp only
        refine hIf_neg (by omega) (hIf_split (fun hlv => ?_) (fun hlv => ?_))
        · refine hLoad_int (by rfl) (hLoad_int (by rfl) (hLoad_int (by rfl) (hLoad_slice (by rfl) (hLoad_int (by rfl) (hNew_of fun b34 => ?_)))))
          dsimp only
          refine hAppend_Own hO B (rbC_len ub) (Row.of (c := #[.int .i64 (B.base : Int), .int .i64 B.cls, .int .i64 (B.rw_ : Nat), .slice (some ⟨ub B.base, 0, none⟩) B.cells B.cells, .int .i64 (holdI B.holder)]) (fun j v hj => by rw [Nat.zero_add]; simpa [rbC] using hj)) rfl rfl (by omega) (by omega) (fun s2 H2 r3 hO2 hr2 => ?_)
          obtain ⟨g2, rfl⟩ := hr2
          rw [hJ]
          rw [hlv] at htf
          refine ⟨s2, H2, li, XT, rfl, by rw [htf]; exact hO2, ?_, hT, Over.of _ _⟩
          rw [htf, if_pos rfl, List.append_assoc]; exact hk
        · refine hNil_some (hLoad_ptr (by rfl) (hLoad_int (by rfl) ?_))
          refine hCall_of (rfree5_does hT _) ?_
          have hsp := hk.sp (B := B) (by simp)
          rintro e m2 (⟨h3, _⟩ | ⟨t, XT2, h3, h4, hT2, rfl, ho2⟩)
          · exact absurd rfl (h3 _ hsp)
          have ht : t.base = B.base := by omega
          rw [ht] at hT2
          rw [hJ]
          rw [hlv] at htf
          simp only [Bool.false_eq_true, if_false, List.append_nil] at htf
          refine ⟨_, ho2, _, rfl, s', H', delS B.base li, XT2, rfl, by rw [htf]; exact hO, ?_, hT2, Over.of _ _⟩
          rw [htf]; exact hk.del
      have hla := live_any hbk
      refine hLoad_int (by rfl) (hIf_dec (fun h2 => ?_) (fun h2 => ?_))
      · refine inner7_does hbk (row := fun _ => #[]) (c := #[.int .i64 (B.base : Int), .int .i64 B.cls, .int .i64 (B.rw_ : Nat), .slice (some ⟨ub B.base, 0, none⟩) B.cells B.cells, .int .i64 (holdI B.holder)]) (by rfl) fun again => ?_
        have e1 : (true || decide (∃ k, k < B.cells ∧ B.bit k = true)) = liveB B := by rw [hla]; simp only [h2, decide_true, Bool.true_or]
        rw [e1]; exact fin _ _
      · refine hLoad_int (by rfl) ?_
        rw [show F77_l7_2 = F77_l7 from rfl]
        refine inner7_does hbk (row := fun _ => #[]) (c := #[.int .i64 (B.base : Int), .int .i64 B.cls, .int .i64 (B.rw_ : Nat), .slice (some ⟨ub B.base, 0, none⟩) B.cells B.cells, .int .i64 (holdI B.holder)]) (by rfl) fun again => ?_
        have e1 : ((B.cls == -2) || decide (∃ k, k < B.cells ∧ B.bit k = true)) = liveB B := by
          rw [hla]
          have : decide (0 ≤ holdI B.holder) = false := by simpa using h2
          rw [this, Bool.false_or]
        rw [e1]; exact fin _ _
    · rintro st m' ⟨s2, H2, l2, XT2, rfl, hO2, hk2, hT2, g2, rfl⟩
      refine hAll_of fun _ => ?_
      unfold F77_j3
      dsimp only
      refine hInt_i64 (by omega) (by omega) ⟨bs.length - (i + 1), by omega, i + 1, s2, H2, l2, XT2, by omega, rfl, rfl, hO2, hk2, hT2, Over.of _ _⟩
  · obtain rfl : i = bs.length := by omega
    rw [List.take_length] at hO hk
    rw [List.drop_length, List.append_nil] at hk
    refine hNil_some (hStore_add (hStore_at (by simp) ?_))
    simp only [List.setIfInBounds_toArray, Nat.zero_add, List.set_cons_succ, List.set_cons_zero]
    have hsub : ∃ R3, sumB (uH ub) bs = sumB (uH ub) (bs.filter liveB) + R3 := by
      clear hO hk hlen hsn G hi h1 hnle
      induction bs with
      | nil => exact ⟨0, by simp [sumB]⟩
      | cons B bs ih =>
        obtain ⟨R3, h3⟩ := ih
        simp only [List.filter_cons, sumB]
        cases liveB B with
        | true => exact ⟨R3, by simp only [if_true, sumB]; rw [h3, HP.add_assoc]⟩
        | false => exact ⟨uH ub B + R3, by simp only [Bool.false_eq_true, if_false]; rw [h3, HP.add_left_comm]⟩
    obtain ⟨R3, h3⟩ := hsub
    rw [h3]
    refine ⟨li, refCX Q ub P (bs.filter liveB) XT s' H', ⟨ub, XT, s', H', ⟨hk, hnle, G.ple, hT, hO⟩, rfl⟩, ?_⟩
    unfold refCX
    exact ret.mk (Over.of _ _)
end
end Go.Proofs.YtolfcdjbchdkgaaDoor
/- The document's cells: Free, Flush; both sides are alike. Own work. -/
namespace Go.Proofs.YtolfcdjbchdkgaaDoor
open Go Go.Hp
set_option maxRecDepth 100000
attribute [local irreducible] hLoad hStore hNew hInt hQuo hRem hShl hShr hIf hNil hIdx hCut hElem hByte hAppend hMake hCall hYield hGet hPut hDel hNewMap hLoop hLet hAll hRange hRec hEq hCmp bitv W Does HYield

section
variable {Q : QL} {ub : Nat → Nat} {n P : Nat} {l : List Sp} {bs : List Blk} {X : HP}
theorem filter_used (hk : COk n P l bs) (hl : Live bs) {B : Blk} (hB : B ∈ bs) (hc : B.cls ≠ -2) (u : BitVec 64) :
    (upd bs B.base fun D => { D with used := u }).filter liveB = if u = 0#64 ∧ B.holder = none then rem bs B.base else upd bs B.base fun D => { D with used := u } := by
  obtain ⟨b1, b2, rfl⟩ := mem_split hB
  have hnd := nodup_split hk.nod
  rw [upd_split hnd, rem_split hnd, List.filter_append, List.filter_cons, filter_live (fun D hD => hl D (by simp [hD])), filter_live (bs := b2) (fun D hD => hl D (by simp [hD]))]
  have e : liveB { B with used := u } = !decide (u = 0#64 ∧ B.holder = none) := by
    unfold liveB
    have h1 : (B.cls == -2) = false := by simpa using hc
    rw [Bool.eq_iff_iff]
    simp only [h1, Bool.false_or, Bool.or_eq_true, bne_iff_ne, Bool.not_eq_true', decide_eq_false_iff_not, Option.isSome_iff_ne_none]
    constructor
    · rintro (h | h) ⟨h2, h3⟩
      · exact h h2
      · exact h h3
    · intro h
      by_cases h2 : u = 0#64
      · exact .inr fun h3 => h ⟨h2, h3⟩
      · exact .inl h2
  rw [e]
  by_cases h : u = 0#64 ∧ B.holder = none
  · rw [if_pos h]; simp [h]
  · rw [if_neg h]; simp [h]

theorem rcfree_does (h : RefC Q n P l bs X) (hl : Live bs) (addr : Int) (ha : addr ≤ 9223372036854775807) {m r : HP} [hs : Sub X m r] :
    Does Tryd.prog 56 #[.pointer (some ⟨Q.c, 0, none⟩), .int .i64 addr] m fun e m' =>
      ∃ l' bs' x X', FreeR bs addr bs' x ∧ RefC Q n P l' bs' X' ∧ ret (.int .i64 x) (X' + r) e m' := by
  refine F56_fn ?_
  unfold F56
  refine hCall_of (rcfind_does h addr ha) ?_
  rintro e m' (⟨h1, rfl, ho⟩ | ⟨i, B, k, hB, ht, rfl, ho⟩)
  · exact ⟨_, ho, _, _, rfl, hIf_pos (by omega) ⟨l, bs, 4, X, .inl ⟨fun B k ht => absurd ht (h1 B k), rfl, rfl⟩, h, ret.mk (Over.refl _)⟩⟩
  · refine ⟨_, ho, _, _, rfl, hIf_neg (by omega) ?_⟩
    obtain ⟨ub, XT, s, HB, G, rfl⟩ := id h
    have hok := G.ok
    have hnle := G.nle
    have hBm := ht.mem
    have hbk := hok.bok B hBm
    have hcl := Blk.cells_le hbk
    have hpl := hok.pages_le hBm
    have hkc := hbk.bit_lt ht.bit
    have hroom := Blk.room hbk
    have hm := Nat.mul_le_mul_right B.words (show k ≤ B.cells by omega)
    have hi := (List.getElem?_eq_some_iff.1 hB).1
    have hlen := hok.len
    have hc2 : B.cls ≠ -2 := fun e => by unfold Blk.cells at hkc; rw [if_pos e] at hkc; omega
    have hrw : B.rw_ = B.words := by unfold Blk.rw_; rw [if_neg hc2]
    obtain ⟨b, cap, cc, R2, rfl, rfl, hcc, hsz, hsum, _, hset⟩ := refc_at G hB
    obtain ⟨hO, hS⟩ := hset (clrb B.used k)
    have e0 : 0 + (i : Int).toNat * 5 = i * 5 := by omega
    have hkw : ((k : Nat) : Int) * (B.words : Nat) = ((k * B.words : Nat) : Int) := by push_cast; rfl
    have hat : (B.base : Int) * 64 + ((k * B.words : Nat) : Int) = (B.at_ k : Nat) := by unfold Blk.at_; push_cast; rfl
    have hfold : ∀ {Y : HP}, Over (refCX Q ub P bs XT ⟨some ⟨b, 0, none⟩, bs.length, cap⟩ (pt b (.cells cc 118 (0, 0))) + r) Y → Over (refCX Q ub P bs XT ⟨some ⟨b, 0, none⟩, bs.length, cap⟩ (pt b (.cells cc 118 (0, 0))) + r) Y := id
    obtain ⟨Z, hZ⟩ : ∃ Z, Z = refCX Q ub P bs XT ⟨some ⟨b, 0, none⟩, bs.length, cap⟩ (pt b (.cells cc 118 (0, 0))) := ⟨_, rfl⟩
    have hCZ : RefC Q n P l bs Z := by rw [hZ]; exact h
    suffices hmain : ∀ {R : Ending → HP → Prop}, (∀ x Z' l' bs' m', FreeR bs addr bs' x → RefC Q n P l' bs' Z' → Over (Z' + r) m' → R (.returned (.int .i64 x)) m') →
        (hNil (some ⟨Q.c, 0, none⟩) fun a_6 => hLoad .slice (a_6.add 1) fun (v_7 : Sl) => hIdx v_7.a v_7.n (i : Int) 5 fun a_8 => hLoad (.int .i64) a_8 fun (v_9 : Int) => hInt .i64 (v_9 * 64) fun v_10 =>
          hNil (some ⟨Q.c, 0, none⟩) fun a_11 => hLoad .slice (a_11.add 1) fun (v_12 : Sl) => hIdx v_12.a v_12.n (i : Int) 5 fun a_13 => hLoad (.int .i64) (a_13.add 2) fun (v_14 : Int) => hInt .i64 ((k : Int) * v_14) fun v_15 => hInt .i64 (v_10 + v_15) fun v_16 =>
          hIf (v_16 != addr) (R (.returned (.int .i64 4)))
            (hNil (some ⟨Q.c, 0, none⟩) fun a_17 => hLoad .slice (a_17.add 1) fun (v_18 : Sl) => hIdx v_18.a v_18.n (i : Int) 5 fun a_19 => hLoad .slice (a_19.add 3) fun (v_20 : Sl) => hIdx v_20.a v_20.n (k : Int) 1 fun a_21 =>
              hStore (.bool false) a_21 (hCall Tryd.prog 77 #[(.pointer (some ⟨Q.c, 0, none⟩))] (fun ch => R (.panicked ch)) fun _ => R (.returned (.int .i64 0))))) (Z + r) by
      rw [← hZ]
      exact hmain (R := fun e m' => ∃ l' bs' x X', FreeR bs addr bs' x ∧ RefC Q n P l' bs' X' ∧ ret (.int .i64 x) (X' + r) e m') fun x Z' l' bs' m' h1 h2 h3 => ⟨l', bs', x, Z', h1, h2, ret.mk h3⟩
    intro R hR
    have hstay : ∀ m', Over (Z + r) m' → addr ≠ (B.at_ k : Nat) → R (.returned (.int .i64 4)) m' := fun m' h1 h2 => hR 4 Z l bs m' (.inl ⟨fun D j hd e => by
      obtain ⟨rfl, rfl⟩ := hd.uniq hok ht
      exact h2 e, rfl, rfl⟩) hCZ h1
    have hZo := hZ
    unfold refCX at hZo
    rw [hsum] at hZo
    have hst2 : ∀ m', Over (pt Q.c (.cells #[.pointer (some ⟨Q.T.t, 0, none⟩), .slice (some ⟨b, 0, none⟩) bs.length cap, .int .i64 (P : Int)] 115 (0, 0)) + (XT + (pt b (.cells cc 118 (0, 0)) + (pt (ub B.base) (uO B) + R2))) + r) m' → addr ≠ (B.at_ k : Nat) → R (.returned (.int .i64 4)) m' := by
      rw [← hZo]; exact hstay
    rw [hZo]
    haveI hub2 : Has (ub B.base) (pt (ub B.base) (uO B) + R2) (.cells (rows boolC (bitsL B)) 4 (0, 0)) R2 := ⟨rfl⟩
    refine hNil_some (hLoad_add (hLoad_slice (by rfl) ?_))
    dsimp only
    refine hIdx_of (by omega) (by omega) ?_
    rw [e0]
    refine hLoad_int (hcc 0 (by omega)) (hInt_i64 (by omega) (by omega) (hNil_some (hLoad_add (hLoad_slice (by rfl) ?_))))
    dsimp only
    refine hIdx_of (by omega) (by omega) ?_
    rw [e0]
    refine hLoad_add (hLoad_int (hcc 2 (by omega)) ?_)
    rw [hrw, hkw]
    refine hInt_i64 (by omega) (by omega) (hInt_i64 (by omega) (by omega) ?_)
    rw [hat]
    refine hIf_ne (fun h1 => hst2 _ (Over.of _ _) (Ne.symm h1)) (fun h1 => ?_)
    refine hNil_some (hLoad_add (hLoad_slice (by rfl) ?_))
    dsimp only
    refine hIdx_of (by omega) (by omega) ?_
    rw [e0]
    refine hLoad_add (hLoad_slice (hcc 3 (by omega)) ?_)
    dsimp only
    refine hIdx_of (by omega) (by omega) ?_
    have hbl := bitsL_len B
    have hsz2 := rowsB_size (bitsL B)
    refine hStore_at (by omega) ?_
    rw [rowsB_set (i := k) (by omega) (bitsL_get hkc), bitsL_set hbk hkc (fun j hj => clrb_get (u := B.used) (by omega))]
    obtain ⟨Z2, hZ2⟩ : ∃ Z2, Z2 = refCX Q ub P (upd bs B.base fun D => { D with used := clrb B.used k }) XT ⟨some ⟨b, 0, none⟩, bs.length, cap⟩ (pt b (.cells cc 118 (0, 0))) := ⟨_, rfl⟩
    have hC2 : RefC Q n P l (upd bs B.base fun D => { D with used := clrb B.used k }) Z2 := ⟨ub, XT, _, _, ⟨hok.used hBm (clrb_low hbk hkc), hnle, G.ple, G.tab, hO⟩, hZ2⟩
    have hZ2o := hZ2
    unfold refCX at hZ2o
    rw [hS] at hZ2o
    unfold uO at hZ2o
    refine hCall_of ((rcdrop_does hC2 (m := Z2 + r) (r := r)).from (by rw [hZ2o]; exact Over.of _ _)) ?_
    rintro e m2 ⟨l2, X2, hC3, rfl, ho2⟩
    refine ⟨_, ho2, ?_⟩
    have hfu := filter_used hok hl hBm hc2 (clrb B.used k)
    rw [hfu] at hC3
    refine hR 0 X2 l2 _ _ (.inr ⟨B, k, ht, h1.symm, rfl, ?_⟩) hC3 (Over.of _ _)
    by_cases h2 : clrb B.used k = 0#64 ∧ B.holder = none
    · rw [if_pos h2]; exact .inl ⟨h2.1, h2.2, rfl⟩
    · rw [if_neg h2]; exact .inr ⟨h2, rfl⟩

theorem letGo16 {P : Nat} {B : Blk} (hB : BOk P B) (p : Nat) : letGo p 16 B = if B.holder = some p then { B with holder := none } else B := by
  unfold letGo
  have : B.cls < 16 := by have := hB.cls; omega
  by_cases e : B.holder = some p
  · rw [if_pos ⟨e, this⟩, if_pos e]
  · rw [if_neg fun h => e h.1, if_neg e]
theorem uh_holder (g : Blk → Blk) : ∀ {L : List Blk}, (∀ B ∈ L, ∃ x, g B = { B with holder := x }) → sumB (uH ub) (L.map g) = sumB (uH ub) L := by
  intro L h
  rw [sumB_map]
  refine sumB_congr fun B hB => ?_
  obtain ⟨x, hx⟩ := h B hB
  rw [hx]; rfl

theorem rcflush_does (h : RefC Q n P l bs X) (hl : Live bs) (p : Int) {m r : HP} [hs : Sub X m r] :
    Does Tryd.prog 57 #[.pointer (some ⟨Q.c, 0, none⟩), .int .i64 p] m fun e m' =>
      ∃ l' bs' x X', FlushR P bs p bs' x ∧ RefC Q n P l' bs' X' ∧ ret (.int .i64 x) (X' + r) e m' := by
  have hok := h.ok
  have hple := h.ple
  rw [hs.eq]
  refine F57_fn ?_
  unfold F57
  refine hIf_dec (fun h1 => ⟨l, bs, 1, X, .inl ⟨.inl h1, rfl, rfl⟩, h, ret.mk (Over.refl _)⟩) (fun h1 => ?_)
  obtain ⟨ub, XT, s, HB, G, rfl⟩ := id h
  have hnle := G.nle
  have hlen := hok.len
  unfold refCX
  refine hNil_some (hLoad_add (hLoad_int (x := (P : Int)) (by rfl) ?_))
  refine hIf_dec (fun h2 => ⟨l, bs, 1, _, .inl ⟨.inr (by omega), rfl, rfl⟩, h, by unfold refCX; exact ret.mk (Over.refl _)⟩) (fun h2 => ?_)
  obtain ⟨p, rfl⟩ := Int.eq_ofNat_of_zero_le (a := p) (by omega)
  obtain ⟨gf, hgf⟩ : ∃ gf : Blk → Blk, gf = fun B => if B.holder = some p then { B with holder := none } else B := ⟨_, rfl⟩
  have hgx : ∀ B, ∃ x, gf B = { B with holder := x } := fun B => by
    rw [hgf]; by_cases e : B.holder = some p
    · exact ⟨none, by simp only; rw [if_pos e]⟩
    · exact ⟨B.holder, by simp only; rw [if_neg e]⟩
  refine hLoop_of (fun d x m' => ∃ (i : Nat) (s' : Sl) (H' : HP), i ≤ bs.length ∧ d = bs.length - i ∧ x = ((i : Int), ()) ∧ Own 118 5 (rbC ub) ((bs.take i).map gf ++ bs.drop i) s' H' ∧
    Over (pt Q.c (.cells #[.pointer (some ⟨Q.T.t, 0, none⟩), .slice s'.a s'.n s'.cap, .int .i64 (P : Int)] 115 (0, 0)) + (XT + (H' + sumB (uH ub) bs)) + r) m') ?_ ?_
  · exact ⟨_, 0, s, HB, by omega, rfl, rfl, by simpa using G.own, Over.refl _⟩
  rintro d x m' ⟨i, s', H', hi, rfl, rfl, hO, g, rfl⟩
  have hll : ((bs.take i).map gf ++ bs.drop i).length = bs.length := by simp; omega
  have hsn := hO.len
  rw [hll] at hsn
  refine hAll_of fun _ => ?_
  unfold F57_l4
  dsimp only
  refine hNil_some (hLoad_add (hLoad_slice (by rfl) ?_))
  dsimp only
  refine hIf_dec (fun h3 => ?_) (fun h3 => ?_)
  · have hi' : i < bs.length := by omega
    have hBi : bs[i]? = some bs[i] := List.getElem?_eq_getElem hi'
    have hdrop : bs.drop i = bs[i] :: bs.drop (i + 1) := List.drop_eq_getElem_cons hi'
    have htake : bs.take (i + 1) = bs.take i ++ [bs[i]] := List.take_succ_eq_append_getElem hi'
    have hbk := hok.bok _ (List.getElem_mem hi')
    generalize bs[i] = B at hBi hdrop htake hbk
    have hhl := holdI_le hbk hple
    have hLi : ((bs.take i).map gf ++ bs.drop i)[i]? = some B := by
      rw [List.getElem?_append_right (by rw [List.length_map, List.length_take]; omega), hdrop]; simp [Nat.min_eq_left (Nat.le_of_lt hi')]
    have hnext : ((bs.take i).map gf ++ bs.drop i).set i (gf B) = (bs.take (i + 1)).map gf ++ bs.drop (i + 1) := by
      rw [List.set_append_right _ _ (by rw [List.length_map, List.length_take]; omega), hdrop, htake, List.map_append]
      simp [Nat.min_eq_left (Nat.le_of_lt hi')]
    obtain ⟨b, cap, cc, rfl, rfl, hcc, hsz, hset⟩ := own_at hO (rbC_len ub) hLi
    have e0 : 0 + (i : Int).toNat * 5 = i * 5 := by omega
    dsimp only at h3 hsn ⊢
    refine hLet_of (fun _ m' => ∃ (s2 : Sl) (H2 : HP), Own 118 5 (rbC ub) ((bs.take (i + 1)).map gf ++ bs.drop (i + 1)) s2 H2 ∧
      Over (pt Q.c (.cells #[.pointer (some ⟨Q.T.t, 0, none⟩), .slice s2.a s2.n s2.cap, .int .i64 (P : Int)] 115 (0, 0)) + (XT + (H2 + sumB (uH ub) bs)) + r) m') ?_ ?_
    · refine hNil_some (hLoad_add (hLoad_slice (by rfl) ?_))
      dsimp only
      refine hIdx_of (by omega) (by omega) ?_
      rw [e0]
      refine hLoad_add (hLoad_int (hcc 4 (by omega)) (hIf_eq (fun h4 => ?_) (fun h4 => ?_)))
      · have hh := holdI_eq.1 h4
        refine hNil_some (hLoad_add (hLoad_slice (by rfl) ?_))
        dsimp only
        refine hIdx_of (by omega) (by omega) ?_
        rw [e0]
        refine hStore_add (hStore_at (by have := hsz 4 (by omega); omega) ?_)
        have h5 := hset 4 (gf B) (.int .i64 (-1)) (by omega) (by rw [hgf]; simp only; rw [if_pos hh]; rfl)
        rw [hnext] at h5
        exact ⟨_, _, h5, Over.of _ _⟩
      · have hne : ¬ B.holder = some p := fun e => h4 (holdI_eq.2 e)
        have hgB : gf B = B := by rw [hgf]; simp only; rw [if_neg hne]
        rw [hgB] at hnext
        have hset2 : ((bs.take i).map gf ++ bs.drop i).set i B = (bs.take i).map gf ++ bs.drop i := by
          apply List.ext_getElem?
          intro j
          rw [List.getElem?_set]
          split
          · rename_i e; subst e
            rw [if_pos (by omega), hLi]
          · rfl
        rw [hset2] at hnext
        rw [← hnext]
        exact ⟨_, _, hO, Over.of _ _⟩
    · rintro st m' ⟨s2, H2, hO2, g2, rfl⟩
      refine hAll_of fun _ => ?_
      unfold F57_j5
      exact hInt_i64 (by omega) (by omega) ⟨bs.length - (i + 1), by omega, i + 1, s2, H2, by omega, rfl, rfl, hO2, Over.of _ _⟩
  · obtain rfl : i = bs.length := by omega
    rw [List.take_length, List.drop_length, List.append_nil] at hO
    have hmap : bs.map gf = bs.map (letGo p 16) := List.map_congr_left fun B hB => by rw [letGo16 (hok.bok B hB), hgf]
    have hok2 : COk n P l (bs.map gf) := by
      refine hok.map (fun B _ => by obtain ⟨x, hx⟩ := hgx B; rw [hx]) (fun B _ => by obtain ⟨x, hx⟩ := hgx B; rw [hx]) (fun B hB => ?_) (fun B hB B' hB' e1 e2 e3 => ?_)
      · have hb := hok.bok B hB
        rw [hgf]; simp only
        split
        · exact ⟨hb.cls, hb.pos, hb.low, fun q hq => by cases hq⟩
        · exact hb
      · rw [hgf] at e1 e2 e3
        simp only at e1 e2 e3
        by_cases a1 : B.holder = some p
        · rw [if_pos a1] at e1; cases e1
        · rw [if_neg a1] at e1 e2 e3
          by_cases a2 : B'.holder = some p
          · rw [if_pos a2] at e2; simp only at e2; rw [e2] at e1; cases e1
          · rw [if_neg a2] at e2 e3
            exact hok.one B hB B' hB' e1 e2 e3
    obtain ⟨Z, hZ⟩ : ∃ Z, Z = refCX Q ub P (bs.map gf) XT s' H' := ⟨_, rfl⟩
    have hCZ : RefC Q n P l (bs.map gf) Z := ⟨ub, XT, s', H', ⟨hok2, hnle, hple, G.tab, hO⟩, hZ⟩
    have hsu : sumB (uH ub) (bs.map gf) = sumB (uH ub) bs := uh_holder gf fun B _ => hgx B
    have hZo : pt Q.c (.cells #[.pointer (some ⟨Q.T.t, 0, none⟩), .slice s'.a s'.n s'.cap, .int .i64 (P : Int)] 115 (0, 0)) + (XT + (H' + sumB (uH ub) bs)) = Z := by rw [hZ]; unfold refCX; rw [hsu]
    rw [hZo]
    refine hCall_of (rcdrop_does hCZ) ?_
    rintro e m2 ⟨l2, X2, hC3, rfl, ho2⟩
    refine ⟨_, ho2, l2, _, 0, X2, .inr ⟨by omega, ?_, rfl⟩, hC3, ret.mk (Over.of _ _)⟩
    rw [hmap]; rfl

/-! ### Both are alike -/
theorem release_eqv {p : Nat} {c : Int} : release bs p c = release bs p c := rfl
theorem TakeR.uniq {p c : Nat} {l1 l2 : List Sp} {b1 b2 : List Blk} {o1 o2 : Option Nat} (hk : COk n P l bs) (h1 : TakeR n l bs p c l1 b1 o1) (h2 : TakeR n l bs p c l2 b2 o2) : b1 = b2 ∧ o1 = o2 := by
  have hkr := hk.release p (c : Int)
  rcases h1 with ⟨B, hB, a1, a2, a3, _, rfl, rfl⟩ | ⟨f1, h1⟩ <;> rcases h2 with ⟨D, hD, d1, d2, d3, _, rfl, rfl⟩ | ⟨f2, h2⟩
  · rw [hk.one B hB D hD (by rw [a1]; rfl) (by rw [a1, d1]) (by rw [a2, d2])]; exact ⟨rfl, rfl⟩
  · exact absurd (f2 B hB a1 a2) a3
  · exact absurd (f1 D hD d1 d2) d3
  · rcases h1 with ⟨B, hB, _, rfl, rfl⟩ | ⟨e1, w1, _, rfl, rfl⟩ | ⟨e1, a, w1, _, rfl, rfl⟩ <;> rcases h2 with ⟨D, hD, _, rfl, rfl⟩ | ⟨e2, w2, _, rfl, rfl⟩ | ⟨e2, a', w2, _, rfl, rfl⟩
    · have := hB.2.2 D hD.1 hD.2.1
      have := hD.2.2 B hB.1 hB.2.1
      obtain rfl := hkr.base_inj hB.1 hD.1 (by omega)
      exact ⟨rfl, rfl⟩
    · exact absurd hB.2.1 (e2 B hB.1)
    · exact absurd hB.2.1 (e2 B hB.1)
    · exact absurd hD.2.1 (e1 D hD.1)
    · exact ⟨rfl, rfl⟩
    · exact absurd w2.1 (w1 _)
    · exact absurd hD.2.1 (e1 D hD.1)
    · exact absurd w1.1 (w2 _)
    · obtain rfl := First.uniq w1 w2
      exact ⟨rfl, rfl⟩
theorem AllocR.uniq {p w : Int} {b1 b2 : List Blk} {v1 v2 e1 e2 : Int} (hk : COk n P l bs) (h1 : AllocR n P l bs p w b1 v1 e1) (h2 : AllocR n P l bs p w b2 v2 e2) : b1 = b2 ∧ v1 = v2 ∧ e1 = e2 := by
  rcases h1 with ⟨a1, rfl, rfl, rfl⟩ | ⟨a1, a2, rfl, rfl, rfl⟩ | ⟨a1, a2, a3, a4, rfl, rfl, rfl⟩ | ⟨a1, a2, a3, a, a4, rfl, rfl, rfl⟩ | ⟨a1, a2, c, l', bs1, o, a3, a4, a5⟩ <;>
    rcases h2 with ⟨d1, rfl, rfl, rfl⟩ | ⟨d1, d2, rfl, rfl, rfl⟩ | ⟨d1, d2, d3, d4, rfl, rfl, rfl⟩ | ⟨d1, d2, d3, a', d4, rfl, rfl, rfl⟩ | ⟨d1, d2, c', l'', bs2, o', d3, d4, d5⟩ <;>
    first
      | exact ⟨rfl, rfl, rfl⟩
      | exact absurd a1 d1
      | exact absurd d1 a1
      | omega
      | exact absurd d4.1 (a4 _)
      | exact absurd a4.1 (d4 _)
      | (obtain rfl := First.uniq a4 d4; exact ⟨rfl, rfl, rfl⟩)
      | skip
  obtain rfl := a3.uniq d3
  have hp : p.toNat < P := by omega
  have hok := a4.ok hk hp a3.1
  obtain ⟨rfl, rfl⟩ := a4.uniq hk d4
  rcases a5 with ⟨rfl, rfl, rfl, rfl⟩ | ⟨B, k, hB, rfl, hF, rfl, rfl, rfl⟩ <;> rcases d5 with ⟨h6, rfl, rfl, rfl⟩ | ⟨D, j, hD, h6, hF2, rfl, rfl, rfl⟩
  · exact ⟨rfl, rfl, rfl⟩
  · cases h6
  · cases h6
  · simp only [Option.some.injEq] at h6
    obtain rfl := hok.base_inj hB hD h6
    obtain rfl := hF.uniq hF2
    exact ⟨rfl, rfl, rfl⟩
theorem FreeR.uniq {addr : Int} {b1 b2 : List Blk} {e1 e2 : Int} (hk : COk n P l bs) (h1 : FreeR bs addr b1 e1) (h2 : FreeR bs addr b2 e2) : b1 = b2 ∧ e1 = e2 := by
  rcases h1 with ⟨a1, rfl, rfl⟩ | ⟨B, k, a1, a2, rfl, a3⟩ <;> rcases h2 with ⟨d1, rfl, rfl⟩ | ⟨D, j, d1, d2, rfl, d3⟩
  · exact ⟨rfl, rfl⟩
  · exact absurd d2 (a1 D j d1)
  · exact absurd a2 (d1 B k a1)
  · obtain ⟨rfl, rfl⟩ := a1.uniq hk d1
    rcases a3 with ⟨a4, a5, rfl⟩ | ⟨a4, rfl⟩ <;> rcases d3 with ⟨d4, d5, rfl⟩ | ⟨d4, rfl⟩
    · exact ⟨rfl, rfl⟩
    · exact absurd ⟨a4, a5⟩ d4
    · exact absurd ⟨d4, d5⟩ a4
    · exact ⟨rfl, rfl⟩
theorem FlushR.uniq {p : Int} {b1 b2 : List Blk} {e1 e2 : Int} (h1 : FlushR P bs p b1 e1) (h2 : FlushR P bs p b2 e2) : b1 = b2 ∧ e1 = e2 := by
  rcases h1 with ⟨a1, rfl, rfl⟩ | ⟨a1, rfl, rfl⟩ <;> rcases h2 with ⟨d1, rfl, rfl⟩ | ⟨d1, rfl, rfl⟩
  · exact ⟨rfl, rfl⟩
  · exact absurd a1 d1
  · exact absurd d1 a1
  · exact ⟨rfl, rfl⟩
end
end Go.Proofs.YtolfcdjbchdkgaaDoor
/- CellPlays: one call of the script on both sides. Own work. -/
namespace Go.Proofs.YtolfcdjbchdkgaaDoor
open Go Go.Hp
set_option maxRecDepth 100000

def Int64 (x : Int) : Prop := -9223372036854775808 ≤ x ∧ x ≤ 9223372036854775807
theorem tdiv64 {p : Int} (h : Int64 p) : Int64 (p.tdiv 64) := by
  unfold Int64 at h ⊢
  rcases Int.le_total 0 p with h1 | h1
  · rw [tdiv_pos h1]; omega
  · have e : p.tdiv 64 = -((-p).tdiv 64) := by rw [Int.neg_tdiv, Int.neg_neg]
    rw [e, tdiv_pos (by omega)]; omega
theorem hQuo_64 {a : Int} {K : Int → HP → Prop} {m : HP} (h : Int64 a) (hk : K (a.tdiv 64) m) : hQuo .i64 a 64 K m := by
  refine ⟨by omega, ?_⟩
  have h2 := tdiv64 h
  unfold Int64 at h2
  rw [wrap_i64 h2.1 h2.2]; exact hk

attribute [local irreducible] hLoad hStore hNew hInt hQuo hRem hShl hShr hIf hNil hIdx hCut hElem hByte hAppend hMake hCall hYield hGet hPut hDel hNewMap hLoop hLet hAll hRange hRec hEq hCmp bitv W Does HYield

section
variable {C : CL} {Q : QL} {n P : Nat} {l : List Sp} {bs : List Blk} {X Y : HP}
theorem CellAt.ok (h : CellAt C n P l bs X) : COk n P l bs := by obtain ⟨_, h, _⟩ := h; exact h.ok
/-- Both hold the same blocks. -/
structure Both (C : CL) (Q : QL) (n P : Nat) (l : List Sp) (bs : List Blk) (X Y : HP) : Prop where
  c : CellAt C n P l bs X
  q : RefC Q n P l bs Y
theorem Both.mk' {l2 : List Sp} (hc : CellAt C n P l bs X) (hq : RefC Q n P l2 bs Y) : Both C Q n P l bs X Y := by
  obtain rfl := hc.ok.l_uniq hq.ok
  exact ⟨hc, hq⟩
theorem Both.ok (h : Both C Q n P l bs X Y) : COk n P l bs := h.q.ok
theorem Both.nle (h : Both C Q n P l bs X Y) : n ≤ 4096 := h.q.nle
theorem Both.live (h : Both C Q n P l bs X Y) : Live bs := by obtain ⟨⟨_, _, hl⟩, _⟩ := h; exact hl

theorem AllocR.range (hk : COk n P l bs) {l' : List Sp} {bs' : List Blk} (hk' : COk n P l' bs') (hn : n ≤ 4096) {p w v e : Int} (h : AllocR n P l bs p w bs' v e) : 0 ≤ v ∧ v ≤ 262144 := by
  rcases h.cells hk with ⟨he, _⟩ | ⟨_, a, x, rfl, _, hu, _⟩
  · rcases h with ⟨_, _, rfl, _⟩ | ⟨_, _, _, rfl, _⟩ | ⟨_, _, _, _, _, rfl, _⟩ | ⟨_, _, _, a, _, _, _, rfl⟩ | ⟨_, _, c, l', bs1, o, _, _, ⟨_, _, rfl, _⟩ | ⟨B, k, _, _, _, _, _, rfl⟩⟩
    · omega
    · omega
    · omega
    · omega
    · omega
    · omega
  · have := hu.le hk'
    omega
theorem First.le (hk : COk n P l bs) {c a : Nat} (hc : 1 ≤ c) (h : First (UL n l) c a) : a + c ≤ n := by
  rcases Nat.lt_or_ge n (a + c) with h1 | h1
  · have h2 := h.1 (a + c - 1) (by omega) (by omega)
    rw [hk.UL_iff.2 (.inl (by omega))] at h2
    cases h2
  · exact h1
theorem pages_used {B : Blk} (hB : BOk P B) (hc : B.cls = -2) : cntT B.bit 64 = 0 := by
  rw [cntT_zero]
  intro i _
  refine hB.low i ?_
  unfold Blk.cells
  rw [if_pos hc]; omega

theorem cPagesAt_does (h : CellAt C n P l bs X) (c : Int) (hc : c ≤ 9223372036854775807) {m r r2 : HP} {Tt : TypeId} {fr : Nat × Nat} [hs : Sub X m r] [Has 0 r (.cells deBc Tt fr) r2] :
    Does Tryd.prog 34 #[.pointer (some ⟨C.c, 0, none⟩), .int .i64 c] m fun e m' =>
      (c < 1 ∧ ret (.tuple #[.int .i64 0, .int .i64 1]) (X + r) e m') ∨ (1 ≤ c ∧ Nowhere (UL n l) c.toNat ∧ ret (.tuple #[.int .i64 0, .int .i64 3]) (X + r) e m') ∨
      ∃ (a : Nat) (X' : HP), 1 ≤ c ∧ First (UL n l) c.toNat a ∧ CellAt C n P (insS ⟨a, c.toNat, 0⟩ l) (bs ++ [⟨a, c.toNat, -2, 0#64, none⟩]) X' ∧ ret (.tuple #[.int .i64 (a : Int), .int .i64 0]) (X' + r) e m' := by
  obtain ⟨adr, hM, hl⟩ := h
  refine (cPages_does hM c hc (r := r) (hs := hs)).up ?_
  rintro e m' (h1 | h1 | ⟨a, X', h1, h2, h3, h4⟩)
  · exact ⟨_, Over.refl _, .inl h1⟩
  · exact ⟨_, Over.refl _, .inr (.inl h1)⟩
  · refine ⟨_, Over.refl _, .inr (.inr ⟨a, X', h1, h2, ⟨adr, ?_, fun B hB => ?_⟩, h4⟩)⟩
    · have z : cntT (Blk.bit ⟨a, c.toNat, -2, 0#64, none⟩) 64 = 0 := cntT_zero.2 fun i _ => by unfold Blk.bit; simp
      have e1 : cellsT (bs ++ [⟨a, c.toNat, -2, 0#64, none⟩]) = cellsT bs := by unfold cellsT; rw [List.map_append, List.sum_append]; simp [z]
      have e2 : wordsT (bs ++ [⟨a, c.toNat, -2, 0#64, none⟩]) = wordsT bs := by unfold wordsT; rw [List.map_append, List.sum_append]; simp [z]
      rw [e1, e2]; exact h3
    · rcases List.mem_append.1 hB with hB | hB
      · exact hl B hB
      · rw [List.mem_singleton] at hB; subst hB; exact .inl rfl
theorem cGiveAt_does (h : CellAt C n P l bs X) (base : Int) {m r r2 : HP} {Tt : TypeId} {fr : Nat × Nat} [hs : Sub X m r] [Has 0 r (.cells deBc Tt fr) r2] :
    Does Tryd.prog 35 #[.pointer (some ⟨C.c, 0, none⟩), .int .i64 base] m fun e m' =>
      ((∀ B ∈ bs, B.cls = -2 → (B.base : Int) ≠ base) ∧ ret (.int .i64 4) (X + r) e m') ∨
      ∃ (B : Blk) (X' : HP), B ∈ bs ∧ B.cls = -2 ∧ (B.base : Int) = base ∧ CellAt C n P (delS B.base l) (rem bs B.base) X' ∧ ret (.int .i64 0) (X' + r) e m' := by
  obtain ⟨adr, hM, hl⟩ := h
  have hk := hM.ok
  refine (cGive_does hM base (r := r) (hs := hs)).up ?_
  rintro e m' (h1 | ⟨B, X', hB, h1, h2, h3, h4⟩)
  · exact ⟨_, Over.refl _, .inl h1⟩
  · refine ⟨_, Over.refl _, .inr ⟨B, X', hB, h1, h2, ⟨adr, ?_, fun D hD => hl D (mem_rem.1 hD).1⟩, h4⟩⟩
    have z := pages_used (hk.bok B hB) h1
    have e1 : cellsT (rem bs B.base) = cellsT bs := by have := sum_rem hk hB (fun B => cntT B.bit 64); simp only [z] at this; unfold cellsT; omega
    have e2 : wordsT (rem bs B.base) = wordsT bs := by have := sum_rem hk hB (fun B => cntT B.bit 64 * B.words); simp only [z] at this; unfold wordsT; omega
    rw [e1, e2]; exact h3

theorem one_does (h : Both C Q n P l bs X Y) (kd a b d : Int) (ha : Int64 a) (hb : Int64 b) {r r2 g : HP} {Tt : TypeId} {fr : Nat × Nat} [Has 0 r (.cells deBc Tt fr) r2] :
    Does Tryd.prog 28 #[.pointer (some ⟨C.c, 0, none⟩), .pointer (some ⟨Q.c, 0, none⟩), .agg #[.int .i64 kd, .int .i64 a, .int .i64 b, .int .i64 d]] (X + (Y + r) + g) fun e m' =>
      ∃ l' bs' X' Y' v, Both C Q n P l' bs' X' Y' ∧ 0 ≤ v ∧ v ≤ 262144 ∧ ret (.tuple #[.int .i64 v, .bool true]) (X' + (Y' + r)) e m' := by
  have hn := h.nle
  unfold Int64 at ha hb
  refine F28_fn ?_
  unfold F28
  refine hNew_of fun b7 => hLoad_int (by rfl) (hIf_eq (fun h0 => ?_) (fun h0 => ?_))
  · refine hLoad_int (by rfl) (hLoad_int (by rfl) (hCall_of (calloc_does h.c a b) ?_))
    rintro e m' ⟨l1, b1, v, x, X1, hA, hC1, rfl, ho⟩
    refine ⟨_, ho, _, _, rfl, hLoad_int (by rfl) (hLoad_int (by rfl) (hCall_of (rcalloc_does h.q h.live a b) ?_))⟩
    rintro e m' ⟨l2, b2, v2, x2, Y1, hA2, hQ1, rfl, ho⟩
    obtain ⟨rfl, rfl, rfl⟩ := hA.uniq h.ok hA2
    have hr := hA.range h.ok hQ1.ok hn
    refine ⟨_, ho, _, _, rfl, hIf_eqT rfl ?_⟩
    rw [beq_self_eq_true]
    exact ⟨_, _, X1, Y1, v, Both.mk' hC1 hQ1, hr.1, hr.2, ret.mk (Over.of _ _)⟩
  refine hIf_eq (fun h1 => ?_) (fun h1 => ?_)
  · refine hLoad_int (by rfl) (hLoad_int (by rfl) (hCall_of (cfree_does h.c a ha.2) ?_))
    rintro e m' ⟨l1, b1, x, X1, hA, hC1, rfl, ho⟩
    refine ⟨_, ho, _, rfl, hLoad_int (by rfl) ⟨rfl, hCall_of (rcfree_does h.q h.live a ha.2) ?_⟩⟩
    rintro e m' ⟨l2, b2, x2, Y1, hA2, hQ1, rfl, ho⟩
    obtain ⟨rfl, rfl⟩ := hA.uniq h.ok hA2
    refine ⟨_, ho, _, rfl, ?_⟩
    rw [beq_self_eq_true]
    exact ⟨_, _, X1, Y1, 0, Both.mk' hC1 hQ1, by omega, by omega, ret.mk (Over.of _ _)⟩
  refine hIf_eq (fun h2 => ?_) (fun h2 => ?_)
  · refine hLoad_int (by rfl) (hLoad_int (by rfl) (hCall_of (cflush_does h.c a) ?_))
    rintro e m' ⟨l1, b1, x, X1, hA, hC1, rfl, ho⟩
    refine ⟨_, ho, _, rfl, hLoad_int (by rfl) ⟨rfl, hCall_of (rcflush_does h.q h.live a) ?_⟩⟩
    rintro e m' ⟨l2, b2, x2, Y1, hA2, hQ1, rfl, ho⟩
    obtain ⟨rfl, rfl⟩ := hA.uniq hA2
    refine ⟨_, ho, _, rfl, ?_⟩
    rw [beq_self_eq_true]
    exact ⟨_, _, X1, Y1, 0, Both.mk' hC1 hQ1, by omega, by omega, ret.mk (Over.of _ _)⟩
  refine hIf_eq (fun h3 => ?_) (fun h3 => ?_)
  · refine hLoad_int (by rfl) (hCall_of (cPagesAt_does h.c b hb.2) ?_)
    rintro e m' (⟨h5, rfl, ho⟩ | ⟨h5, h6, rfl, ho⟩ | ⟨x, X1, h5, h6, hX1, rfl, ho⟩)
    all_goals
      refine ⟨_, ho, _, _, rfl, hLoad_int (by rfl) (hCall_of (rcPages_does h.q b hb.2) ?_)⟩
      rintro e m' (⟨h7, rfl, ho⟩ | ⟨h7, h8, rfl, ho⟩ | ⟨y, Y1, h7, h8, hY1, rfl, ho⟩)
      all_goals first
        | omega
        | exact absurd h8.1 (h6 _)
        | exact absurd h6.1 (h8 _)
        | (obtain rfl := First.uniq h6 h8
           have := First.le h.ok (by omega) h6
           exact ⟨_, ho, _, _, rfl, hIf_eqT rfl ⟨_, _, X1, Y1, _, Both.mk' hX1 hY1, by omega, by omega, ret.mk (Over.of _ _)⟩⟩)
        | exact ⟨_, ho, _, _, rfl, hIf_eqT rfl ⟨_, _, X, Y, 0, h, by omega, by omega, ret.mk (Over.of _ _)⟩⟩
  refine hIf_eq (fun h4 => ?_) (fun h4 => ?_)
  · refine hLoad_int (by rfl) (hLoad_int (by rfl) (hCall_of (cGiveAt_does h.c a) ?_))
    rintro e m' (⟨h5, rfl, ho⟩ | ⟨B, X1, hB, h5, h6, hX1, rfl, ho⟩)
    all_goals
      refine ⟨_, ho, _, rfl, hLoad_int (by rfl) ⟨rfl, hCall_of (rcGive_does h.q a) ?_⟩⟩
      rintro e m' (⟨h7, rfl, ho⟩ | ⟨D, Y1, hD, h7, h8, hY1, rfl, ho⟩)
    · exact ⟨_, ho, _, rfl, _, _, X, Y, 0, h, by omega, by omega, ret.mk (Over.of _ _)⟩
    · exact absurd h8 (h5 D hD h7)
    · exact absurd h6 (h7 B hB h5)
    · obtain rfl := h.ok.base_inj hB hD (by omega)
      exact ⟨_, ho, _, rfl, _, _, X1, Y1, 0, Both.mk' hX1 hY1, by omega, by omega, ret.mk (Over.of _ _)⟩
  · exact ⟨_, _, X, Y, 0, h, by omega, by omega, ret.mk (Over.of _ _)⟩
end
end Go.Proofs.YtolfcdjbchdkgaaDoor
