/- Pages: the layout in memory; Used, outside, renew. Own work. -/
import Derived.Test.YtolfcdjbchdkgaaDoorD3
namespace Go.Proofs.YtolfcdjbchdkgaaDoor
open Go Go.Hp
set_option maxRecDepth 100000
attribute [local irreducible] hLoad hStore hNew hInt hQuo hRem hShl hShr hIf hNil hIdx hCut hElem hByte hAppend hMake hCall hYield hGet hPut hDel hNewMap hLoop hLet hAll hRange hRec hEq hCmp bitv W Does HYield

/-- Where a map of pages lies. -/
structure PL where
  p : Nat
  ub : Nat
  sb : Nat
  bs : List Nat
  sc : Array Value
  scap : Nat

def wordC (w : BitVec 64) : List Value := [.int .u64 (W w)]
theorem wordC_len (w : BitVec 64) : (wordC w).length = 1 := rfl

def lvH : List Nat → List (List Sum) → HP
  | b :: bs, l :: ls => pt b (.cells (rows sumC l) 131 (0, 0)) + lvH bs ls
  | _, _ => 0

theorem lvH_get : ∀ {bs : List Nat} {ls : List (List Sum)} {j b : Nat} {l : List Sum}, bs[j]? = some b → ls[j]? = some l →
    ∃ r, lvH bs ls = pt b (.cells (rows sumC l) 131 (0, 0)) + r ∧ ∀ l', lvH bs (ls.set j l') = pt b (.cells (rows sumC l') 131 (0, 0)) + r
  | [], _, j, b, l, h, _ => by simp at h
  | _ :: _, [], j, b, l, _, h => by simp at h
  | b0 :: bs, l0 :: ls, 0, b, l, h1, h2 => by
    simp only [List.getElem?_cons_zero, Option.some.injEq] at h1 h2; subst h1 h2
    exact ⟨lvH bs ls, rfl, fun l' => rfl⟩
  | b0 :: bs, l0 :: ls, j + 1, b, l, h1, h2 => by
    simp only [List.getElem?_cons_succ] at h1 h2
    obtain ⟨r, h3, h4⟩ := lvH_get h1 h2
    refine ⟨pt b0 (.cells (rows sumC l0) 131 (0, 0)) + r, ?_, fun l' => ?_⟩
    · simp only [lvH, h3]; rw [HP.add_left_comm]
    · simp only [List.set_cons_succ, lvH, h4]; rw [HP.add_left_comm]

def hdC (L : PL) (n : Nat) (us : List (BitVec 64)) (k : Nat) : Array Value :=
  #[.int .i64 (n : Int), .slice (some ⟨L.ub, 0, none⟩) us.length us.length, .slice (some ⟨L.sb, 0, none⟩) k L.scap]

/-- A map of pages. -/
def pagesH (L : PL) (n : Nat) (us : List (BitVec 64)) (ls : List (List Sum)) : HP :=
  pt L.p (.cells (hdC L n us ls.length) 122 (0, 0)) + (pt L.ub (.cells (rows wordC us) 105 (0, 0)) + (pt L.sb (.cells L.sc 123 (0, 0)) + lvH L.bs ls))
def restP (L : PL) (us : List (BitVec 64)) (ls : List (List Sum)) : HP := pt L.ub (.cells (rows wordC us) 105 (0, 0)) + (pt L.sb (.cells L.sc 123 (0, 0)) + lvH L.bs ls)
def restU (L : PL) (n : Nat) (us : List (BitVec 64)) (ls : List (List Sum)) : HP := pt L.p (.cells (hdC L n us ls.length) 122 (0, 0)) + (pt L.sb (.cells L.sc 123 (0, 0)) + lvH L.bs ls)
def restS (L : PL) (n : Nat) (us : List (BitVec 64)) (ls : List (List Sum)) : HP := pt L.p (.cells (hdC L n us ls.length) 122 (0, 0)) + (pt L.ub (.cells (rows wordC us) 105 (0, 0)) + lvH L.bs ls)
instance pagesP (L : PL) (n : Nat) (us : List (BitVec 64)) (ls : List (List Sum)) : Has L.p (pagesH L n us ls) (.cells (hdC L n us ls.length) 122 (0, 0)) (restP L us ls) := ⟨rfl⟩
instance pagesU (L : PL) (n : Nat) (us : List (BitVec 64)) (ls : List (List Sum)) : Has L.ub (pagesH L n us ls) (.cells (rows wordC us) 105 (0, 0)) (restU L n us ls) := ⟨by unfold pagesH restU; ac_rfl⟩
instance pagesS (L : PL) (n : Nat) (us : List (BitVec 64)) (ls : List (List Sum)) : Has L.sb (pagesH L n us ls) (.cells L.sc 123 (0, 0)) (restS L n us ls) := ⟨by unfold pagesH restS; ac_rfl⟩
theorem pages_putU (L : PL) (n : Nat) (us us' : List (BitVec 64)) (ls : List (List Sum)) (h : us'.length = us.length) : pt L.ub (.cells (rows wordC us') 105 (0, 0)) + restU L n us ls = pagesH L n us' ls := by
  unfold pagesH restU hdC; rw [h]; ac_rfl
/-- A level of it. -/
theorem pages_level (L : PL) (n : Nat) (us : List (BitVec 64)) (ls : List (List Sum)) {j b : Nat} {l : List Sum} (h1 : L.bs[j]? = some b) (h2 : ls[j]? = some l) :
    ∃ r, Has b (pagesH L n us ls) (.cells (rows sumC l) 131 (0, 0)) r ∧ ∀ l', pt b (.cells (rows sumC l') 131 (0, 0)) + r = pagesH L n us (ls.set j l') := by
  obtain ⟨r, h3, h4⟩ := lvH_get h1 h2
  refine ⟨pt L.p (.cells (hdC L n us ls.length) 122 (0, 0)) + (pt L.ub (.cells (rows wordC us) 105 (0, 0)) + (pt L.sb (.cells L.sc 123 (0, 0)) + r)), ⟨?_⟩, fun l' => ?_⟩
  · unfold pagesH; rw [h3]; ac_rfl
  · unfold pagesH; rw [h4, List.length_set]; ac_rfl

/-- The slices of the levels stand in the block of the sums. -/
def PLok (L : PL) (k : Nat) (len : Nat → Nat) : Prop := L.bs.length = k ∧ ∀ j b, L.bs[j]? = some b → L.sc[j]? = some (Value.slice (some ⟨b, 0, none⟩) (len j) (len j))

/-- Is a page used? What there isn't, is. -/
def Us (us : List (BitVec 64)) (p : Nat) : Bool := match us[p / 64]? with | some w => w.getLsbD (p % 64) | none => true

theorem rowsW {us : List (BitVec 64)} {i o : Nat} {w : BitVec 64} (ho : o = i * 1) (h : us[i]? = some w) : (rows wordC us)[o]? = some (.int .u64 (W w)) := by
  rw [rows_get wordC_len (i := i) (j := 0) (by omega) (by omega) h]; rfl

theorem and1 (w : BitVec 64) (k : Nat) : (W (w >>> k &&& 1#64) == 1) = w.getLsbD k := by
  have e : (1 : Int) = W 1#64 := W_lit 1 (by decide)
  have e2 : (w >>> k &&& 1#64) = if w.getLsbD k then 1#64 else 0#64 := by
    apply BitVec.eq_of_getLsbD_eq
    intro i hi
    rw [BitVec.getLsbD_and, BitVec.getLsbD_ushiftRight]
    rcases i with _ | i
    · cases h : w.getLsbD k <;> simp [h]
    · have : (1#64).getLsbD (i + 1) = false := by simp [BitVec.getLsbD_one]
      rw [this]; split <;> simp [BitVec.getLsbD_one]
  rw [e2]
  cases w.getLsbD k <;> simp only [if_true, if_false, Bool.false_eq_true] <;> rw [e]
  · rw [beq_eq_false_iff_ne]; intro h; have := W_inj.1 h; revert this; decide
  · simp

/-! ### Used -/
theorem used_nil (at_ : Int) (m : HP) : Does Tryd.prog 42 #[.pointer none, .int .i64 at_] m (ret (.bool true) m) := by
  refine F42_fn ?_
  unfold F42
  exact hIf_true rfl ⟨rfl, Over.refl _⟩

/-- Is a page used: of an integer. -/
def usedI (n : Nat) (us : List (BitVec 64)) (at_ : Int) : Bool := decide (at_ < 0) || decide ((n : Int) ≤ at_) || Us us at_.toNat

theorem used_does (L : PL) {n : Nat} {us : List (BitVec 64)} {ls : List (List Sum)} (hn : n ≤ 64 * us.length) (hn' : n ≤ 4096) (at_ : Int) {m r : HP} [hs : Sub (pagesH L n us ls) m r] :
    Does Tryd.prog 42 #[.pointer (some ⟨L.p, 0, none⟩), .int .i64 at_] m (ret (.bool (usedI n us at_)) m) := by
  rw [hs.eq]
  refine F42_fn ?_
  unfold F42 usedI
  refine hIf_false rfl ?_
  refine hIf_dec (fun h => ?_) (fun h => ?_)
  · simp only [h, decide_true, Bool.true_or]; exact ⟨rfl, Over.refl _⟩
  refine hNil_some (hLoad_int (by rfl) ?_)
  refine hIf_dec (fun h' => ?_) (fun h' => ?_)
  · have h' : (n : Int) ≤ at_ := h'
    simp only [h', decide_true, Bool.or_true, Bool.true_or]; exact ⟨rfl, Over.refl _⟩
  have h'' : ¬ (n : Int) ≤ at_ := h'
  simp only [h, h'', decide_false, Bool.false_or]
  obtain ⟨a, rfl⟩ := Int.eq_ofNat_of_zero_le (a := at_) (by omega)
  have hlt : a / 64 < us.length := by omega
  refine hNil_some (hLoad_add (hLoad_slice (by rfl) ?_))
  dsimp only
  refine hQuo_pos (by omega) (by omega) (by omega) (hIdx_of (by omega) (by omega) ?_)
  have hg : us[a / 64]? = some us[a / 64] := List.getElem?_eq_getElem hlt
  refine hLoad_int (rowsW (by omega) hg) (hRem_pos (by omega) (by omega) (hShr_W (by omega) ?_))
  have e1 : (1 : Int) = W 1#64 := W_lit 1 (by decide)
  refine ret.eq ?_ (Over.refl _)
  rw [e1, bitv_and, ← e1, and1]
  unfold Us
  rw [Int.toNat_natCast, hg, show ((a : Int) % 64).toNat = a % 64 by omega]

/-! ### outside -/
theorem outside_does (L : PL) {n : Nat} {us : List (BitVec 64)} {ls : List (List Sum)} (hn' : n ≤ 4096) (base k : Int) {m r : HP} [hs : Sub (pagesH L n us ls) m r] :
    Does Tryd.prog 81 #[.pointer (some ⟨L.p, 0, none⟩), .int .i64 base, .int .i64 k] m (ret (.bool (decide (base < 0 ∨ k < 1 ∨ base ≥ n ∨ k > n - base))) m) := by
  rw [hs.eq]
  refine F81_fn ?_
  unfold F81
  refine hIf_dec (fun h => ret.eq (by simp [h]) (Over.refl _)) (fun h => ?_)
  refine hIf_dec (fun h => ret.eq (by simp [h]) (Over.refl _)) (fun h => ?_)
  refine hNil_some (hLoad_int (by rfl) ?_)
  refine hIf_dec (fun h => ret.eq (by simp [h]) (Over.refl _)) (fun h => ?_)
  refine hNil_some (hLoad_int (by rfl) (hInt_i64 (by omega) (by omega) ?_))
  refine ret.eq ?_ (Over.refl _)
  congr 1
  simp only [decide_eq_decide]
  omega

end Go.Proofs.YtolfcdjbchdkgaaDoor
