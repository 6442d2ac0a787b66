/- Pages: renew. Own work. -/
import Derived.Test.YtolfcdjbchdkgaaDoorM2
import Derived.Laws.StructEq
import Derived.ChangeSame
import Derived.Carry
import Derived.ProofKit
import Derived.Test.YtolfcdjbchdkgaaDoorRows
import Derived.LaidMore
import Derived.OpenShut
import Derived.Deep.Slices
import Derived.Deep.Strs
import Derived.Stop.Joined
namespace Go.Proofs.YtolfcdjbchdkgaaDoor
open Go Go.Hp
set_option maxRecDepth 100000
attribute [local irreducible] hLoad hStore hNew hInt hQuo hRem hShl hShr hIf hNil hIdx hCut hElem hByte hAppend hMake hCall hYield hGet hPut hDel hNewMap hLoop hLet hAll hRange hRec hEq hCmp bitv W Does HYield

/-- The sums of the lowest level. -/
def Bnd (l : List Sum) : Prop := ∀ s ∈ l, s.ok ∧ s.all ≤ 64
theorem Bnd.tot {l : List Sum} (h : Bnd l) : tot l ≤ 64 * l.length := by
  induction l with
  | nil => simp [YtolfcdjbchdkgaaDoor.tot]
  | cons s l ih =>
    have h1 := (h s (by simp)).2
    have h2 := ih fun x hx => h x (by simp [hx])
    simp only [YtolfcdjbchdkgaaDoor.tot, List.map_cons, List.sum_cons, List.length_cons] at *
    omega
theorem Bnd.set {l : List Sum} (h : Bnd l) {i : Nat} {s : Sum} (hs : s.ok ∧ s.all ≤ 64) : Bnd (l.set i s) := by
  intro x hx
  rcases List.mem_or_eq_of_mem_set hx with h1 | h1
  · exact h x h1
  · subst h1; exact hs
theorem IsSum.ok {U : Nat → Bool} {lo hi : Nat} {s : Sum} (h : IsSum U lo hi s) : s.ok := by
  obtain ⟨a, h1, h2, _⟩ := h.most_at
  have := h.all; have := h.le
  exact ⟨h.start_le, by omega, h.fin_le⟩

def mixed_ (k : Nat) (l0 l1 : List Sum) (j : Nat) : List (List Sum) := (List.range k).map fun i => if i < j then it i l1 else it i l0
theorem mixed_len (k : Nat) (l0 l1 : List Sum) (j : Nat) : (mixed_ k l0 l1 j).length = k := by simp [mixed_]
theorem levels_len (k : Nat) (l0 : List Sum) : (levels k l0).length = k := by simp [levels]
theorem mixed_get {k : Nat} {l0 l1 : List Sum} {j i : Nat} (h : i < k) : (mixed_ k l0 l1 j)[i]? = some (if i < j then it i l1 else it i l0) := by simp [mixed_, h]
theorem levels_get {k : Nat} {l0 : List Sum} {i : Nat} (h : i < k) : (levels k l0)[i]? = some (it i l0) := by simp [levels, h]
theorem mixed_set (k : Nat) (l0 l1 : List Sum) (j : Nat) : (mixed_ k l0 l1 j).set j (it j l1) = mixed_ k l0 l1 (j + 1) := by
  apply List.ext_getElem?
  intro i
  rw [List.getElem?_set, mixed_len]
  by_cases hi : i < k
  · rw [mixed_get hi, mixed_get hi]
    by_cases e : j = i
    · subst e; simp [hi]
    · rw [if_neg e]; congr 1
      by_cases h1 : i < j
      · rw [if_pos h1, if_pos (by omega)]
      · rw [if_neg h1, if_neg (by omega)]
  · rw [List.getElem?_eq_none (by rw [mixed_len]; omega), List.getElem?_eq_none (by rw [mixed_len]; omega)]
    split
    · rw [if_neg (by omega)]
    · rfl
theorem mixed_zero (k : Nat) (l0 l1 : List Sum) : mixed_ k l0 l1 0 = levels k l0 := by simp [mixed_, levels]
theorem mixed_all (k : Nat) (l0 l1 : List Sum) : mixed_ k l0 l1 k = levels k l1 := by
  unfold mixed_ levels
  apply List.map_congr_left
  intro i hi; rw [if_pos (by simpa using hi)]
theorem it_step {l0 : List Sum} {i : Nat} {s : Sum} (j : Nat) : it (j + 1) (l0.set i s) = (it (j + 1) l0).set (i / 8 ^ (j + 1)) (foldS (group (it j (l0.set i s)) (i / 8 ^ (j + 1)))) := by
  obtain ⟨v, hv⟩ := it_len_set j l0 i s
  simp only [it]
  rw [hv, groups_set, Nat.div_div_eq_div_mul, ← Nat.pow_succ]
theorem it_idx {l : List Sum} {i : Nat} (h : i < l.length) (j : Nat) : i / 8 ^ j < (it j l).length := by
  induction j with
  | zero => simpa [it] using h
  | succ j ih =>
    simp only [it, groups_len]
    rw [Nat.pow_succ, ← Nat.div_div_eq_div_mul]
    omega
theorem group_len (l : List Sum) (q : Nat) : (group l q).length = min 8 (l.length - 8 * q) := by simp [group]
theorem group_get {l : List Sum} {q t : Nat} (h : t < (group l q).length) : l[8 * q + t]? = some ((group l q)[t]) := by
  have hg : (group l q)[t]? = some ((group l q)[t]) := List.getElem?_eq_getElem h
  rw [← hg]
  have := group_len l q
  simp only [group, List.getElem?_take, List.getElem?_drop]
  rw [if_pos (by omega)]
theorem fold_next {l : List Sum} {t : Nat} (h : t < l.length) : foldS (l.take (t + 1)) = (foldS (l.take t)).both l[t] := by
  unfold foldS
  rw [List.take_succ_eq_append_getElem h, List.foldl_append]
  rfl

theorem rowsS {l : List Sum} {i j o : Nat} {s : Sum} (hj : j < 4) (ho : o = i * 4 + j) (h : l[i]? = some s) : (rows sumC l)[o]? = (sumC s)[j]? := rows_get sumC_len hj ho h

theorem renew_does (L : PL) {n : Nat} {us : List (BitVec 64)} {l0 : List Sum} {k : Nat} (hL : PLok L k fun j => (it j l0).length) (hk : 1 ≤ k ∧ k ≤ 64) (hlen : l0.length = us.length) (hus : us.length ≤ 64) (hb : Bnd l0)
    {i : Nat} {w : BitVec 64} (hw : us[i]? = some w) {m r r2 : HP} {T : TypeId} {fr : Nat × Nat} [hs : Sub (pagesH L n us (levels k l0)) m r] [Has 0 r (.cells deBc T fr) r2] :
    Does Tryd.prog 61 #[.pointer (some ⟨L.p, 0, none⟩), .int .i64 (i : Int)] m fun e m' => ∃ s, IsSum w.getLsbD 0 64 s ∧ ret (.tuple #[]) (pagesH L n us (levels k (l0.set i s)) + r) e m' := by
  have hi : i < us.length := (List.getElem?_eq_some_iff.1 hw).1
  have hlv : (levels k l0).length = k := levels_len k l0
  rw [hs.eq]
  refine F61_fn ?_
  unfold F61
  obtain ⟨hLb, hLs⟩ := hL
  have hb0 : L.bs[0]? = some L.bs[0] := List.getElem?_eq_getElem (by omega)
  obtain ⟨r0, hH0, hp0⟩ := pages_level L n us (levels k l0) hb0 (levels_get (by omega))
  have hs0 := hLs 0 _ hb0
  simp only [it] at hs0 hH0
  haveI := hH0
  refine hNil_some (hLoad_add (hLoad_slice (by rfl) ?_))
  dsimp only
  refine hIdx_of (by omega) (by omega) ?_
  refine hLoad_slice (by simpa using hs0) ?_
  refine hNil_some (hLoad_add (hLoad_slice (by rfl) ?_))
  dsimp only
  refine hIdx_of (by omega) (by omega) ?_
  refine hLoad_int (rowsW (i := i) (by omega) hw) ?_
  refine hCall_of (of_does w) ?_
  rintro e m' ⟨s, hsum, rfl, ho⟩
  refine ⟨_, ho, _, _, _, _, rfl, ?_⟩
  refine hLoad_add (hLoad_slice (by rfl) ⟨rfl, ?_⟩)
  refine hLoad_slice (by simpa using hs0) ⟨rfl, ?_⟩
  refine hIdx_of (by omega) (by omega) ?_
  have hsz : (rows sumC l0).size = l0.length * 4 := rows_size sumC_len l0
  refine hStore_at (by omega) ?_
  refine hStore_add (hStore_at (by simp; omega) ?_)
  refine hStore_add (hStore_at (by simp; omega) ?_)
  refine hStore_add (hStore_at (by simp; omega) ?_)
  rw [rows_set4 (i := i) (s := s) sumC_len (List.getElem?_eq_getElem (by omega : i < l0.length)) (by omega) rfl, ← HP.add_assoc, hp0]
  have hsok : s.ok ∧ s.all ≤ 64 := ⟨hsum.ok, by rw [hsum.all]; omega⟩
  have hb1 : Bnd (l0.set i s) := hb.set hsok
  have hm1 : (levels k l0).set 0 (l0.set i s) = mixed_ k l0 (l0.set i s) 1 := by
    have := mixed_set k l0 (l0.set i s) 0
    rw [mixed_zero] at this; exact this
  rw [hm1]
  refine hLoop_of (fun c x m' => ∃ j, 1 ≤ j ∧ j ≤ k ∧ c = k - j ∧ x = (((i / 8 ^ (j - 1) : Nat) : Int), (j : Int), ()) ∧ Over (pagesH L n us (mixed_ k l0 (l0.set i s) j) + r) m') ?_ ?_
  · exact ⟨k - 1, 1, by omega, by omega, rfl, by simp, Over.refl _⟩
  rintro c x m' ⟨j, hj1, hj2, rfl, rfl, g, rfl⟩
  refine hAll_of fun _ => ?_
  unfold F61_l2
  dsimp only
  have hml : (mixed_ k l0 (l0.set i s) j).length = k := mixed_len ..
  refine hNil_some (hLoad_add (hLoad_slice (by rfl) ?_))
  dsimp only
  refine hIf_dec (fun h => ?_) (fun h => ?_)
  case' _ => skip
  rotate_left
  · obtain rfl : j = k := by omega
    rw [mixed_all]
    exact ⟨s, hsum, ret.mk (Over.of _ _)⟩
  obtain ⟨j, rfl⟩ : ∃ j', j = j' + 1 := ⟨j - 1, by omega⟩
  rw [show j + 1 - 1 = j by omega]
  -- the level below, the group, the place
  have hle : (it j (l0.set i s)).length = (it j l0).length := it_len (by simp)
  have hq : i / 8 ^ j < (it j l0).length := it_idx (by omega) j
  have hq8 : i / 8 ^ (j + 1) = i / 8 ^ j / 8 := by rw [Nat.div_div_eq_div_mul, ← Nat.pow_succ]
  have hlb : (it j l0).length ≤ 64 := by
    have : ∀ j, (it j l0).length ≤ 64 := by
      intro j
      induction j with
      | zero => simp only [it]; omega
      | succ j ih => simp only [it, groups_len]; omega
    exact this j
  have hbj : L.bs[j]? = some L.bs[j] := List.getElem?_eq_getElem (by omega)
  have hbj1 : L.bs[j + 1]? = some L.bs[j + 1] := List.getElem?_eq_getElem (by omega)
  have hsj := hLs j _ hbj
  have hsj1 := hLs (j + 1) _ hbj1
  obtain ⟨rj, hHj, hpj⟩ := pages_level L n us (mixed_ k l0 (l0.set i s) (j + 1)) hbj (mixed_get (by omega))
  obtain ⟨rj1, hHj1, hpj1⟩ := pages_level L n us (mixed_ k l0 (l0.set i s) (j + 1)) hbj1 (mixed_get (by omega))
  rw [if_pos (by omega)] at hHj
  rw [if_neg (by omega)] at hHj1
  have hgl := group_len (it j (l0.set i s)) (i / 8 ^ (j + 1))
  generalize hG : group (it j (l0.set i s)) (i / 8 ^ (j + 1)) = G at hgl
  have hit := it_step (l0 := l0) (i := i) (s := s) j
  rw [hG] at hit
  have hGm : ∀ t (ht : t < G.length), (it j (l0.set i s))[8 * (i / 8 ^ (j + 1)) + t]? = some G[t] := fun t ht => by
    subst hG; exact group_get ht
  have hok1 := it_ok (l := l0.set i s) (fun x hx => (hb1 x hx).1) j
  have htot : tot (it j (l0.set i s)) ≤ 4096 := by
    rw [hok1.2]; have := hb1.tot; rw [List.length_set] at this; omega
  have hGs : List.Sublist G (it j (l0.set i s)) := by subst hG; exact (List.take_sublist _ _).trans (List.drop_sublist _ _)
  generalize hqq : i / 8 ^ (j + 1) = q at *
  refine hQuo_pos (by omega) (by omega) (by omega) ?_
  rw [show (((i / 8 ^ j : Nat) : Int) / 8) = (q : Int) by omega]
  refine hNew_of fun b26 => ?_
  refine hNil_some (hLoad_add (hLoad_slice (by rfl) ?_))
  dsimp only
  refine hInt_i64 (by omega) (by omega) (hIdx_of (by omega) (by omega) ?_)
  refine hLoad_slice (by rw [show 0 + ((((j + 1 : Nat) : Int)) - 1).toNat * 1 = j by omega]; exact hsj) ?_
  refine hInt_i64 (by omega) (by omega) (hInt_i64 (by omega) (by omega) (hInt_i64 (by omega) (by omega) ?_))
  refine hNil_some (hLoad_add (hLoad_slice (by rfl) ?_))
  dsimp only
  refine hInt_i64 (by omega) (by omega) (hIdx_of (by omega) (by omega) ?_)
  refine hLoad_slice (by rw [show 0 + ((((j + 1 : Nat) : Int)) - 1).toNat * 1 = j by omega]; exact hsj) ?_
  dsimp only
  have hif : (if (((it j l0).length : Nat) : Int) < 8 * (q : Int) + 8 then (((it j l0).length : Nat) : Int) else 8 * (q : Int) + 8) = 8 * q + G.length := by
    rw [hgl, hle]; split <;> omega
  rw [hif]
  refine hCut_lt (by omega) (by omega) (by omega) (by omega) ?_
  refine hLoop_of (fun c x m' => ∃ t, t ≤ G.length ∧ c = G.length - t ∧ x = ((t : Int), ()) ∧
    Over (pt b26 (.cells #[.int .i64 ((foldS (G.take t)).start : Int), .int .i64 ((foldS (G.take t)).most : Int), .int .i64 ((foldS (G.take t)).fin : Int), .int .i64 ((foldS (G.take t)).all : Int)] 131 (0, 0)) + (pagesH L n us (mixed_ k l0 (l0.set i s) (j + 1)) + r)) m') ?_ ?_
  · refine ⟨G.length, 0, by omega, rfl, rfl, ?_⟩
    show Over (pt b26 (.cells #[.int .i64 0, .int .i64 0, .int .i64 0, .int .i64 0] 131 (0, 0)) + (pagesH L n us (mixed_ k l0 (l0.set i s) (j + 1)) + r)) _
    exact Over.of _ _
  rintro c x m' ⟨t, ht, rfl, rfl, g, rfl⟩
  refine hAll_of fun _ => ?_
  unfold F61_l7
  dsimp only
  refine hIf_dec (fun h => ?_) (fun h => ?_)
  · have ht' : t < G.length := by omega
    haveI := hHj
    have hx := hGm t ht'
    have e0 : 0 + (8 * (q : Int)).toNat * 4 + (t : Int).toNat * 4 = (8 * q + t) * 4 := by omega
    refine hIdx_of (by omega) (by omega) ?_
    rw [e0]
    refine hLoad_int (rowsS (j := 0) (by omega) (by omega) hx) ?_
    refine hLoad_add (hLoad_int (rowsS (j := 1) (by omega) (by omega) hx) ?_)
    refine hLoad_add (hLoad_int (rowsS (j := 2) (by omega) (by omega) hx) ?_)
    refine hLoad_add (hLoad_int (rowsS (j := 3) (by omega) (by omega) hx) ?_)
    refine hNew_of fun b49 => ?_
    refine hStore4_0 (hStore4_1 (hStore4_2 (hStore4_3 ?_)))
    refine hLoad_int (by rfl) (hLoad_int (by rfl) (hLoad_int (by rfl) (hLoad_int (by rfl) ?_)))
    refine hLoad_int (by rfl) (hLoad_int (by rfl) (hLoad_int (by rfl) (hLoad_int (by rfl) ?_)))
    have hacc : (foldS (G.take t)).ok ∧ (foldS (G.take t)).all ≤ 4096 := by
      have h1 := foldl_ok (l := G.take t) .zero fun x hx => hok1.1 x (hGs.mem ((List.take_sublist _ _).mem hx))
      refine ⟨h1.1, ?_⟩
      unfold foldS; rw [h1.2]
      have := tot_le_of_sublist ((List.take_sublist t G).trans hGs)
      simp [Sum.zero]; omega
    have hgt := hok1.1 G[t] (hGs.mem (List.getElem_mem ht'))
    have hgt2 := mem_tot (hGs.mem (List.getElem_mem ht'))
    refine hCall_ret (both_does (foldS (G.take t)) G[t] ?_ ?_ _) ⟨_, _, _, _, rfl, ?_⟩
    · obtain ⟨⟨_, _, _⟩, _⟩ := hacc; omega
    · obtain ⟨_, _, _⟩ := hgt; omega
    refine hStore4_0 (hStore4_1 (hStore4_2 (hStore4_3 (hInt_i64 (by omega) (by omega) ?_))))
    refine ⟨_, by omega, t + 1, ht', rfl, rfl, ?_⟩
    rw [fold_next ht']
    exact Over.of _ _
  · obtain rfl : t = G.length := by omega
    rw [List.take_length]
    haveI := hHj1
    refine hNil_some (hLoad_add (hLoad_slice (by rfl) ?_))
    dsimp only
    refine hIdx_of (by omega) (by omega) ?_
    refine hLoad_slice (by rw [show 0 + (((j + 1 : Nat) : Int)).toNat * 1 = j + 1 by omega]; exact hsj1) ?_
    refine hLoad_int (by rfl) (hLoad_int (by rfl) (hLoad_int (by rfl) (hLoad_int (by rfl) ?_)))
    have hq1 : q < (it (j + 1) l0).length := by
      have := it_idx (l := l0) (i := i) (by omega) (j + 1); omega
    have hsz1 : (rows sumC (it (j + 1) l0)).size = (it (j + 1) l0).length * 4 := rows_size sumC_len _
    dsimp only
    refine hIdx_of (by omega) (by omega) ?_
    refine hStore_at (by omega) ?_
    refine hStore_add (hStore_at (by simp; omega) ?_)
    refine hStore_add (hStore_at (by simp; omega) ?_)
    refine hStore_add (hStore_at (by simp; omega) ?_)
    rw [rows_set4 (i := q) (s := foldS G) sumC_len (List.getElem?_eq_getElem hq1) (by omega) rfl, ← hit]
    refine hInt_i64 (by omega) (by omega) ⟨k - (j + 2), by omega, j + 2, by omega, by omega, rfl, ?_, ?_⟩
    · rw [show j + 2 - 1 = j + 1 by omega, hqq]; rfl
    · have h2 := hpj1 (it (j + 1) (l0.set i s))
      rw [mixed_set] at h2
      rw [← h2]
      exact Over.of _ _

end Go.Proofs.YtolfcdjbchdkgaaDoor
/- Pages: first. Own work. -/
namespace Go.Proofs.YtolfcdjbchdkgaaDoor
open Go Go.Hp
set_option maxRecDepth 100000
attribute [local irreducible] hLoad hStore hNew hInt hQuo hRem hShl hShr hIf hNil hIdx hCut hElem hByte hAppend hMake hCall hYield hGet hPut hDel hNewMap hLoop hLet hAll hRange hRec hEq hCmp bitv W Does HYield

/-- All about a map of pages, but for its memory. -/
structure PGood (L : PL) (n : Nat) (us : List (BitVec 64)) (l0 : List Sum) (k : Nat) : Prop where
  lay : PLok L k fun j => (it j l0).length
  kpos : 1 ≤ k
  kle : k ≤ 64
  npos : 1 ≤ n
  nle : n ≤ 4096
  chunks : us.length = (n + 63) / 64
  len : l0.length = us.length
  bnd : Bnd l0
  sums : ∀ (i : Nat) (w : BitVec 64) (s : Sum), us[i]? = some w → l0[i]? = some s → IsSum w.getLsbD 0 64 s
  top : (it (k - 1) l0).length = 1
  tail : ∀ p, n ≤ p → Us us p = true

theorem Us_at {us : List (BitVec 64)} {i b : Nat} {w : BitVec 64} (h : us[i]? = some w) (hb : b < 64) : Us us (64 * i + b) = w.getLsbD b := by
  unfold Us
  rw [show (64 * i + b) / 64 = i by omega, h, show (64 * i + b) % 64 = b by omega]
theorem Us_ge {us : List (BitVec 64)} {p : Nat} (h : 64 * us.length ≤ p) : Us us p = true := by
  unfold Us; rw [List.getElem?_eq_none (by omega)]
theorem PGood.sum {L : PL} {n : Nat} {us : List (BitVec 64)} {l0 : List Sum} {k : Nat} (g : PGood L n us l0 k) {i : Nat} {s : Sum} (h : l0[i]? = some s) : IsSum (Us us) (64 * i) (64 * i + 64) s := by
  have hi : i < us.length := by have := (List.getElem?_eq_some_iff.1 h).1; rw [← g.len]; exact this
  have hw : us[i]? = some us[i] := List.getElem?_eq_getElem hi
  exact (g.sums i _ s hw h).shift fun b hb => Us_at hw hb

theorem fold_sum {U : Nat → Bool} {B : Nat → Nat} {l : List Sum} (hB : ∀ i s, l[i]? = some s → IsSum U (B i) (B (i + 1)) s) (q : Nat) : ∀ t, t ≤ (group l q).length → IsSum U (B (8 * q)) (B (8 * q + t)) (foldS ((group l q).take t)) := by
  intro t
  induction t with
  | zero => intro _; exact IsSum.zero U _
  | succ t ih =>
    intro ht
    rw [fold_next (by omega)]
    exact (ih (by omega)).both (hB _ _ (group_get (by omega)))
theorem level_sum {U : Nat → Bool} {l0 : List Sum} (h0 : ∀ i s, l0[i]? = some s → IsSum U (64 * i) (64 * i + 64) s) : ∀ j, ∃ B : Nat → Nat, B 0 = 0 ∧ B (it j l0).length = 64 * l0.length ∧ ∀ i s, (it j l0)[i]? = some s → IsSum U (B i) (B (i + 1)) s := by
  intro j
  induction j with
  | zero => exact ⟨fun i => 64 * i, rfl, rfl, fun i s h => h0 i s h⟩
  | succ j ih =>
    obtain ⟨B, hB0, hBn, hB⟩ := ih
    refine ⟨fun i => B (min (8 * i) (it j l0).length), by simp [hB0], ?_, fun i s h => ?_⟩
    · simp only [it, groups_len]
      rw [Nat.min_eq_right (by omega)]; exact hBn
    · have hi : i < ((it j l0).length + 7) / 8 := by
        have := (List.getElem?_eq_some_iff.1 h).1
        simpa [it, groups_len] using this
      simp only [it] at h
      rw [groups_get _ _ hi] at h
      obtain rfl : foldS (group (it j l0) i) = s := by simpa using h
      have := fold_sum hB i (group (it j l0) i).length (Nat.le_refl _)
      rw [List.take_length, group_len] at this
      dsimp only
      rw [Nat.min_eq_left (by omega : 8 * i ≤ (it j l0).length)]
      rwa [show min (8 * (i + 1)) (it j l0).length = 8 * i + min 8 ((it j l0).length - 8 * i) by omega]
theorem PGood.topsum {L : PL} {n : Nat} {us : List (BitVec 64)} {l0 : List Sum} {k : Nat} (g : PGood L n us l0 k) : ∃ s, (it (k - 1) l0)[0]? = some s ∧ IsSum (Us us) 0 (64 * us.length) s ∧ s.all ≤ 4096 := by
  obtain ⟨B, h1, h2, h3⟩ := level_sum (fun i s h => g.sum h) (k - 1)
  have ht := g.top
  have h0 : (it (k - 1) l0)[0]? = some (it (k - 1) l0)[0] := List.getElem?_eq_getElem (by omega)
  have := h3 0 _ h0
  rw [h1, show 0 + 1 = (it (k - 1) l0).length by omega, h2, g.len] at this
  refine ⟨_, h0, this, ?_⟩
  rw [this.all]; have := g.chunks; have := g.nle; omega

/-- The first row of c free pages begins at a. -/
def First (U : Nat → Bool) (c a : Nat) : Prop := Free U a (a + c) ∧ ∀ b, b < a → ¬ Free U b (b + c)
def Nowhere (U : Nat → Bool) (c : Nat) : Prop := ∀ b, ¬ Free U b (b + c)
theorem runFits {us : List (BitVec 64)} {a c : Nat} (h : Free (Us us) a (a + c)) (hc : 1 ≤ c) : a + c ≤ 64 * us.length := by
  rcases Nat.lt_or_ge (64 * us.length) (a + c) with h1 | h1
  · have := h (a + c - 1) (by omega) (by omega)
    rw [Us_ge (by omega)] at this; cases this
  · exact h1

theorem first_does (L : PL) {n : Nat} {us : List (BitVec 64)} {l0 : List Sum} {k : Nat} (g : PGood L n us l0 k) (c : Nat) (hc : 1 ≤ c) (hc' : (c : Int) ≤ 9223372036854775807) {m r r2 : HP} {T : TypeId} {fr : Nat × Nat} [hs : Sub (pagesH L n us (levels k l0)) m r] [Has 0 r (.cells deBc T fr) r2] :
    Does Tryd.prog 62 #[.pointer (some ⟨L.p, 0, none⟩), .int .i64 (c : Int)] m fun e m' => (Nowhere (Us us) c ∧ ret (.int .i64 (-1)) (pagesH L n us (levels k l0) + r) e m') ∨ ∃ a : Nat, First (Us us) c a ∧ ret (.int .i64 (a : Int)) (pagesH L n us (levels k l0) + r) e m' := by
  have hlv : (levels k l0).length = k := levels_len k l0
  obtain ⟨hLb, hLs⟩ := g.lay
  have hk1 := g.kpos
  have hkle := g.kle
  have hnle := g.nle
  have hch := g.chunks
  have hlen := g.len
  rw [hs.eq]
  refine F62_fn ?_
  unfold F62
  obtain ⟨st, hst, hsum, hall⟩ := g.topsum
  have hbk : L.bs[k - 1]? = some L.bs[k - 1] := List.getElem?_eq_getElem (by omega)
  have hsk := hLs (k - 1) _ hbk
  obtain ⟨rk, hHk, hpk⟩ := pages_level L n us (levels k l0) hbk (levels_get (by omega))
  have hb0 : L.bs[0]? = some L.bs[0] := List.getElem?_eq_getElem (by omega)
  obtain ⟨r0, hH0, hp0⟩ := pages_level L n us (levels k l0) hb0 (levels_get (by omega))
  have hs0 := hLs 0 _ hb0
  simp only [it] at hs0 hH0
  have hok := hsum.ok
  obtain ⟨hok1, hok2, hok3⟩ := hok
  refine hNil_some (hLoad_add (hLoad_slice (by rfl) (hNil_some (hLoad_add (hLoad_slice (by rfl) ?_)))))
  dsimp only
  refine hInt_i64 (by omega) (by omega) (hIdx_of (by omega) (by omega) ?_)
  refine hLoad_slice (by rw [show 0 + ((((levels k l0).length : Nat) : Int) - 1).toNat * 1 = k - 1 by omega]; exact hsk) ?_
  dsimp only
  have htop := g.top
  refine hIdx_of (by omega) (by omega) ?_
  refine hLoad_add ?_
  haveI := hHk
  refine hLoad_int (x := (st.most : Int)) (by rw [rowsS (i := 0) (j := 1) (by omega) (by omega) hst]; rfl) ?_
  refine hIf_dec (fun h => ?_) (fun h => ?_)
  · have h : (st.most : Int) < c := h
    refine .inl ⟨fun b hb => ?_, ret.mk (Over.refl _)⟩
    have := hsum.most b c (by omega) (runFits hb hc) hb
    omega
  refine hNil_some (hLoad_add (hLoad_slice (by rfl) ?_))
  haveI := hH0
  refine hLoop_of (fun d x m' => ∃ i run : Nat, i ≤ us.length ∧ d = us.length - i ∧ x = ((run : Int), (i : Int), ()) ∧ run ≤ 64 * i ∧ run < c ∧ Free (Us us) (64 * i - run) (64 * i) ∧
    (∀ b, Free (Us us) b (b + c) → 64 * i - run ≤ b) ∧ Over (pagesH L n us (levels k l0) + r) m') ?_ ?_
  · exact ⟨us.length, 0, 0, by omega, rfl, rfl, by omega, by omega, fun p _ h => by omega, fun b _ => by omega, Over.refl _⟩
  rintro d x m' ⟨i, run, hi, rfl, rfl, hrun, hrc, hfree, hmin, gg, rfl⟩
  refine hAll_of fun _ => ?_
  unfold F62_l6
  dsimp only
  refine hIf_dec (fun h => ?_) (fun h => ?_)
  · have hi' : i < us.length := by omega
    refine hLet_strong ?_
    have hw : us[i]? = some us[i] := List.getElem?_eq_getElem hi'
    have hl : l0[i]? = some l0[i] := List.getElem?_eq_getElem (by omega)
    have hS := g.sum hl
    have hS' := g.sums i _ _ hw hl
    generalize us[i] = w at hw hS'
    generalize l0[i] = s at hl hS hS'
    have hall' := hS.all
    have hst := hS.start_le; have hen := hS.fin_le
    have hmo := hS.ok.2.1
    refine hIdx_of (by omega) (by omega) ?_
    refine hLoad_int (rowsW (i := i) (by omega) hw) ?_
    refine hNil_some (hLoad_add (hLoad_slice (by rfl) ?_))
    dsimp only
    refine hIdx_of (by omega) (by omega) ?_
    refine hLoad_slice (by simpa using hs0) ?_
    dsimp only
    refine hIdx_of (by omega) (by omega) ?_
    have e0 : 0 + (i : Int).toNat * 4 = i * 4 := by omega
    rw [e0]
    refine hLoad_int (rowsS (j := 0) (by omega) (by omega) hl) ?_
    refine hLoad_add (hLoad_int (rowsS (j := 1) (by omega) (by omega) hl) ?_)
    refine hLoad_add (hLoad_int (rowsS (j := 2) (by omega) (by omega) hl) ?_)
    refine hLoad_add (hLoad_int (rowsS (j := 3) (by omega) (by omega) hl) ?_)
    refine hNew_of fun b30 => ?_
    refine hStore4_0 (hStore4_1 (hStore4_2 (hStore4_3 ?_)))
    refine hLoad_int (by rfl) (hInt_i64 (by omega) (by omega) ?_)
    -- a row across the beginning of the chunk is too short
    have hfm : s.fin ≤ s.most := hS.most (64 * i + 64 - s.fin) s.fin (by omega) (by omega) (by rw [show 64 * i + 64 - s.fin + s.fin = 64 * i + 64 by omega]; exact hS.fin)
    have across : ∀ b, Free (Us us) b (b + c) → b < 64 * i → run + s.start < c → (s.start ≠ 64 ∨ c ≤ 64) → False := by
      intro b hb hbi hlt hor
      have h1 := hmin b hb
      rcases Nat.lt_or_ge (b + c) (64 * i + s.start + 1) with h2 | h2
      · omega
      · have := hS.start_end
        rcases Nat.lt_or_ge s.start s.all with h3 | h3
        · have h4 := this h3; rw [hb _ (by omega) (by omega)] at h4; cases h4
        · omega
    refine hIf_dec (fun h1 => ?_) (fun h1 => ?_)
    · refine hInt_i64 (by omega) (by omega) (hInt_i64 (by omega) (by omega) (.inr ⟨64 * i - run, ⟨fun p h2 h3 => ?_, fun b hb hf => ?_⟩, ?_⟩))
      · rcases Nat.lt_or_ge p (64 * i) with h4 | h4
        · exact hfree p h2 h4
        · exact hS.start p h4 (by omega)
      · have := hmin b hf; omega
      · rw [show (i : Int) * 64 - run = ((64 * i - run : Nat) : Int) by omega]; exact ret.mk (Over.of _ _)
    refine hLoad_int (by rfl) ?_
    refine hIf_dec (fun h2 => ?_) (fun h2 => ?_)
    · refine hInt_i64 (by omega) (by omega) ?_
      refine hCall_of (within_does w c ⟨hc, by omega⟩) ?_
      rintro e m' ⟨f, hf, rfl, ho⟩
      refine ⟨_, ho, _, rfl, ?_⟩
      have hft := tz_le f
      refine hInt_i64 (by omega) (by omega) ?_
      have hex : tz f < 64 := by
        obtain ⟨x, hx1, hx2, hx3⟩ := hS'.most_at
        have hbit := (hf x (by omega)).2 ⟨by omega, fun j hj => hx3 _ (by omega) (by omega)⟩
        rcases Nat.lt_or_ge (tz f) 64 with h | h
        · exact h
        · rw [tz_low (by omega)] at hbit; cases hbit
      have hbit := (hf _ hex).1 (tz_bit hex)
      refine .inr ⟨64 * i + tz f, ⟨fun p h3 h4 => ?_, fun b hb hfb => ?_⟩, ?_⟩
      · rw [show p = 64 * i + (p - 64 * i) by omega, Us_at hw (by omega)]
        have := hbit.2 (p - 64 * i - tz f) (by omega)
        rwa [show tz f + (p - 64 * i - tz f) = p - 64 * i by omega] at this
      · rcases Nat.lt_or_ge b (64 * i) with h3 | h3
        · exact across b hfb h3 (by omega) (by omega)
        · have h4 := (hf (b - 64 * i) (by omega)).2 ⟨by omega, fun j hj => by
            have := hfb (b + j) (by omega) (by omega)
            rw [show b + j = 64 * i + (b - 64 * i + j) by omega, Us_at hw (by omega)] at this
            exact this⟩
          rw [tz_low (by omega)] at h4; cases h4
      · rw [show (i : Int) * 64 + (tz f : Int) = ((64 * i + tz f : Nat) : Int) by omega]; exact ret.mk (Over.of _ _)
    refine hLoad_int (by rfl) ?_
    have inside : ∀ b, Free (Us us) b (b + c) → 64 * i ≤ b → b + c ≤ 64 * i + 64 → False := fun b hb h3 h4 => by
      have := hS.most b c h3 h4 hb; omega
    refine hIf_eq (fun h3 => ?_) (fun h3 => ?_)
    · refine hInt_i64 (by omega) (by omega) (hAll_of fun _ => ?_)
      unfold F62_j16
      dsimp only
      refine hInt_i64 (by omega) (by omega) ⟨us.length - (i + 1), by omega, i + 1, run + 64, by omega, rfl, rfl, by omega, by omega, fun p h4 h5 => ?_, fun b hb => ?_, Over.of _ _⟩
      · rcases Nat.lt_or_ge p (64 * i) with h6 | h6
        · exact hfree p (by omega) h6
        · exact hS.start p h6 (by omega)
      · have := hmin b hb; omega
    · refine hLoad_int (by rfl) (hAll_of fun _ => ?_)
      unfold F62_j16
      dsimp only
      refine hInt_i64 (by omega) (by omega) ⟨us.length - (i + 1), by omega, i + 1, s.fin, by omega, rfl, rfl, by omega, by omega, fun p h4 h5 => hS.fin p (by omega) (by omega), fun b hb => ?_, Over.of _ _⟩
      rcases Nat.lt_or_ge b (64 * i) with h4 | h4
      · exact (across b hb h4 (by omega) (by omega)).elim
      · rcases Nat.lt_or_ge (64 * i + 64) (b + c) with h5 | h5
        · rcases Nat.lt_or_ge b (64 * (i + 1) - s.fin) with h6 | h6
          · have h7 := hS.fin_end (by omega)
            rw [hb _ (by omega) (by omega)] at h7; cases h7
          · exact h6
        · exact (inside b hb h4 h5).elim
  · obtain rfl : i = us.length := by omega
    refine .inl ⟨fun b hb => ?_, ret.mk (Over.of _ _)⟩
    have h1 := hmin b hb
    have h2 := runFits hb hc
    omega

end Go.Proofs.YtolfcdjbchdkgaaDoor
/- Pages: set, Alloc, turn, Free. Own work. -/
namespace Go.Proofs.YtolfcdjbchdkgaaDoor
open Go Go.Hp
set_option maxRecDepth 100000
attribute [local irreducible] hLoad hStore hNew hInt hQuo hRem hShl hShr hIf hNil hIdx hCut hElem hByte hAppend hMake hCall hYield hGet hPut hDel hNewMap hLoop hLet hAll hRange hRec hEq hCmp bitv W Does HYield

def maskW (lo hi : Nat) : BitVec 64 := (BitVec.allOnes 64 <<< lo) &&& (BitVec.allOnes 64 >>> (64 - hi))
theorem maskW_bit {lo hi b : Nat} (hh : hi ≤ 64) (hb : b < 64) : (maskW lo hi).getLsbD b = (decide (lo ≤ b) && decide (b < hi)) := by
  unfold maskW
  rw [BitVec.getLsbD_and, BitVec.getLsbD_shiftLeft, BitVec.getLsbD_ushiftRight, BitVec.getLsbD_allOnes, BitVec.getLsbD_allOnes]
  rw [Bool.eq_iff_iff]
  simp only [Bool.and_eq_true, decide_eq_true_eq, Bool.not_eq_true', decide_eq_false_iff_not]
  omega
def setW (w : BitVec 64) (lo hi : Nat) (used : Bool) : BitVec 64 := if used then w ||| maskW lo hi else w &&& ~~~ maskW lo hi
theorem setW_bit {w : BitVec 64} {lo hi b : Nat} {used : Bool} (hh : hi ≤ 64) (hb : b < 64) : (setW w lo hi used).getLsbD b = if lo ≤ b ∧ b < hi then used else w.getLsbD b := by
  unfold setW
  cases used <;> simp only [if_true, if_false, Bool.false_eq_true, BitVec.getLsbD_or, BitVec.getLsbD_and, BitVec.getLsbD_not, maskW_bit hh hb, hb, decide_true, Bool.true_and]
  · by_cases h : lo ≤ b ∧ b < hi
    · simp [h]
    · rw [if_neg h]
      have : (decide (lo ≤ b) && decide (b < hi)) = false := by simp only [Bool.and_eq_false_iff, decide_eq_false_iff_not]; omega
      simp [this]
  · by_cases h : lo ≤ b ∧ b < hi
    · simp [h]
    · rw [if_neg h]
      have : (decide (lo ≤ b) && decide (b < hi)) = false := by simp only [Bool.and_eq_false_iff, decide_eq_false_iff_not]; omega
      simp [this]

theorem cAll : (18446744073709551615 : Int) = W (BitVec.allOnes 64) := by
  have := W_lit 18446744073709551615 (by decide)
  rw [show (18446744073709551615 : Int) = ((18446744073709551615 : Nat) : Int) from rfl, this]; rfl

theorem Us_set {us : List (BitVec 64)} {i lo hi : Nat} {w : BitVec 64} {used : Bool} (hw : us[i]? = some w) (hh : hi ≤ 64) (p : Nat) :
    Us (us.set i (setW w lo hi used)) p = if 64 * i + lo ≤ p ∧ p < 64 * i + hi then used else Us us p := by
  unfold Us
  rw [List.getElem?_set]
  have hi' := (List.getElem?_eq_some_iff.1 hw).1
  by_cases e : i = p / 64
  · subst e
    rw [if_pos rfl, if_pos hi', hw]
    simp only
    rw [setW_bit hh (by omega)]
    have : (lo ≤ p % 64 ∧ p % 64 < hi) ↔ (64 * (p / 64) + lo ≤ p ∧ p < 64 * (p / 64) + hi) := by omega
    simp only [this]
  · rw [if_neg e, if_neg (by omega)]

theorem PGood.renewed {L : PL} {n : Nat} {us : List (BitVec 64)} {l0 : List Sum} {k i : Nat} {w : BitVec 64} {s : Sum} (g : PGood L n us l0 k) (hs : IsSum w.getLsbD 0 64 s)
    (ht : ∀ p, n ≤ p → Us (us.set i w) p = true) : PGood L n (us.set i w) (l0.set i s) k where
  lay := ⟨g.lay.1, fun j b h => by have := g.lay.2 j b h; dsimp only at this ⊢; rwa [it_len (l' := l0.set i s) (by simp)] at this⟩
  kpos := g.kpos
  kle := g.kle
  npos := g.npos
  nle := g.nle
  chunks := by rw [List.length_set]; exact g.chunks
  len := by rw [List.length_set, List.length_set]; exact g.len
  bnd := g.bnd.set ⟨hs.ok, by rw [hs.all]; omega⟩
  sums := by
    intro j v t h1 h2
    rw [List.getElem?_set] at h1 h2
    by_cases e : i = j
    · rw [if_pos e] at h1 h2
      split at h1
      · split at h2
        · simp only [Option.some.injEq] at h1 h2; subst h1 h2; exact hs
        · cases h2
      · cases h1
    · rw [if_neg e] at h1 h2; exact g.sums j v t h1 h2
  top := by rw [it_len (l' := l0) (by simp)]; exact g.top
  tail := ht

theorem rowsW_set {us : List (BitVec 64)} {i o : Nat} {w w' : BitVec 64} (ho : o = i * 1) (h : us[i]? = some w) : (rows wordC us).setIfInBounds o (.int .u64 (W w')) = rows wordC (us.set i w') :=
  rows_set (j := 0) wordC_len (by omega) (by omega) h rfl
theorem rowsW_size (us : List (BitVec 64)) : (rows wordC us).size = us.length * 1 := rows_size wordC_len us

theorem set_does (L : PL) {n : Nat} {us : List (BitVec 64)} {l0 : List Sum} {k : Nat} (g : PGood L n us l0 k) (base c : Nat) (hbc : base + c ≤ n) (used : Bool) {m r r2 : HP} {T : TypeId} {fr : Nat × Nat} [hs : Sub (pagesH L n us (levels k l0)) m r] [Has 0 r (.cells deBc T fr) r2] :
    Does Tryd.prog 63 #[.pointer (some ⟨L.p, 0, none⟩), .int .i64 (base : Int), .int .i64 (c : Int), .bool used] m fun e m' => ∃ us' l0', PGood L n us' l0' k ∧
      (∀ p, Us us' p = if base ≤ p ∧ p < base + c then used else Us us p) ∧ ret (.tuple #[]) (pagesH L n us' (levels k l0') + r) e m' := by
  have hnle := g.nle
  rw [hs.eq]
  refine F63_fn ?_
  unfold F63
  refine hLoop_of (fun d x m' => ∃ (a : Nat) (us' : List (BitVec 64)) (l0' : List Sum), base ≤ a ∧ a ≤ base + c ∧ d = base + c - a ∧ x = ((a : Int), ()) ∧ PGood L n us' l0' k ∧
    (∀ p, Us us' p = if base ≤ p ∧ p < a then used else Us us p) ∧ Over (pagesH L n us' (levels k l0') + r) m') ?_ ?_
  · exact ⟨_, base, us, l0, by omega, by omega, rfl, rfl, g, fun p => by rw [if_neg (by omega)], Over.refl _⟩
  rintro d x m' ⟨a, us', l0', ha1, ha2, rfl, rfl, g', hU, gg, rfl⟩
  have hch := g'.chunks
  refine hAll_of fun _ => ?_
  unfold F63_l1
  dsimp only
  refine hInt_i64 (by omega) (by omega) (hIf_dec (fun h => ?_) (fun h => ?_))
  · refine hQuo_pos (by omega) (by omega) (by omega) (hRem_pos (by omega) (by omega) ?_)
    refine hInt_i64 (by omega) (by omega) (hInt_i64 (by omega) (by omega) (hInt_i64 (by omega) (by omega) ?_))
    have hto : ∃ to : Nat, (if ((a : Int) % 64 + base + c - a) < 64 then ((a : Int) % 64 + base + c - a) else 64) = (to : Int) ∧ to ≤ 64 ∧ a % 64 < to ∧ a - a % 64 + to ≤ base + c ∧ (to < 64 → a - a % 64 + to = base + c) := by
      rcases Int.lt_or_le ((a : Int) % 64 + base + c - a) 64 with h1 | h1
      · exact ⟨a % 64 + (base + c - a), by rw [if_pos h1]; omega, by omega, by omega, by omega, by omega⟩
      · exact ⟨64, by rw [if_neg (by omega)]; rfl, by omega, by omega, by omega, by omega⟩
    obtain ⟨to, hto1, hto2, hto3, hto4, hto5⟩ := hto
    rw [hto1]
    rw [cAll]
    refine hShl_W (by omega) (hInt_i64 (by omega) (by omega) (hShr_W (by omega) ?_))
    rw [bitv_and]
    have hmask : (BitVec.allOnes 64 <<< ((a : Int) % 64).toNat &&& BitVec.allOnes 64 >>> (64 - (to : Int)).toNat) = maskW (a % 64) to := by
      unfold maskW
      rw [show ((a : Int) % 64).toNat = a % 64 by omega, show (64 - (to : Int)).toNat = 64 - to by omega]
    rw [hmask]
    have hi : a / 64 < us'.length := by omega
    have hw : us'[a / 64]? = some us'[a / 64] := List.getElem?_eq_getElem hi
    generalize us'[a / 64] = w at hw
    have hsz := rowsW_size us'
    have eo : 0 + ((a : Int) / 64).toNat * 1 = a / 64 * 1 := by omega
    have hput := pages_putU L n us' (us'.set (a / 64) (setW w (a % 64) to used)) (levels k l0') (by simp)
    refine hLet_of (fun _ m' => m' = pagesH L n (us'.set (a / 64) (setW w (a % 64) to used)) (levels k l0') + (r + gg)) ?_ ?_
    · refine hIf_split (fun hu => ?_) (fun hu => ?_)
      · subst hu
        refine hNil_some (hLoad_add (hLoad_slice (by rfl) ?_))
        dsimp only
        refine hIdx_of (by omega) (by omega) ?_
        rw [eo]
        refine hLoad_int (rowsW (i := a / 64) rfl hw) (hIdx_of (by omega) (by omega) ?_)
        rw [eo, bitv_or]
        refine hStore_at (by omega) ?_
        rw [rowsW_set rfl hw, ← hput, HP.add_assoc, HP.add_assoc]
        rfl
      · subst hu
        refine hNil_some (hLoad_add (hLoad_slice (by rfl) ?_))
        dsimp only
        refine hIdx_of (by omega) (by omega) ?_
        rw [eo]
        refine hLoad_int (rowsW (i := a / 64) rfl hw) (hIdx_of (by omega) (by omega) ?_)
        rw [eo, bitv_andNot]
        refine hStore_at (by omega) ?_
        rw [rowsW_set rfl hw, ← hput, HP.add_assoc, HP.add_assoc]
        rfl
    · rintro _ m' rfl
      refine hAll_of fun _ => ?_
      unfold F63_j8
      dsimp only
      rw [hto1]
      have hU' := fun p => Us_set (lo := a % 64) (used := used) hw hto2 p
      have hw' : (us'.set (a / 64) (setW w (a % 64) to used))[a / 64]? = some (setW w (a % 64) to used) := by rw [List.getElem?_set, if_pos rfl, if_pos hi]
      rw [show ((a : Int) / 64) = ((a / 64 : Nat) : Int) by omega]
      refine hCall_of (renew_does L (n := n) (l0 := l0') (k := k) g'.lay ⟨g'.kpos, g'.kle⟩ (by rw [List.length_set]; exact g'.len) (by rw [List.length_set]; omega) g'.bnd hw') ?_
      rintro e m' ⟨s, hsum, rfl, ho⟩
      refine ⟨_, ho, ?_⟩
      refine hInt_i64 (by omega) (by omega) (hInt_i64 (by omega) (by omega) ?_)
      refine ⟨base + c - (a - a % 64 + to), by omega, a - a % 64 + to, us'.set (a / 64) (setW w (a % 64) to used), l0'.set (a / 64) s, by omega, by omega, rfl, ?_, g'.renewed hsum (fun p hp => ?_), fun p => ?_, Over.of _ _⟩
      · rw [show (a : Int) + ((to : Int) - (a : Int) % 64) = ((a - a % 64 + to : Nat) : Int) by omega]
      · rw [hU', if_neg (by omega)]; exact g'.tail p hp
      · rw [hU', hU]
        have e64 : 64 * (a / 64) = a - a % 64 := by omega
        by_cases h1 : 64 * (a / 64) + a % 64 ≤ p ∧ p < 64 * (a / 64) + to
        · rw [if_pos h1, if_pos (by omega)]
        · rw [if_neg h1]
          by_cases h2 : base ≤ p ∧ p < a
          · rw [if_pos h2, if_pos (by omega)]
          · rw [if_neg h2, if_neg (by omega)]
  · obtain rfl : a = base + c := by omega
    exact ⟨us', l0', g', hU, ret.mk (Over.of _ _)⟩

/-! ### Alloc -/
theorem palloc_does (L : PL) {n : Nat} {us : List (BitVec 64)} {l0 : List Sum} {k : Nat} (g : PGood L n us l0 k) (c : Int) (hc' : c ≤ 9223372036854775807) {m r r2 : HP} {T : TypeId} {fr : Nat × Nat} [hs : Sub (pagesH L n us (levels k l0)) m r] [Has 0 r (.cells deBc T fr) r2] :
    Does Tryd.prog 38 #[.pointer (some ⟨L.p, 0, none⟩), .int .i64 c] m fun e m' =>
      (c < 1 ∧ ret (.tuple #[.int .i64 0, .int .i64 1]) (pagesH L n us (levels k l0) + r) e m') ∨
      (1 ≤ c ∧ Nowhere (Us us) c.toNat ∧ ret (.tuple #[.int .i64 0, .int .i64 3]) (pagesH L n us (levels k l0) + r) e m') ∨
      ∃ (a : Nat) (us' : List (BitVec 64)) (l0' : List Sum), 1 ≤ c ∧ First (Us us) c.toNat a ∧ PGood L n us' l0' k ∧ (∀ p, Us us' p = if a ≤ p ∧ p < a + c.toNat then true else Us us p) ∧
        ret (.tuple #[.int .i64 (a : Int), .int .i64 0]) (pagesH L n us' (levels k l0') + r) e m' := by
  rw [hs.eq]
  refine F38_fn ?_
  unfold F38
  refine hIf_false rfl (hIf_dec (fun h => .inl ⟨h, ret.mk (Over.refl _)⟩) (fun h => ?_))
  obtain ⟨x, rfl⟩ := Int.eq_ofNat_of_zero_le (a := c) (by omega)
  refine hCall_of (first_does L g x (by omega) hc') ?_
  rintro e m' (⟨hno, rfl, ho⟩ | ⟨a, hf, rfl, ho⟩)
  · refine ⟨_, ho, _, rfl, hIf_pos (by omega) (.inr (.inl ⟨by omega, by simpa using hno, ret.mk (Over.refl _)⟩))⟩
  · refine ⟨_, ho, _, rfl, hIf_neg (by omega) ?_⟩
    have hle : a + x ≤ n := by
      rcases Nat.lt_or_ge n (a + x) with h1 | h1
      · have := hf.1 (a + x - 1) (by omega) (by omega)
        rw [g.tail _ (by omega)] at this; cases this
      · exact h1
    refine hCall_of (set_does L g a x hle true) ?_
    rintro e m' ⟨us', l0', g', hU, rfl, ho⟩
    exact ⟨_, ho, .inr (.inr ⟨a, us', l0', by omega, by simpa using hf, g', by simpa using hU, ret.mk (Over.refl _)⟩)⟩

end Go.Proofs.YtolfcdjbchdkgaaDoor
/- Pages: turn, Free, Counts. Own work. -/
namespace Go.Proofs.YtolfcdjbchdkgaaDoor
open Go Go.Hp
set_option maxRecDepth 100000
attribute [local irreducible] hLoad hStore hNew hInt hQuo hRem hShl hShr hIf hNil hIdx hCut hElem hByte hAppend hMake hCall hYield hGet hPut hDel hNewMap hLoop hLet hAll hRange hRec hEq hCmp bitv W Does HYield

theorem PGood.le64 {L : PL} {n : Nat} {us : List (BitVec 64)} {l0 : List Sum} {k : Nat} (g : PGood L n us l0 k) : n ≤ 64 * us.length := by have := g.chunks; omega
theorem usedI_nat {n : Nat} {us : List (BitVec 64)} {a : Nat} (h : a < n) : usedI n us (a : Int) = Us us a := by
  unfold usedI
  have h1 : ¬ (a : Int) < 0 := by omega
  have h2 : ¬ (n : Int) ≤ a := by omega
  simp [h1, h2]

/-- Some of these pages are not within. -/
def Outside (n : Nat) (base c : Int) : Prop := base < 0 ∨ c < 1 ∨ base ≥ n ∨ c > n - base

theorem pfree_does (L : PL) {n : Nat} {us : List (BitVec 64)} {l0 : List Sum} {k : Nat} (g : PGood L n us l0 k) (base c : Int) {m r r2 : HP} {T : TypeId} {fr : Nat × Nat} [hs : Sub (pagesH L n us (levels k l0)) m r] [Has 0 r (.cells deBc T fr) r2] :
    Does Tryd.prog 40 #[.pointer (some ⟨L.p, 0, none⟩), .int .i64 base, .int .i64 c] m fun e m' =>
      (Outside n base c ∧ ret (.int .i64 1) (pagesH L n us (levels k l0) + r) e m') ∨
      (¬ Outside n base c ∧ (∃ p, base.toNat ≤ p ∧ p < base.toNat + c.toNat ∧ Us us p = false) ∧ ret (.int .i64 5) (pagesH L n us (levels k l0) + r) e m') ∨
      ∃ (us' : List (BitVec 64)) (l0' : List Sum), ¬ Outside n base c ∧ (∀ p, base.toNat ≤ p → p < base.toNat + c.toNat → Us us p = true) ∧ PGood L n us' l0' k ∧
        (∀ p, Us us' p = if base.toNat ≤ p ∧ p < base.toNat + c.toNat then false else Us us p) ∧ ret (.int .i64 0) (pagesH L n us' (levels k l0') + r) e m' := by
  have hnle := g.nle
  rw [hs.eq]
  refine F40_fn ?_
  unfold F40
  refine hCall_of (R := fun e m' => ∃ v, e = .returned (.int .i64 v) ∧ _) (F65_fn (R := fun e m' => ∃ v : Int, e = .returned (.int .i64 v) ∧ (
      (Outside n base c ∧ v = 1 ∧ Over (pagesH L n us (levels k l0) + r) m') ∨
      (¬ Outside n base c ∧ (∃ p, base.toNat ≤ p ∧ p < base.toNat + c.toNat ∧ Us us p = false) ∧ v = 5 ∧ Over (pagesH L n us (levels k l0) + r) m') ∨
      ∃ (us' : List (BitVec 64)) (l0' : List Sum), ¬ Outside n base c ∧ (∀ p, base.toNat ≤ p → p < base.toNat + c.toNat → Us us p = true) ∧ PGood L n us' l0' k ∧
        (∀ p, Us us' p = if base.toNat ≤ p ∧ p < base.toNat + c.toNat then false else Us us p) ∧ v = 0 ∧ Over (pagesH L n us' (levels k l0') + r) m')) ?_) ?_
  · unfold F65
    refine hIf_false rfl ?_
    refine hCall_ret (outside_does L (us := us) (ls := levels k l0) hnle base c) ⟨_, rfl, ?_⟩
    refine hIf_dec (fun h => ⟨_, rfl, .inl ⟨h, rfl, Over.refl _⟩⟩) (fun h => ?_)
    have hin : ¬ Outside n base c := h
    unfold Outside at h
    obtain ⟨b, rfl⟩ := Int.eq_ofNat_of_zero_le (a := base) (by omega)
    obtain ⟨x, rfl⟩ := Int.eq_ofNat_of_zero_le (a := c) (by omega)
    refine hLoop_of (fun d y m' => ∃ a : Nat, b ≤ a ∧ a ≤ b + x ∧ d = b + x - a ∧ y = ((a : Int), ()) ∧ (∀ p, b ≤ p → p < a → Us us p = true) ∧ Over (pagesH L n us (levels k l0) + r) m') ?_ ?_
    · exact ⟨_, b, by omega, by omega, rfl, rfl, fun p _ _ => by omega, Over.refl _⟩
    rintro d y m' ⟨a, ha1, ha2, rfl, rfl, hall, gg, rfl⟩
    refine hAll_of fun _ => ?_
    unfold F65_l6
    dsimp only
    refine hInt_i64 (by omega) (by omega) (hIf_dec (fun h1 => ?_) (fun h1 => ?_))
    · refine hCall_ret (used_does L (ls := levels k l0) g.le64 hnle (a : Int)) ⟨_, rfl, ?_⟩
      rw [usedI_nat (by omega)]
      refine hIf_split (fun h2 => ?_) (fun h2 => ?_)
      · exact ⟨_, rfl, .inr (.inl ⟨hin, ⟨a, by simp; omega, by simp; omega, by simpa using h2⟩, rfl, Over.of _ _⟩)⟩
      · refine hInt_i64 (by omega) (by omega) ⟨b + x - (a + 1), by omega, a + 1, by omega, by omega, rfl, rfl, fun p h3 h4 => ?_, Over.of _ _⟩
        rcases Nat.lt_or_ge p a with h5 | h5
        · exact hall p h3 h5
        · obtain rfl : p = a := by omega
          simpa using h2
    · obtain rfl : a = b + x := by omega
      refine hCall_of (set_does L g b x (by omega) false) ?_
      rintro e m' ⟨us', l0', g', hU, rfl, ho⟩
      refine ⟨_, ho, _, rfl, .inr (.inr ⟨us', l0', hin, by simpa using hall, g', by simpa using hU, rfl, Over.of _ _⟩)⟩
  · rintro e m' ⟨v, rfl, h⟩
    refine ⟨m', Over.refl _, _, rfl, ?_⟩
    rcases h with ⟨h1, rfl, h2⟩ | ⟨h1, h2, rfl, h3⟩ | ⟨us', l0', h1, h2, h3, h4, rfl, h5⟩
    · exact .inl ⟨h1, ret.mk h2⟩
    · exact .inr (.inl ⟨h1, h2, ret.mk h3⟩)
    · exact .inr (.inr ⟨us', l0', h1, h2, h3, h4, ret.mk h5⟩)

/-! ### Counts -/
/-- How many of the first n pages are free. -/
def cntFree (U : Nat → Bool) (n : Nat) : Nat := ((List.range n).filter fun p => !U p).length
theorem cntFree_succ (U : Nat → Bool) (n : Nat) : cntFree U (n + 1) = cntFree U n + if U n then 0 else 1 := by
  unfold cntFree
  rw [List.range_succ, List.filter_append, List.length_append]
  cases h : U n <;> simp [h]
theorem cntFree_free {U : Nat → Bool} {a : Nat} : ∀ j, Free U a (a + j) → cntFree U (a + j) = cntFree U a + j
  | 0, _ => rfl
  | j + 1, h => by
    rw [← Nat.add_assoc, cntFree_succ, cntFree_free j (fun p h1 h2 => h p h1 (by omega)), h (a + j) (by omega) (by omega)]
    simp; omega
theorem cntFree_le (U : Nat → Bool) (n : Nat) : cntFree U n ≤ n := by
  unfold cntFree; have := List.length_filter_le (fun p => !U p) (List.range n); simpa using this
theorem cntFree_min {U : Nat → Bool} {n : Nat} (h : ∀ p, n ≤ p → U p = true) : ∀ j, cntFree U (n + j) = cntFree U n
  | 0 => rfl
  | j + 1 => by rw [← Nat.add_assoc, cntFree_succ, cntFree_min h j, h (n + j) (by omega)]; simp

theorem runs_does (L : PL) {n : Nat} {us : List (BitVec 64)} {l0 : List Sum} {k : Nat} (g : PGood L n us l0 k) (b2 c0 : Nat) {r : HP} (l : Nat) (rc0 : Loop) (hl : IsLoop 32 [(4, .pointer (some ⟨b2, 0, none⟩))] (rangeAt 0 code43) rc0) :
    Does Tryd.prog 82 #[.func (.yield l) #[] #[], .pointer (some ⟨c0, 0, none⟩)]
      (pt l (.loop rc0) + (pt b2 (.cells #[.int .i64 0] 3 (0, 0)) + (pt c0 (.cells #[.pointer (some ⟨L.p, 0, none⟩)] 80 (0, 0)) + (pagesH L n us (levels k l0) + r))))
      fun e m' => (∃ v, e = .returned v) ∧ Over (pt l (.loop (rcNext rc0)) + (pt b2 (.cells #[.int .i64 (cntFree (Us us) n : Nat)] 3 (0, 0)) + (pagesH L n us (levels k l0) + r))) m' := by
  have hnle := g.nle
  refine F82_fn ?_
  unfold F82
  refine hLoad_ptr (by rfl) ?_
  refine hIf_false rfl ?_
  rw [show pt l (.loop rc0) = pt l (.loop (rcNext rc0)) by rw [hl.next]]
  refine hLoop_of (fun d x m' => ∃ a : Nat, a ≤ n + 1 ∧ d = n + 1 - a ∧ x = ((a : Int), ()) ∧
    Over (pt l (.loop (rcNext rc0)) + (pt b2 (.cells #[.int .i64 (cntFree (Us us) a : Nat)] 3 (0, 0)) + (pt c0 (.cells #[.pointer (some ⟨L.p, 0, none⟩)] 80 (0, 0)) + (pagesH L n us (levels k l0) + r)))) m') ?_ ?_
  · exact ⟨_, 0, by omega, rfl, rfl, Over.refl _⟩
  rintro d x m' ⟨a, ha, rfl, rfl, gg, rfl⟩
  refine hAll_of fun _ => ?_
  unfold F82_l2
  dsimp only
  refine hLoad_ptr (by rfl) ?_
  refine hNil_some (hLoad_int (by rfl) ?_)
  refine hIf_dec (fun h => ?_) (fun h => ?_)
  · refine hLoop_of (fun d x m' => ∃ j : Nat, a + j ≤ n ∧ d = n - (a + j) ∧ x = ((j : Int), ()) ∧ Free (Us us) a (a + j) ∧
      Over (pt l (.loop (rcNext rc0)) + (pt b2 (.cells #[.int .i64 (cntFree (Us us) a : Nat)] 3 (0, 0)) + (pt c0 (.cells #[.pointer (some ⟨L.p, 0, none⟩)] 80 (0, 0)) + (pagesH L n us (levels k l0) + r)))) m') ?_ ?_
    · exact ⟨_, 0, by omega, rfl, rfl, fun p _ _ => by omega, Over.of _ _⟩
    rintro d x m' ⟨j, hj, rfl, rfl, hfree, g2, rfl⟩
    refine hAll_of fun _ => ?_
    unfold F82_l5
    dsimp only
    refine hLoad_ptr (by rfl) ?_
    refine hInt_i64 (by omega) (by omega) ?_
    refine hCall_ret (used_does L (ls := levels k l0) g.le64 hnle _) ⟨_, rfl, ?_⟩
    refine hIf_not (hIf_split (fun h1 => ?_) (fun h1 => ?_))
    · have hused : Us us (a + j) = true := by
        rcases Nat.lt_or_ge (a + j) n with h2 | h2
        · have e : ((a : Int) + (j : Int)) = ((a + j : Nat) : Int) := by omega
          rw [e, usedI_nat h2] at h1; exact h1
        · exact g.tail _ h2
      have hc := cntFree_free j hfree
      have hc1 := cntFree_succ (Us us) (a + j)
      rw [hused, hc] at hc1
      simp only [if_true, Nat.add_zero] at hc1
      have hcl := cntFree_le (Us us) a
      refine hIf_dec (fun h2 => ?_) (fun h2 => ?_)
      · refine hYield_of (F43_y0 (rc := rcNext rc0) (y_28 := .int .i64 a) (y_29 := (j : Int)) (R := ret (.bool true) (pt l (.loop (rcNext rc0)) + (pt b2 (.cells #[.int .i64 (cntFree (Us us) a + j : Nat)] 3 (0, 0)) + (pt c0 (.cells #[.pointer (some ⟨L.p, 0, none⟩)] 80 (0, 0)) + (pagesH L n us (levels k l0) + r))))) hl rfl (by rw [HP.add_assoc]) ?_) ?_
        · unfold F43_r0
          refine hAll_of fun _ => hRec_of (hLoad_int (by rfl) (hInt_i64 (by omega) (by omega) (hStore1_0 (hRec_of ?_))))
          rw [show ((cntFree (Us us) a : Nat) : Int) + (j : Int) = ((cntFree (Us us) a + j : Nat) : Int) by omega]
          rw [show rcNext (rcNext rc0) = rcNext rc0 from rfl]
          exact ret.mk (Over.of _ _)
        · rintro e m' ⟨rfl, ho⟩
          refine ⟨_, ho, _, rfl, hIf_false rfl (hInt_i64 (by omega) (by omega) (hInt_i64 (by omega) (by omega) ?_))⟩
          refine ⟨n + 1 - (a + j + 1), by omega, a + j + 1, by omega, rfl, rfl, ?_⟩
          rw [hc1]; exact Over.refl _
      · obtain rfl : j = 0 := by omega
        refine hInt_i64 (by omega) (by omega) (hInt_i64 (by omega) (by omega) ⟨n + 1 - (a + 0 + 1), by omega, a + 0 + 1, by omega, rfl, rfl, ?_⟩)
        rw [hc1]; exact Over.of _ _
    · have hlt : a + j < n := by
        rcases Nat.lt_or_ge (a + j) n with h2 | h2
        · exact h2
        · have : usedI n us ((a : Int) + j) = true := by
            unfold usedI
            have : (n : Int) ≤ (a : Int) + j := by omega
            simp [this]
          rw [this] at h1; cases h1
      have e : ((a : Int) + (j : Int)) = ((a + j : Nat) : Int) := by omega
      rw [e, usedI_nat hlt] at h1
      refine hInt_i64 (by omega) (by omega) ⟨n - (a + (j + 1)), by omega, j + 1, by omega, rfl, rfl, fun p h2 h3 => ?_, Over.of _ _⟩
      rcases Nat.lt_or_ge p (a + j) with h4 | h4
      · exact hfree p h2 h4
      · obtain rfl : p = a + j := by omega
        exact h1
  · refine ⟨⟨_, rfl⟩, ?_⟩
    have : cntFree (Us us) a = cntFree (Us us) n := by
      obtain ⟨j, rfl⟩ : ∃ j, a = n + j := ⟨a - n, by omega⟩
      exact cntFree_min g.tail j
    rw [← this]
    exact Over.of _ _

/-- The longest row of free pages. -/
def Longest (U : Nat → Bool) (x : Nat) : Prop := (∀ a c, Free U a (a + c) → c ≤ x) ∧ ∃ a, Free U a (a + x)
theorem pcounts_does (L : PL) {n : Nat} {us : List (BitVec 64)} {l0 : List Sum} {k : Nat} (g : PGood L n us l0 k) {m r : HP} [hs : Sub (pagesH L n us (levels k l0)) m r] :
    Does Tryd.prog 43 #[.pointer (some ⟨L.p, 0, none⟩)] m fun e m' => ∃ x : Nat, Longest (Us us) x ∧ ret (.tuple #[.int .i64 (cntFree (Us us) n : Nat), .int .i64 (x : Int)]) (pagesH L n us (levels k l0) + r) e m' := by
  have hlv : (levels k l0).length = k := levels_len k l0
  obtain ⟨hLb, hLs⟩ := g.lay
  have hk1 := g.kpos
  have hkle := g.kle
  obtain ⟨st, hst, hsum, hall⟩ := g.topsum
  have hbk : L.bs[k - 1]? = some L.bs[k - 1] := List.getElem?_eq_getElem (by omega)
  have hsk := hLs (k - 1) _ hbk
  obtain ⟨rk, hHk, hpk⟩ := pages_level L n us (levels k l0) hbk (levels_get (by omega))
  have htop := g.top
  have hlong : Longest (Us us) st.most := by
    obtain ⟨a, h1, h2, h3⟩ := hsum.most_at
    refine ⟨fun b c hb => ?_, a, h3⟩
    rcases Nat.eq_zero_or_pos c with rfl | hc
    · omega
    · exact hsum.most b c (by omega) (runFits hb hc) hb
  rw [hs.eq]
  refine F43_fn (fun ch m' h => by obtain ⟨x, _, h, _⟩ := h; cases h) ?_
  unfold F43
  refine hIf_false rfl (hNew_of fun b2 => hStore1_0 ?_)
  refine hCall_of (R := fun e m' => ∃ c0, e = .returned (.func (.func 82) #[] #[.pointer (some ⟨c0, 0, none⟩)]) ∧ m' = pt c0 (.cells #[.pointer (some ⟨L.p, 0, none⟩)] 80 (0, 0)) + (pt b2 (.cells #[.int .i64 0] 3 (0, 0)) + (pagesH L n us (levels k l0) + r)))
    (F66_fn (by unfold F66; exact hNew_of fun c0 => ⟨c0, rfl, rfl⟩)) ?_
  rintro e m' ⟨c0, rfl, rfl⟩
  refine ⟨_, Over.refl _, _, rfl, ?_⟩
  refine hRange_end (pt b2 (.cells #[.int .i64 (cntFree (Us us) n : Nat)] 3 (0, 0)) + (pagesH L n us (levels k l0) + r)) (fun l r' rc0 hl => ?_) (fun l r' rc => ?_)
  · refine ((runs_does L g b2 c0 (r := pt r' (.deferred (some [])) + r) l rc0 hl).from ?_).mono ?_
    · exact ⟨0, by rw [HP.add_zero]; ac_rfl⟩
    · rintro e m3 ⟨h1, h2⟩
      exact ⟨h1, h2.trans' (by ac_rfl)⟩
  · haveI := hHk
    refine hLoad_int (by rfl) (hNil_some (hLoad_add (hLoad_slice (by rfl) (hNil_some (hLoad_add (hLoad_slice (by rfl) ?_))))))
    dsimp only
    refine hInt_i64 (by omega) (by omega) (hIdx_of (by omega) (by omega) ?_)
    refine hLoad_slice (by rw [show 0 + ((((levels k l0).length : Nat) : Int) - 1).toNat * 1 = k - 1 by omega]; exact hsk) ?_
    dsimp only
    refine hIdx_of (by omega) (by omega) ?_
    refine hLoad_add (hLoad_int (x := (st.most : Int)) (by rw [rowsS (i := 0) (j := 1) (by omega) (by omega) hst]; rfl) ?_)
    exact gone ⟨st.most, hlong, ret.mk (Over.of _ _)⟩

end Go.Proofs.YtolfcdjbchdkgaaDoor
/- Rules for append. Own work; nothing of any program. -/
namespace Go.Hp
open Go

theorem blit_get (vs : List Value) : ∀ (c : Array Value) (off i : Nat), off + vs.length ≤ c.size → (blit c off vs)[i]? = if off ≤ i ∧ i < off + vs.length then vs[i - off]? else c[i]? := by
  induction vs with
  | nil => intro c off i _; simp [blit]; omega
  | cons v vs ih =>
    intro c off i h
    simp only [List.length_cons] at h
    simp only [blit]
    rw [ih _ _ _ (by simp; omega)]
    by_cases h1 : off + 1 ≤ i ∧ i < off + 1 + vs.length
    · rw [if_pos h1, if_pos (by simp; omega), show i - off = (i - (off + 1)) + 1 by omega, List.getElem?_cons_succ]
    · rw [if_neg h1, Array.getElem?_setIfInBounds]
      by_cases e : off = i
      · subst e; rw [if_pos rfl, if_pos (by omega), if_pos (by simp), Nat.sub_self]; rfl
      · rw [if_neg e, if_neg (by simp; omega)]

theorem Over.add' {a b c : HP} (h : Over a b) : Over (c + a) (c + b) := by obtain ⟨g, rfl⟩ := h; exact ⟨g, (HP.add_assoc _ _ _).symm⟩
theorem Row.of {b : Nat} {c : Array Value} {T : TypeId} {fr : Nat × Nat} {m r : HP} {o : Nat} {xs : List Value} [h : Has b m (.cells c T fr) r] (hx : ∀ j v, xs[j]? = some v → c[o + j]? = some v) : Row m (some ⟨b, o, none⟩) xs :=
  .inr ⟨_, rfl, c, T, fr, r, h.eq, rfl, hx⟩

section
variable {m : HP}
/-- To a slice that owns its block from the beginning. -/
theorem hAppend_own {size bytes : Nat} {zero : Array Value} {e : TypeId} {b n cap : Nat} {c : Array Value} {r : HP} {x : Sl} {K : Sl → HP → Prop} [h : Has b m (.cells c e (0, 0)) r] (xs : List Value)
    (hl : xs.length = x.n * size) (hx : Row m x.a xs) (h1 : okCells xs = true) (hc : c.size = cap * size) (hn : n ≤ cap) (hz : zero.size = size) (hb : 0 < bytes) (hfit : (n + x.n) * bytes ≤ 140737488355328)
    (hk : ∀ b' cap' c' r', Over r r' → n + x.n ≤ cap' → c'.size = cap' * size → (∀ i, i < n * size → c'[i]? = c[i]?) → (∀ j, j < x.n * size → c'[n * size + j]? = xs[j]?) →
      K ⟨some ⟨b', 0, none⟩, n + x.n, cap'⟩ (pt b' (.cells c' e (0, 0)) + r')) : hAppend size bytes zero e ⟨some ⟨b, 0, none⟩, n, cap⟩ x K m := by
  refine ⟨xs, hl, hx, List.all_eq_true.1 h1, fun hle => ?_, fun hgt => ?_⟩
  · have hle' : n + x.n ≤ cap := hle
    have hm := Nat.mul_le_mul_right size hle'
    rw [Nat.add_mul] at hm
    rcases Nat.eq_zero_or_pos (x.n * size) with h0 | h0
    · refine .inl ⟨List.eq_nil_of_length_eq_zero (by omega), ?_⟩
      rw [h.eq]
      exact hk b cap c r (Over.refl _) hle' hc (fun _ _ => rfl) (fun j hj => by omega)
    · refine .inr ⟨⟨b, n * size, none⟩, by simp [Addr.add_lit], c, e, (0, 0), r, h.eq, rfl, by simp only; omega, fun j hj => by simp, ?_⟩
      refine hk b cap _ r (Over.refl _) hle' (by rw [blit_size, hc]) (fun i hi => ?_) (fun j hj => ?_)
      · rw [blit_get _ _ _ _ (by simp only; omega), if_neg (by simp only; omega)]
      · rw [blit_get _ _ _ _ (by simp only; omega), if_pos (by simp only; omega)]; simp
  · have hgt' : cap < n + x.n := hgt
    have hnc := Nat.mul_le_mul_right size hn
    refine ⟨(c.toList).take (n * size), by simp; omega, Row.of fun j v hj => ?_, by omega, by simpa using growslice_fits hgt' hfit, fun cap' b' hc' => ?_⟩
    · rw [Nat.zero_add]
      rw [List.getElem?_take] at hj
      split at hj
      · simpa using hj
      · cases hj
    · have hc'' : n + x.n ≤ cap' := hc'
      have hsz : (List.take (n * size) c.toList ++ xs).length = (n + x.n) * size := by simp [hl, Nat.add_mul]; omega
      have hzc : (Builtin.zeroCells zero (cap' - (n + x.n))).size = (cap' - (n + x.n)) * size := by simp [Builtin.zeroCells, hz]
      refine hk b' cap' _ m ⟨pt b (.cells c e (0, 0)), by rw [h.eq, HP.add_comm]⟩ hc'' ?_ (fun i hi => ?_) (fun j hj => ?_)
      · rw [Array.size_append, hzc, List.size_toArray, hsz, ← Nat.add_mul]; congr 1; omega
      · rw [Array.getElem?_append_left (by rw [List.size_toArray, hsz, Nat.add_mul]; omega), List.getElem?_toArray, List.getElem?_append_left (by simp; omega), List.getElem?_take, if_pos hi]
        simp
      · rw [Array.getElem?_append_left (by rw [List.size_toArray, hsz, Nat.add_mul]; omega), List.getElem?_toArray, List.getElem?_append_right (by simp; omega)]
        congr 1; simp; omega

/-- To a nil slice. -/
theorem hAppend_nil {size bytes : Nat} {zero : Array Value} {e : TypeId} {x : Sl} {K : Sl → HP → Prop} (xs : List Value)
    (hl : xs.length = x.n * size) (hx : Row m x.a xs) (h1 : okCells xs = true) (h0 : 0 < x.n) (hz : zero.size = size) (hb : 0 < bytes) (hfit : x.n * bytes ≤ 140737488355328)
    (hk : ∀ b' cap' c', x.n ≤ cap' → c'.size = cap' * size → (∀ j, j < x.n * size → c'[j]? = xs[j]?) →
      K ⟨some ⟨b', 0, none⟩, x.n, cap'⟩ (pt b' (.cells c' e (0, 0)) + m)) : hAppend size bytes zero e ⟨none, 0, 0⟩ x K m := by
  refine ⟨xs, hl, hx, List.all_eq_true.1 h1, fun hle => ?_, fun hgt => ?_⟩
  · simp only at hle; omega
  · refine ⟨[], by simp, .inl rfl, by omega, ?_, fun cap' b' hc' => ?_⟩
    · have := growslice_fits (need := 0 + x.n) (old := 0) (bytes := bytes) (by omega) (by simpa using hfit)
      simpa using this
    · simp only [Nat.zero_add, List.nil_append] at hc' ⊢
      have hzc : (Builtin.zeroCells zero (cap' - x.n)).size = (cap' - x.n) * size := by simp [Builtin.zeroCells, hz]
      refine hk b' cap' _ hc' ?_ (fun j hj => ?_)
      · rw [Array.size_append, hzc, List.size_toArray, hl, ← Nat.add_mul]; congr 1; omega
      · rw [Array.getElem?_append_left (by rw [List.size_toArray, hl]; omega), List.getElem?_toArray]
end
end Go.Hp
/- Pages: New. Own work. -/
namespace Go.Proofs.YtolfcdjbchdkgaaDoor
open Go Go.Hp
set_option maxRecDepth 100000
attribute [local irreducible] hLoad hStore hNew hInt hQuo hRem hShl hShr hIf hNil hIdx hCut hElem hByte hAppend hMake hCall hYield hGet hPut hDel hNewMap hLoop hLet hAll hRange hRec hEq hCmp bitv W Does HYield

theorem make_words (K : Nat) : makeCells #[.int .u64 0] (K * 1) = rows wordC (List.replicate K 0#64) := by
  have h := rows_make (f := wordC) (z := 0#64) (by decide) K
  have e : (wordC 0#64).toArray = #[.int .u64 0] := by unfold wordC; rw [← c0]
  rw [e] at h; exact h
theorem make_sums (K : Nat) : makeCells #[.int .i64 0, .int .i64 0, .int .i64 0, .int .i64 0] (K * 4) = rows sumC (List.replicate K Sum.zero) :=
  rows_make (f := sumC) (z := Sum.zero) (by decide) K

theorem foldS_zero (t : Nat) : foldS (List.replicate t Sum.zero) = Sum.zero := by
  induction t with
  | zero => rfl
  | succ t ih => unfold foldS at *; rw [List.replicate_succ, List.foldl_cons]; exact ih
theorem groups_zero (N : Nat) : groups (List.replicate N Sum.zero) = List.replicate ((N + 7) / 8) Sum.zero := by
  apply List.ext_getElem?
  intro i
  by_cases h : i < (N + 7) / 8
  · rw [groups_get _ _ (by simpa using h)]
    have : group (List.replicate N Sum.zero) i = List.replicate (min 8 (N - 8 * i)) Sum.zero := by unfold group; rw [List.drop_replicate, List.take_replicate]
    rw [this, foldS_zero, List.getElem?_replicate, if_pos h]
  · rw [List.getElem?_eq_none (by rw [groups_len]; simpa using h), List.getElem?_eq_none (by simpa using h)]
theorem it_zero (K j : Nat) : it j (List.replicate K Sum.zero) = List.replicate (it j (List.replicate K Sum.zero)).length Sum.zero := by
  induction j with
  | zero => simp [it]
  | succ j ih =>
    simp only [it]
    generalize it j (List.replicate K Sum.zero) = l at ih
    rw [ih, groups_zero]; simp
theorem lvH_snoc : ∀ {bs : List Nat} {ls : List (List Sum)} {b : Nat} {l : List Sum}, bs.length = ls.length → lvH (bs ++ [b]) (ls ++ [l]) = lvH bs ls + pt b (.cells (rows sumC l) 131 (0, 0))
  | [], [], b, l, _ => by simp [lvH]
  | _ :: _, [], _, _, h => by simp at h
  | [], _ :: _, _, _, h => by simp at h
  | b0 :: bs, l0 :: ls, b, l, h => by
    simp only [List.cons_append, lvH]
    rw [lvH_snoc (by simpa using h), HP.add_assoc]
theorem levels_snoc (j : Nat) (l0 : List Sum) : levels (j + 1) l0 = levels j l0 ++ [it j l0] := by simp [levels, List.range_succ]

theorem shl_bits (x : Nat) (b : Nat) (hb : b < 64) : (BitVec.allOnes 64 <<< x).getLsbD b = decide (x ≤ b) := by
  rw [BitVec.getLsbD_shiftLeft, BitVec.getLsbD_allOnes, Bool.eq_iff_iff]
  simp only [Bool.and_eq_true, decide_eq_true_eq, Bool.not_eq_true', decide_eq_false_iff_not]
  omega

/-- The state while the levels are made. -/
def newH (n : Nat) (us : List (BitVec 64)) (b6 b5 : Nat) (a : Option Addr) (j cap : Nat) : HP :=
  pt b6 (.cells #[.int .i64 (n : Int), .slice (some ⟨b5, 0, none⟩) us.length us.length, .slice a j cap] 122 (0, 0)) + pt b5 (.cells (rows wordC us) 105 (0, 0))

theorem pnew_does (n : Int) {m r2 : HP} {T : TypeId} {fr : Nat × Nat} [Has 0 m (.cells deBc T fr) r2] :
    Does Tryd.prog 36 #[.int .i64 n] m fun e m' => (¬ (1 ≤ n ∧ n ≤ 4096) ∧ ret (.tuple #[.pointer none, .int .i64 1]) m e m') ∨
      ∃ (L : PL) (us : List (BitVec 64)) (l0 : List Sum) (k : Nat), (1 ≤ n ∧ n ≤ 4096) ∧ PGood L n.toNat us l0 k ∧ (∀ p, Us us p = decide (n.toNat ≤ p)) ∧
        ret (.tuple #[.pointer (some ⟨L.p, 0, none⟩), .int .i64 0]) (pagesH L n.toNat us (levels k l0) + m) e m' := by
  refine F36_fn ?_
  unfold F36
  refine hIf_dec (fun h => .inl ⟨by omega, ret.mk (Over.refl _)⟩) (fun h1 => hIf_dec (fun h => .inl ⟨by omega, ret.mk (Over.refl _)⟩) (fun h2 => ?_))
  obtain ⟨n, rfl⟩ := Int.eq_ofNat_of_zero_le (a := n) (by omega)
  have hK : ∃ K : Nat, K = (n + 63) / 64 := ⟨_, rfl⟩
  obtain ⟨K, hK⟩ := hK
  refine hInt_i64 (by omega) (by omega) (hInt_i64 (by omega) (by omega) (hQuo_pos (by omega) (by omega) (by omega) ?_))
  rw [show ((n : Int) + 64 - 1) / 64 = (K : Int) by omega]
  refine hMake_of (by omega) (by omega) (by omega) (by omega) fun b5 => hNew_of fun b6 => ?_
  simp only [Int.toNat_natCast]
  rw [make_words]
  refine hLet_of (fun _ m' => ∃ us : List (BitVec 64), us.length = K ∧ (∀ p, Us us p = decide (n ≤ p)) ∧ m' = newH n us b6 b5 none 0 0 + m) ?_ ?_
  · refine hRem_pos (by omega) (by omega) (hIf_ne (fun h => ?_) (fun h => ?_))
    · refine hNil_some (hLoad_add (hLoad_slice (by rfl) (hNil_some (hLoad_add (hLoad_slice (by rfl) ?_)))))
      dsimp only
      refine hInt_i64 (by omega) (by omega) (hRem_pos (by omega) (by omega) ?_)
      rw [cAll]
      refine hShl_W (by omega) (hIdx_of (by omega) (by omega) ?_)
      have hg : (List.replicate K 0#64)[K - 1]? = some 0#64 := by rw [List.getElem?_replicate, if_pos (by omega)]
      have eo : 0 + ((K : Int) - 1).toNat * 1 = (K - 1) * 1 := by omega
      rw [eo]
      have hsz := rowsW_size (List.replicate K 0#64)
      rw [List.length_replicate] at hsz
      refine hStore_at (by omega) ?_
      rw [rowsW_set rfl hg, show ((n : Int) % 64).toNat = n % 64 by omega]
      refine ⟨(List.replicate K 0#64).set (K - 1) (BitVec.allOnes 64 <<< (n % 64)), by simp, fun p => ?_, ?_⟩
      · unfold Us
        rw [List.getElem?_set, List.length_replicate, List.getElem?_replicate]
        by_cases e : K - 1 = p / 64
        · rw [if_pos e, if_pos (by omega)]
          simp only
          rw [shl_bits _ _ (by omega)]
          simp only [decide_eq_decide]; omega
        · rw [if_neg e]
          by_cases h3 : p / 64 < K
          · rw [if_pos h3]; simp; omega
          · rw [if_neg h3]; simp; omega
      · unfold newH; simp only [List.length_set, List.length_replicate]; ac_rfl
    · refine ⟨List.replicate K 0#64, by simp, fun p => ?_, ?_⟩
      · unfold Us
        rw [List.getElem?_replicate]
        by_cases h3 : p / 64 < K
        · rw [if_pos h3]; simp; omega
        · rw [if_neg h3]; simp; omega
      · unfold newH; simp only [List.length_replicate]; ac_rfl
  rintro _ m' ⟨us, hus, hU, rfl⟩
  refine hAll_of fun _ => ?_
  unfold F36_j6
  unfold newH
  refine hNil_some (hLoad_add (hLoad_slice (by rfl) ?_))
  dsimp only
  refine hLoop_of (fun d x m' => ∃ j : Nat, d = (it j (List.replicate K Sum.zero)).length ∧ x = (((it j (List.replicate K Sum.zero)).length : Int), ()) ∧ 1 ≤ (it j (List.replicate K Sum.zero)).length ∧ j + (it j (List.replicate K Sum.zero)).length ≤ 64 ∧
    ((j = 0 ∧ Over (newH n us b6 b5 none 0 0 + m) m') ∨ ∃ (sb cap : Nat) (sc : Array Value) (bs : List Nat), sc.size = cap * 1 ∧ j ≤ cap ∧
      PLok ⟨b6, b5, sb, bs, sc, cap⟩ j (fun i => (it i (List.replicate K Sum.zero)).length) ∧
      Over (newH n us b6 b5 (some ⟨sb, 0, none⟩) j cap + (pt sb (.cells sc 123 (0, 0)) + (lvH bs (levels j (List.replicate K Sum.zero)) + m))) m')) ?_ ?_
  · exact ⟨K, 0, by simp [it], by simp [it, hus], by simp [it]; omega, by simp [it]; omega, .inl ⟨rfl, Over.refl _⟩⟩
  rintro d x m' ⟨j, rfl, rfl, hlen1, hjl, hst⟩
  refine hAll_of fun _ => ?_
  unfold F36_l8
  dsimp only
  generalize hlz : (it j (List.replicate K Sum.zero)).length = lz at hlen1 hjl
  have hitz := it_zero K j
  rw [hlz] at hitz
  -- what comes behind the append
  have next : ∀ (sb cap : Nat) (sc : Array Value) (bs : List Nat) (b25 : Nat) (a : Option Addr) (j0 cap0 : Nat) (m2 : HP), sc.size = cap * 1 → j + 1 ≤ cap →
      PLok ⟨b6, b5, sb, bs, sc, cap⟩ (j + 1) (fun i => (it i (List.replicate K Sum.zero)).length) →
      Over (newH n us b6 b5 a j0 cap0 + (pt sb (.cells sc 123 (0, 0)) + (lvH bs (levels (j + 1) (List.replicate K Sum.zero)) + m))) m2 →
      (hNil (some ⟨b6, 0, none⟩) fun a_30 => hStore (.slice (some ⟨sb, 0, none⟩) (j + 1) cap) (a_30.add 2)
        (hIf ((lz : Int) == 1)
          (hNil (some ⟨b6, 0, none⟩) fun a_31 => hLoad .slice (a_31.add 1) fun (v_32 : Sl) =>
            hLoop (α := Int × Unit) (0, ()) fun x_33 again_34 => hAll fun _ => F36_l11 b6 v_32 x_33.1 again_34 fun e m' => (¬ (1 ≤ (n : Int) ∧ (n : Int) ≤ 4096) ∧ ret (.tuple #[.pointer none, .int .i64 1]) m e m') ∨
              ∃ (L : PL) (us : List (BitVec 64)) (l0 : List Sum) (k : Nat), (1 ≤ (n : Int) ∧ (n : Int) ≤ 4096) ∧ PGood L (n : Int).toNat us l0 k ∧ (∀ p, Us us p = decide ((n : Int).toNat ≤ p)) ∧
                ret (.tuple #[.pointer (some ⟨L.p, 0, none⟩), .int .i64 0]) (pagesH L (n : Int).toNat us (levels k l0) + m) e m')
          (hInt .i64 ((lz : Int) + 7) fun v_38 => hQuo .i64 v_38 8 fun v_39 => fun m' => ∃ k', k' < lz ∧ ∃ j : Nat, k' = (it j (List.replicate K Sum.zero)).length ∧ (v_39, ()) = (((it j (List.replicate K Sum.zero)).length : Int), ()) ∧ 1 ≤ (it j (List.replicate K Sum.zero)).length ∧ j + (it j (List.replicate K Sum.zero)).length ≤ 64 ∧
              ((j = 0 ∧ Over (newH n us b6 b5 none 0 0 + m) m') ∨ ∃ (sb cap : Nat) (sc : Array Value) (bs : List Nat), sc.size = cap * 1 ∧ j ≤ cap ∧
                PLok ⟨b6, b5, sb, bs, sc, cap⟩ j (fun i => (it i (List.replicate K Sum.zero)).length) ∧
                Over (newH n us b6 b5 (some ⟨sb, 0, none⟩) j cap + (pt sb (.cells sc 123 (0, 0)) + (lvH bs (levels j (List.replicate K Sum.zero)) + m))) m')))) m2 := by
    intro sb cap sc bs b25 a j0 cap0 m2 hsc hcap hPL hov
    obtain ⟨g, rfl⟩ := hov
    unfold newH
    refine hNil_some (hStore_add (hStore3_2 ?_))
    refine hIf_eq (fun h => ?_) (fun h => ?_)
    · have hlz1 : lz = 1 := by omega
      refine hNil_some (hLoad_add (hLoad_slice (by rfl) ?_))
      have hpg : ∀ l0 : List Sum, (pagesH ⟨b6, b5, sb, bs, sc, cap⟩ n us (levels (j + 1) l0)) = pt b6 (.cells #[.int .i64 (n : Int), .slice (some ⟨b5, 0, none⟩) us.length us.length, .slice (some ⟨sb, 0, none⟩) (j + 1) cap] 122 (0, 0)) + (pt b5 (.cells (rows wordC us) 105 (0, 0)) + (pt sb (.cells sc 123 (0, 0)) + lvH bs (levels (j + 1) l0))) := fun l0 => by
        unfold pagesH hdC; rw [levels_len]
      refine hLoop_of (fun d x m' => ∃ (i : Nat) (l0 : List Sum), i ≤ K ∧ d = K - i ∧ x = ((i : Int), ()) ∧ l0.length = K ∧ Bnd l0 ∧ (∀ (i' : Nat) (w : BitVec 64) (s : Sum), i' < i → us[i']? = some w → l0[i']? = some s → IsSum w.getLsbD 0 64 s) ∧
        Over (pagesH ⟨b6, b5, sb, bs, sc, cap⟩ n us (levels (j + 1) l0) + m) m') ?_ ?_
      · refine ⟨_, 0, List.replicate K Sum.zero, by omega, rfl, rfl, by simp, fun s hs => ?_, fun i' w s h => by omega, ?_⟩
        · rw [(List.mem_replicate.1 hs).2]; exact ⟨Sum.ok.zero, by simp [Sum.zero]⟩
        · rw [hpg]; exact ⟨g, by ac_rfl⟩
      rintro d x m' ⟨i, l0, hi, rfl, rfl, hl0, hB, hS, g2, rfl⟩
      refine hAll_of fun _ => ?_
      unfold F36_l11
      dsimp only
      have hlay : PLok ⟨b6, b5, sb, bs, sc, cap⟩ (j + 1) (fun i => (it i l0).length) := ⟨hPL.1, fun i b h => by
        have := hPL.2 i b h; dsimp only at this ⊢; rwa [it_len (l' := l0) (by simp [hl0])] at this⟩
      refine hIf_dec (fun h3 => ?_) (fun h3 => ?_)
      · have hi' : i < us.length := by omega
        have hw : us[i]? = some us[i] := List.getElem?_eq_getElem hi'
        refine hCall_of (renew_does ⟨b6, b5, sb, bs, sc, cap⟩ (n := n) (l0 := l0) (k := j + 1) hlay ⟨by omega, by omega⟩ (by omega) (by omega) hB hw) ?_
        rintro e m' ⟨s, hs, rfl, ho⟩
        refine ⟨_, ho, hInt_i64 (by omega) (by omega) ⟨K - (i + 1), by omega, i + 1, l0.set i s, by omega, rfl, rfl, by simp [hl0], hB.set ⟨hs.ok, by rw [hs.all]; omega⟩, fun i' w t h4 h5 h6 => ?_, Over.of _ _⟩⟩
        rw [List.getElem?_set] at h6
        by_cases e : i = i'
        · subst e
          rw [if_pos rfl, if_pos (by omega)] at h6
          rw [hw] at h5
          simp only [Option.some.injEq] at h5 h6; subst h5 h6; exact hs
        · rw [if_neg e] at h6; exact hS i' w t (by omega) h5 h6
      · refine .inr ⟨⟨b6, b5, sb, bs, sc, cap⟩, us, l0, j + 1, ⟨by omega, by omega⟩, ⟨hlay, by omega, by omega, by rw [Int.toNat_natCast]; omega, by rw [Int.toNat_natCast]; omega, by rw [Int.toNat_natCast]; omega, by omega, hB, fun i' w s h5 h6 => ?_, ?_, fun p hp => ?_⟩, by simpa using hU, ?_⟩
        · exact hS i' w s (by have := (List.getElem?_eq_some_iff.1 h5).1; omega) h5 h6
        · rw [show j + 1 - 1 = j by omega, it_len (l' := List.replicate K Sum.zero) (by simp [hl0]), hlz, hlz1]
        · rw [hU]; rw [Int.toNat_natCast] at hp; simpa using hp
        · rw [Int.toNat_natCast]; exact ret.mk (Over.of _ _)
    · have hl2 : (it (j + 1) (List.replicate K Sum.zero)).length = (lz + 7) / 8 := by simp only [it, groups_len, hlz]
      refine hInt_i64 (by omega) (by omega) (hQuo_pos (by omega) (by omega) (by omega) ?_)
      refine ⟨(lz + 7) / 8, by omega, j + 1, hl2.symm, by rw [hl2, show ((lz : Int) + 7) / 8 = (((lz + 7) / 8 : Nat) : Int) by omega], by rw [hl2]; omega, by rw [hl2]; omega, .inr ⟨sb, cap, sc, bs, hsc, hcap, hPL, ?_⟩⟩
      exact ⟨g, by ac_rfl⟩
  rcases hst with ⟨rfl, g, rfl⟩ | ⟨sb, cap, sc, bs, hsc, hcap, hPL, g, rfl⟩
  · unfold newH
    refine hNil_some (hLoad_add (hLoad_slice (by rfl) ?_))
    dsimp only
    refine hMake_of (by omega) (by omega) (by omega) (by omega) fun b25 => ?_
    simp only [Int.toNat_natCast]
    rw [make_sums]
    refine hLoad_add (hLoad_slice (by rfl) ⟨rfl, ?_⟩)
    refine hNew_of fun b27 => ?_
    refine hLoad_add (hLoad_slice (by rfl) ⟨rfl, ?_⟩)
    refine hAppend_nil [.slice (some ⟨b25, 0, none⟩) lz lz] rfl (Row.of (fun j v h => by rw [Nat.zero_add]; simpa using h)) rfl Nat.one_pos rfl (by omega) (by show 1 * 24 ≤ 140737488355328; omega) (fun b' cap' c' hc1 hc2 hc3 => ?_)
    refine next b' cap' c' [b25] b25 none 0 0 _ hc2 hc1 ⟨rfl, fun i b hb => ?_⟩ ?_
    · rcases i with _ | i
      · simp only [List.getElem?_cons_zero, Option.some.injEq] at hb; subst hb
        have := hc3 0 Nat.one_pos
        simp only [hlz]; simpa using this
      · simp at hb
    · have e : lvH [b25] (levels (0 + 1) (List.replicate K Sum.zero)) = pt b25 (.cells (rows sumC (List.replicate lz Sum.zero)) 131 (0, 0)) := by
        rw [levels_snoc, hitz]; simp [levels, lvH]
      rw [e]
      unfold newH
      exact Over.of _ _
  · unfold newH
    refine hNil_some (hLoad_add (hLoad_slice (by rfl) ?_))
    dsimp only
    refine hMake_of (by omega) (by omega) (by omega) (by omega) fun b25 => ?_
    simp only [Int.toNat_natCast]
    rw [make_sums]
    refine hLoad_add (hLoad_slice (by rfl) ⟨rfl, ?_⟩)
    refine hNew_of fun b27 => ?_
    refine hLoad_add (hLoad_slice (by rfl) ⟨rfl, ?_⟩)
    refine hAppend_own [.slice (some ⟨b25, 0, none⟩) lz lz] rfl (Row.of (fun j v h => by rw [Nat.zero_add]; simpa using h)) rfl hsc hcap rfl (by omega) (by show (j + 1) * 24 ≤ 140737488355328; omega) (fun b' cap' c' r' hr' hc1 hc2 hc3 hc4 => ?_)
    refine next b' cap' c' (bs ++ [b25]) b25 (some ⟨sb, 0, none⟩) j cap _ hc2 hc1 ⟨by simp [hPL.1], fun i b hb => ?_⟩ ?_
    · have hbl := hPL.1
      simp only at hbl
      rcases Nat.lt_or_ge i j with hi | hi
      · rw [List.getElem?_append_left (by omega)] at hb
        have h5 := hPL.2 i b hb
        have := hc3 i (by omega)
        simp only at h5 ⊢
        rw [this]; exact h5
      · rw [List.getElem?_append_right (by omega)] at hb
        have hij : i = j := by
          rcases Nat.eq_or_lt_of_le hi with h | h
          · exact h.symm
          · rw [List.getElem?_eq_none (by simp; omega)] at hb; cases hb
        subst hij
        rw [show i - bs.length = 0 by omega] at hb
        simp only [List.getElem?_cons_zero, Option.some.injEq] at hb; subst hb
        have := hc4 0 Nat.one_pos
        simp only [hlz]; simpa using this
    · have e : lvH (bs ++ [b25]) (levels (j + 1) (List.replicate K Sum.zero)) = lvH bs (levels j (List.replicate K Sum.zero)) + pt b25 (.cells (rows sumC (List.replicate lz Sum.zero)) 131 (0, 0)) := by
        rw [levels_snoc, lvH_snoc (by rw [levels_len]; exact hPL.1), hitz]
      rw [e]
      refine Over.trans ?_ (Over.add' hr')
      unfold newH
      exact Over.of _ _

end Go.Proofs.YtolfcdjbchdkgaaDoor
/- Spans: the layout, New, Alloc, Find, Free, Counts. Own work. -/
namespace Go.Proofs.YtolfcdjbchdkgaaDoor
open Go Go.Hp
set_option maxRecDepth 100000
attribute [local irreducible] hLoad hStore hNew hInt hQuo hRem hShl hShr hIf hNil hIdx hCut hElem hByte hAppend hMake hCall hYield hGet hPut hDel hNewMap hLoop hLet hAll hRange hRec hEq hCmp bitv W Does HYield

structure Sp where
  base : Nat
  pages : Nat
  tag : Int
def Sp.zero : Sp := ⟨0, 0, 0⟩
def spC (s : Sp) : List Value := [.int .i64 (s.base : Int), .int .i64 (s.pages : Int), .int .i64 s.tag]
theorem spC_len (s : Sp) : (spC s).length = 3 := rfl
def natC (x : Nat) : List Value := [.int .i64 (x : Int)]
theorem natC_len (x : Nat) : (natC x).length = 1 := rfl
def Sp.val (s : Sp) : Value := .agg #[.int .i64 (s.base : Int), .int .i64 (s.pages : Int), .int .i64 s.tag]
def Sp.has (s : Sp) (p : Nat) : Prop := s.base ≤ p ∧ p < s.base + s.pages

structure LOk (n : Nat) (l : List Sp) : Prop where
  pos : ∀ s ∈ l, 1 ≤ s.pages ∧ s.base + s.pages ≤ n
  sorted : l.Pairwise fun s t => s.base + s.pages ≤ t.base
theorem LOk.apart {n : Nat} {l : List Sp} (h : LOk n l) {s t : Sp} (hs : s ∈ l) (ht : t ∈ l) {p : Nat} (h1 : s.has p) (h2 : t.has p) : s = t := by
  have := h.sorted
  rcases List.mem_iff_getElem.1 hs with ⟨i, hi, rfl⟩
  rcases List.mem_iff_getElem.1 ht with ⟨j, hj, rfl⟩
  rw [List.pairwise_iff_getElem] at this
  obtain ⟨a1, a2⟩ := h1; obtain ⟨b1, b2⟩ := h2
  rcases Nat.lt_trichotomy i j with h3 | h3 | h3
  · have := this i j hi hj h3; omega
  · subst h3; rfl
  · have := this j i hj hi h3; omega

/-- Used pages: those of spans; what there isn't, is. -/
def UL (n : Nat) (l : List Sp) (p : Nat) : Bool := decide (n ≤ p) || l.any fun s => decide (s.base ≤ p ∧ p < s.base + s.pages)
theorem UL_iff {n : Nat} {l : List Sp} {p : Nat} : UL n l p = true ↔ n ≤ p ∨ ∃ s ∈ l, s.has p := by
  unfold UL Sp.has; simp

/-- A span in its place in the list. -/
def insS (s : Sp) : List Sp → List Sp
  | [] => [s]
  | t :: l => if s.base < t.base then s :: t :: l else t :: insS s l
theorem mem_insS {s t : Sp} {l : List Sp} : t ∈ insS s l ↔ t = s ∨ t ∈ l := by
  induction l with
  | nil => simp [insS]
  | cons u l ih =>
    simp only [insS]
    split
    · simp
    · simp only [List.mem_cons, ih]
      constructor
      · rintro (h | h | h) <;> simp [h]
      · rintro (h | h | h) <;> simp [h]
theorem LOk.ins {n : Nat} {l : List Sp} (h : LOk n l) {s : Sp} (h1 : 1 ≤ s.pages) (h2 : s.base + s.pages ≤ n) (hf : ∀ p, s.has p → ∀ t ∈ l, ¬ t.has p) : LOk n (insS s l) := by
  refine ⟨fun t ht => ?_, ?_⟩
  · rcases mem_insS.1 ht with rfl | ht
    · exact ⟨h1, h2⟩
    · exact h.pos t ht
  · have hs := h.sorted
    have hp := fun t ht => (h.pos t ht).1
    clear h
    induction l with
    | nil => simp [insS]
    | cons t l ih =>
      simp only [insS]
      have ht := hp t (by simp)
      have apart : s.base + s.pages ≤ t.base ∨ t.base + t.pages ≤ s.base := by
        rcases Nat.lt_or_ge t.base (s.base + s.pages) with h3 | h3
        · rcases Nat.lt_or_ge s.base (t.base + t.pages) with h4 | h4
          · rcases Nat.le_total s.base t.base with h5 | h5
            · exact absurd ⟨Nat.le_refl _, by omega⟩ (hf t.base ⟨h5, by omega⟩ t (by simp))
            · exact absurd ⟨h5, by omega⟩ (hf s.base ⟨Nat.le_refl _, by omega⟩ t (by simp))
          · exact .inr h4
        · exact .inl h3
      have hs' := List.pairwise_cons.1 hs
      split
      · rename_i hlt
        refine List.pairwise_cons.2 ⟨fun u hu => ?_, hs⟩
        rcases List.mem_cons.1 hu with rfl | hu
        · omega
        · have := hs'.1 u hu; omega
      · rename_i hge
        refine List.pairwise_cons.2 ⟨fun u hu => ?_, ih (fun p h3 u hu => hf p h3 u (by simp [hu])) hs'.2 (fun u hu => hp u (by simp [hu]))⟩
        rcases mem_insS.1 hu with rfl | hu
        · omega
        · exact hs'.1 u hu
theorem UL_ins {n : Nat} {l : List Sp} {s : Sp} (p : Nat) : UL n (insS s l) p = if s.base ≤ p ∧ p < s.base + s.pages then true else UL n l p := by
  rw [Bool.eq_iff_iff]
  split
  · rename_i h
    simp only [iff_true]
    exact UL_iff.2 (.inr ⟨s, mem_insS.2 (.inl rfl), h⟩)
  · rename_i h
    rw [UL_iff, UL_iff]
    constructor
    · rintro (h1 | ⟨t, ht, h2⟩)
      · exact .inl h1
      · rcases mem_insS.1 ht with rfl | ht
        · exact absurd h2 h
        · exact .inr ⟨t, ht, h2⟩
    · rintro (h1 | ⟨t, ht, h2⟩)
      · exact .inl h1
      · exact .inr ⟨t, mem_insS.2 (.inr ht), h2⟩

/-- Without the span that begins here. -/
def delS (b : Nat) (l : List Sp) : List Sp := l.filter fun s => s.base != b
theorem mem_delS {b : Nat} {t : Sp} {l : List Sp} : t ∈ delS b l ↔ t ∈ l ∧ t.base ≠ b := by simp [delS]
theorem LOk.del {n : Nat} {l : List Sp} (h : LOk n l) (b : Nat) : LOk n (delS b l) :=
  ⟨fun s hs => h.pos s (mem_delS.1 hs).1, h.sorted.sublist List.filter_sublist⟩
theorem UL_del {n : Nat} {l : List Sp} (h : LOk n l) {s : Sp} (hs : s ∈ l) (p : Nat) : UL n (delS s.base l) p = if s.base ≤ p ∧ p < s.base + s.pages then false else UL n l p := by
  have hp := h.pos s hs
  rw [Bool.eq_iff_iff]
  split
  · rename_i h1
    simp only [Bool.false_eq_true, iff_false]
    intro h2
    rcases UL_iff.1 h2 with h3 | ⟨t, ht, h3⟩
    · omega
    · obtain ⟨h4, h5⟩ := mem_delS.1 ht
      exact h5 (congrArg Sp.base (h.apart h4 hs h3 h1))
  · rename_i h1
    rw [UL_iff, UL_iff]
    constructor
    · rintro (h2 | ⟨t, ht, h2⟩)
      · exact .inl h2
      · exact .inr ⟨t, (mem_delS.1 ht).1, h2⟩
    · rintro (h2 | ⟨t, ht, h2⟩)
      · exact .inl h2
      · refine .inr ⟨t, mem_delS.2 ⟨ht, fun e => ?_⟩, h2⟩
        have := h.pos t ht
        have : t = s := h.apart ht hs (p := s.base) ⟨by omega, by omega⟩ ⟨by omega, by omega⟩
        subst this; exact h1 h2

/-! ### The layout -/
structure TL where
  t : Nat
  sb : Nat
  ob : Nat
  L : PL

structure SGood (T : TL) (n : Nat) (l : List Sp) (us : List (BitVec 64)) (l0 : List Sum) (k : Nat) (S : List Sp) (O : List Nat) : Prop where
  g : PGood T.L n us l0 k
  slen : S.length = n
  olen : O.length = n
  ok : LOk n l
  used : Us us = UL n l
  at_ : ∀ s ∈ l, S[s.base]? = some s ∧ ∀ p, s.has p → O[p]? = some s.base
  none_ : ∀ p, p < n → (∀ s ∈ l, s.base ≠ p) → S[p]? = some Sp.zero

def thC (T : TL) (n : Nat) : Array Value := #[.pointer (some ⟨T.L.p, 0, none⟩), .slice (some ⟨T.sb, 0, none⟩) n n, .slice (some ⟨T.ob, 0, none⟩) n n]
def spanX (T : TL) (n : Nat) (us : List (BitVec 64)) (ls : List (List Sum)) (S : List Sp) (O : List Nat) : HP :=
  pt T.t (.cells (thC T n) 84 (0, 0)) + (pt T.sb (.cells (rows spC S) 34 (0, 0)) + (pt T.ob (.cells (rows natC O) 3 (0, 0)) + pagesH T.L n us ls))
/-- A table of spans: what it holds. -/
def SpanAt (T : TL) (n : Nat) (l : List Sp) (X : HP) : Prop := ∃ us l0 k S O, SGood T n l us l0 k S O ∧ X = spanX T n us (levels k l0) S O

theorem rowsSp {S : List Sp} {i j o : Nat} {s : Sp} (hj : j < 3) (ho : o = i * 3 + j) (h : S[i]? = some s) : (rows spC S)[o]? = (spC s)[j]? := rows_get spC_len hj ho h
theorem rowsN {O : List Nat} {i o : Nat} {x : Nat} (ho : o = i * 1) (h : O[i]? = some x) : (rows natC O)[o]? = some (.int .i64 (x : Int)) := by
  rw [rows_get natC_len (i := i) (j := 0) (by omega) (by omega) h]; rfl
theorem rowsN_set {O : List Nat} {i o x y : Nat} (ho : o = i * 1) (h : O[i]? = some x) : (rows natC O).setIfInBounds o (.int .i64 (y : Int)) = rows natC (O.set i y) :=
  rows_set (j := 0) natC_len (by omega) (by omega) h rfl
theorem rows_set3 {α : Type} {f : α → List Value} (hf : ∀ x, (f x).length = 3) {l : List α} {i o : Nat} {x s : α} {v0 v1 v2 : Value} (hx : l[i]? = some x) (ho : o = i * 3) (hs : f s = [v0, v1, v2]) :
    (((rows f l).setIfInBounds o v0).setIfInBounds (o + 1) v1).setIfInBounds (o + 2) v2 = rows f (l.set i s) := by
  have key : ∀ (l : List α) (i : Nat), l[i]? = some x → (((l.flatMap f).set (i * 3) v0).set (i * 3 + 1) v1).set (i * 3 + 2) v2 = (l.set i s).flatMap f := by
    intro l
    induction l with
    | nil => intro i h; simp at h
    | cons y l ih =>
      intro i h
      cases i with
      | zero =>
        simp only [List.getElem?_cons_zero, Option.some.injEq] at h; subst h
        have := hf y
        simp only [List.flatMap_cons, List.set_cons_zero, hs]
        match hfy : f y, this with
        | [a, b, c], _ => simp
      | succ i =>
        simp only [List.getElem?_cons_succ] at h
        simp only [List.flatMap_cons, List.set_cons_succ]
        have e := hf y
        rw [List.set_append_right _ _ (by omega), List.set_append_right _ _ (by omega), List.set_append_right _ _ (by omega)]
        rw [e, show (i + 1) * 3 - 3 = i * 3 by omega, show (i + 1) * 3 + 1 - 3 = i * 3 + 1 by omega, show (i + 1) * 3 + 2 - 3 = i * 3 + 2 by omega, ih i h]
  subst ho
  simp only [rows, List.setIfInBounds_toArray]
  rw [key l i hx]

/-! ### Find -/
/-- The span in which a page lies. -/
def findS (l : List Sp) (p : Int) : Option Sp := l.find? fun s => decide ((s.base : Int) ≤ p ∧ p < s.base + s.pages)
theorem findS_mem {l : List Sp} {p : Int} {s : Sp} (h : findS l p = some s) : s ∈ l ∧ (s.base : Int) ≤ p ∧ p < s.base + s.pages := by
  have h1 := List.mem_of_find?_eq_some h
  have h2 := List.find?_some h
  simp only [decide_eq_true_eq] at h2
  exact ⟨h1, h2⟩
theorem findS_eq {n : Nat} {l : List Sp} (h : LOk n l) {p : Nat} {s : Sp} (hs : s ∈ l) (hp : s.has p) : findS l (p : Int) = some s := by
  cases hf : findS l (p : Int) with
  | none =>
    have := List.find?_eq_none.1 hf s hs
    simp only [decide_eq_true_eq] at this
    obtain ⟨h1, h2⟩ := hp
    exact absurd ⟨by omega, by omega⟩ this
  | some t =>
    obtain ⟨h1, h2, h3⟩ := findS_mem hf
    rw [h.apart h1 hs ⟨by omega, by omega⟩ hp]
theorem findS_none {n : Nat} {l : List Sp} (h : LOk n l) {p : Int} (hp : p < 0 ∨ (n : Int) ≤ p ∨ UL n l p.toNat = false) : findS l p = none := by
  cases hf : findS l p with
  | none => rfl
  | some s =>
    obtain ⟨h1, h2, h3⟩ := findS_mem hf
    have := h.pos s h1
    rcases hp with hp | hp | hp
    · omega
    · omega
    · have : UL n l p.toNat = true := UL_iff.2 (.inr ⟨s, h1, by omega, by omega⟩)
      rw [hp] at this; cases this

/-- What Find answers. -/
def foundV (o : Option Sp) : Value := .tuple #[(o.getD Sp.zero).val, .bool o.isSome]

theorem sfind_does {T : TL} {n : Nat} {l : List Sp} {X : HP} (h : SpanAt T n l X) (page : Int) {m r : HP} [hs : Sub X m r] :
    Does Tryd.prog 15 #[.pointer (some ⟨T.t, 0, none⟩), .int .i64 page] m (ret (foundV (findS l page)) (X + r)) := by
  obtain ⟨us, l0, k, S, O, G, rfl⟩ := h
  have hnle := G.g.nle
  have hol := G.olen
  have hsl := G.slen
  rw [hs.eq]
  refine F15_fn ?_
  unfold F15
  refine hNew_of fun b3 => hIf_false rfl (hIf_dec (fun h1 => ?_) (fun h1 => ?_))
  · rw [findS_none G.ok (.inl h1)]
    repeat' first
      | refine hStore3_0 ?_
      | refine hStore3_1 ?_
      | refine hStore3_2 ?_
      | refine hLoad_int (by rfl) ?_
    exact ret.mk (Over.of _ _)
  unfold spanX
  refine hNil_some (hLoad_add (hLoad_slice (by rfl) ?_))
  dsimp only
  refine hIf_dec (fun h2 => ?_) (fun h2 => ?_)
  · rw [findS_none G.ok (.inr (.inl h2))]
    repeat' first
      | refine hStore3_0 ?_
      | refine hStore3_1 ?_
      | refine hStore3_2 ?_
      | refine hLoad_int (by rfl) ?_
    exact ret.mk (Over.of _ _)
  obtain ⟨p, rfl⟩ := Int.eq_ofNat_of_zero_le (a := page) (by omega)
  refine hNil_some (hLoad_ptr (by rfl) ?_)
  refine hCall_ret (used_does T.L (n := n) (us := us) (ls := levels k l0) G.g.le64 hnle _) ⟨_, rfl, ?_⟩
  rw [usedI_nat (by omega), G.used]
  refine hIf_not (hIf_split (fun h3 => ?_) (fun h3 => ?_))
  · rcases UL_iff.1 h3 with h4 | ⟨s, hs1, hs2⟩
    · omega
    obtain ⟨h5, h6⟩ := G.at_ s hs1
    have h7 := h6 p hs2
    have hpos := G.ok.pos s hs1
    rw [findS_eq G.ok hs1 hs2]
    refine hNil_some (hLoad_add (hLoad_slice (by rfl) (hNil_some (hLoad_add (hLoad_slice (by rfl) ?_)))))
    dsimp only
    refine hIdx_of (by omega) (by omega) ?_
    refine hLoad_int (rowsN (i := p) (by omega) h7) ?_
    refine hIdx_of (by omega) (by omega) ?_
    have e0 : 0 + (s.base : Int).toNat * 3 = s.base * 3 := by omega
    rw [e0]
    refine hLoad_int (rowsSp (j := 0) (by omega) (by omega) h5) ?_
    refine hLoad_add (hLoad_int (rowsSp (j := 1) (by omega) (by omega) h5) ?_)
    refine hLoad_add (hLoad_int (rowsSp (j := 2) (by omega) (by omega) h5) ?_)
    repeat' first
      | refine hStore3_0 ?_
      | refine hStore3_1 ?_
      | refine hStore3_2 ?_
      | refine hLoad_int (by rfl) ?_
    exact ret.mk (Over.of _ _)
  · rw [findS_none G.ok (.inr (.inr (by simpa using h3)))]
    repeat' first
      | refine hStore3_0 ?_
      | refine hStore3_1 ?_
      | refine hStore3_2 ?_
      | refine hLoad_int (by rfl) ?_
    exact ret.mk (Over.of _ _)

end Go.Proofs.YtolfcdjbchdkgaaDoor
/- Spans: Alloc, Free, Counts, New. Own work. -/
namespace Go.Proofs.YtolfcdjbchdkgaaDoor
open Go Go.Hp
set_option maxRecDepth 100000
attribute [local irreducible] hLoad hStore hNew hInt hQuo hRem hShl hShr hIf hNil hIdx hCut hElem hByte hAppend hMake hCall hYield hGet hPut hDel hNewMap hLoop hLet hAll hRange hRec hEq hCmp bitv W Does HYield

theorem rowsN_size (O : List Nat) : (rows natC O).size = O.length * 1 := rows_size natC_len O
theorem rowsSp_size (S : List Sp) : (rows spC S).size = S.length * 3 := rows_size spC_len S

/-- The owners after c pages from a on are marked. -/
def ownSet (O : List Nat) (a : Nat) : Nat → List Nat
  | 0 => O
  | c + 1 => (ownSet O a c).set (a + c) a
theorem ownSet_len (O : List Nat) (a c : Nat) : (ownSet O a c).length = O.length := by
  induction c with
  | zero => rfl
  | succ c ih => simp [ownSet, ih]
theorem ownSet_get {O : List Nat} {a c p : Nat} (h : a + c ≤ O.length) : (ownSet O a c)[p]? = if a ≤ p ∧ p < a + c then some a else O[p]? := by
  induction c with
  | zero => rw [if_neg (by omega)]; rfl
  | succ c ih =>
    simp only [ownSet]
    rw [List.getElem?_set, ih (by omega), ownSet_len]
    by_cases e : a + c = p
    · rw [if_pos e, if_pos (by omega), if_pos (by omega)]
    · rw [if_neg e]
      by_cases h1 : a ≤ p ∧ p < a + c
      · rw [if_pos h1, if_pos (by omega)]
      · rw [if_neg h1, if_neg (by omega)]

def zeroSp : Value := .agg #[.int .i64 0, .int .i64 0, .int .i64 0]

theorem salloc_does {T : TL} {n : Nat} {l : List Sp} {X : HP} (h : SpanAt T n l X) (c tag : Int) (hc : c ≤ 9223372036854775807) {m r r2 : HP} {Tt : TypeId} {fr : Nat × Nat} [hs : Sub X m r] [Has 0 r (.cells deBc Tt fr) r2] :
    Does Tryd.prog 11 #[.pointer (some ⟨T.t, 0, none⟩), .int .i64 c, .int .i64 tag] m fun e m' =>
      (c < 1 ∧ ret (.tuple #[zeroSp, .int .i64 1]) (X + r) e m') ∨ (1 ≤ c ∧ Nowhere (UL n l) c.toNat ∧ ret (.tuple #[zeroSp, .int .i64 3]) (X + r) e m') ∨
      ∃ (a : Nat) (X' : HP), 1 ≤ c ∧ First (UL n l) c.toNat a ∧ SpanAt T n (insS ⟨a, c.toNat, tag⟩ l) X' ∧ ret (.tuple #[.agg #[.int .i64 (a : Int), .int .i64 c, .int .i64 tag], .int .i64 0]) (X' + r) e m' := by
  obtain ⟨us, l0, k, S, O, G, rfl⟩ := h
  have hnle := G.g.nle
  have hol := G.olen
  have hsl := G.slen
  rw [hs.eq]
  refine F11_fn ?_
  unfold F11
  refine hNew_of fun b4 => hIf_false rfl ?_
  unfold spanX
  refine hNil_some (hLoad_ptr (by rfl) ?_)
  refine hCall_of (palloc_does T.L G.g c hc) ?_
  rintro e m' (⟨h1, rfl, ho⟩ | ⟨h1, h2, rfl, ho⟩ | ⟨a, us', l0', h1, hf, g', hU, rfl, ho⟩)
  · refine ⟨_, ho, _, _, rfl, hIf_neT (by omega) ?_⟩
    repeat' first
      | refine hStore3_0 ?_
      | refine hStore3_1 ?_
      | refine hStore3_2 ?_
      | refine hLoad_int (by rfl) ?_
    exact .inl ⟨h1, ret.mk (Over.of _ _)⟩
  · refine ⟨_, ho, _, _, rfl, hIf_neT (by omega) ?_⟩
    repeat' first
      | refine hStore3_0 ?_
      | refine hStore3_1 ?_
      | refine hStore3_2 ?_
      | refine hLoad_int (by rfl) ?_
    exact .inr (.inl ⟨h1, by rw [← G.used]; exact h2, ret.mk (Over.of _ _)⟩)
  · obtain ⟨x, rfl⟩ := Int.eq_ofNat_of_zero_le (a := c) (by omega)
    rw [Int.toNat_natCast] at hf hU
    have hle : a + x ≤ n := by
      rcases Nat.lt_or_ge n (a + x) with h3 | h3
      · have := hf.1 (a + x - 1) (by omega) (by omega)
        rw [G.g.tail _ (by omega)] at this; cases this
      · exact h3
    refine ⟨_, ho, _, _, rfl, hIf_neF rfl (hNew_of fun b16 => hStore3_0 (hStore3_1 (hStore3_2 ?_)))⟩
    refine hNil_some (hLoad_add (hLoad_slice (by rfl) ?_))
    dsimp only
    refine hLoad_int (by rfl) (hLoad_int (by rfl) (hLoad_int (by rfl) ?_))
    refine hIdx_of (by omega) (by omega) ?_
    have e0 : 0 + (a : Int).toNat * 3 = a * 3 := by omega
    rw [e0]
    have hsz := rowsSp_size S
    have hSa : S[a]? = some S[a] := List.getElem?_eq_getElem (by omega)
    refine hStore_at (by omega) ?_
    refine hStore_add (hStore_at (by simp; omega) ?_)
    refine hStore_add (hStore_at (by simp; omega) ?_)
    rw [rows_set3 (i := a) (s := ⟨a, x, tag⟩) spC_len hSa rfl rfl]
    refine hLoop_of (fun d y m' => ∃ i : Nat, i ≤ x ∧ d = x - i ∧ y = ((i : Int), ()) ∧
      Over (pt b16 (.cells #[.int .i64 (a : Int), .int .i64 (x : Int), .int .i64 tag] 34 (0, 0)) + (pt b4 (.cells #[.int .i64 0, .int .i64 0, .int .i64 0] 34 (0, 0)) + (spanX T n us' (levels k l0') (S.set a ⟨a, x, tag⟩) (ownSet O a i) + r))) m') ?_ ?_
    · refine ⟨_, 0, by omega, rfl, rfl, ?_⟩
      unfold spanX ownSet
      exact Over.of _ _
    rintro d y m' ⟨i, hi, rfl, rfl, gg, rfl⟩
    refine hAll_of fun _ => ?_
    unfold F11_l9
    dsimp only
    unfold spanX
    refine hIf_dec (fun h3 => ?_) (fun h3 => ?_)
    · refine hNil_some (hLoad_add (hLoad_slice (by rfl) ?_))
      dsimp only
      refine hInt_i64 (by omega) (by omega) (hIdx_of (by omega) (by omega) ?_)
      have hl := ownSet_len O a i
      have hsz2 := rowsN_size (ownSet O a i)
      have hg : (ownSet O a i)[a + i]? = some (ownSet O a i)[a + i] := List.getElem?_eq_getElem (by omega)
      have e1 : 0 + ((a : Int) + (i : Int)).toNat * 1 = (a + i) * 1 := by omega
      rw [e1]
      refine hStore_at (by omega) ?_
      rw [rowsN_set rfl hg]
      refine hInt_i64 (by omega) (by omega) ⟨x - (i + 1), by omega, i + 1, by omega, rfl, rfl, ?_⟩
      show Over (_ + (_ + (_ + (_ + (pt T.ob (.cells (rows natC ((ownSet O a i).set (a + i) a)) 3 (0, 0)) + _)) + _))) _
      exact Over.of _ _
    · obtain rfl : i = x := by omega
      repeat' first
        | refine hLoad_int (by rfl) ?_
        | refine hStore3_0 ?_
        | refine hStore3_1 ?_
        | refine hStore3_2 ?_
      have hfr : ∀ p, a ≤ p → p < a + i → ∀ t ∈ l, ¬ t.has p := fun p h4 h5 t ht h6 => by
        have := hf.1 p h4 h5
        rw [G.used] at this
        have h7 : UL n l p = true := UL_iff.2 (.inr ⟨t, ht, h6⟩)
        rw [this] at h7; cases h7
      refine .inr (.inr ⟨a, spanX T n us' (levels k l0') (S.set a ⟨a, i, tag⟩) (ownSet O a i), by omega, by rw [← G.used]; exact hf, ?_, ?_⟩)
      · refine ⟨us', l0', k, _, _, ⟨g', by simp [hsl], by rw [ownSet_len]; exact hol, G.ok.ins (by simp only; omega) (by simp only; omega) (fun p h4 => hfr p h4.1 h4.2), ?_, ?_, ?_⟩, rfl⟩
        · funext p
          rw [hU, G.used, UL_ins]
          simp only [Int.toNat_natCast]
        · intro s hs
          rcases mem_insS.1 hs with rfl | hs
          · simp only [Int.toNat_natCast]
            refine ⟨by rw [List.getElem?_set, if_pos rfl, if_pos (by omega)], fun p hp => ?_⟩
            rw [ownSet_get (by omega), if_pos (show a ≤ p ∧ p < a + i from hp)]
          · obtain ⟨h4, h5⟩ := G.at_ s hs
            have hpos := G.ok.pos s hs
            refine ⟨?_, fun p hp => ?_⟩
            · rw [List.getElem?_set, if_neg (fun e => hfr a (by omega) (by omega) s hs ⟨by omega, by omega⟩)]; exact h4
            · rw [ownSet_get (by omega), if_neg (fun e => hfr p e.1 e.2 s hs hp)]; exact h5 p hp
        · intro p hp hno
          have h4 := hno _ (mem_insS.2 (.inl rfl))
          simp only at h4
          rw [List.getElem?_set, if_neg h4]
          exact G.none_ p hp fun s hs => hno s (mem_insS.2 (.inr hs))
      · unfold spanX
        exact ret.mk (Over.of _ _)

/-! ### Free -/
theorem sfree_does {T : TL} {n : Nat} {l : List Sp} {X : HP} (h : SpanAt T n l X) (base : Int) {m r r2 : HP} {Tt : TypeId} {fr : Nat × Nat} [hs : Sub X m r] [Has 0 r (.cells deBc Tt fr) r2] :
    Does Tryd.prog 13 #[.pointer (some ⟨T.t, 0, none⟩), .int .i64 base] m fun e m' =>
      ((∀ s ∈ l, (s.base : Int) ≠ base) ∧ ret (.int .i64 4) (X + r) e m') ∨
      ∃ (s : Sp) (X' : HP), s ∈ l ∧ (s.base : Int) = base ∧ SpanAt T n (delS s.base l) X' ∧ ret (.int .i64 0) (X' + r) e m' := by
  have hfd := @sfind_does T n l X h base m r hs
  obtain ⟨us, l0, k, S, O, G, rfl⟩ := h
  have hnle := G.g.nle
  have hol := G.olen
  have hsl := G.slen
  refine F13_fn ?_
  unfold F13
  refine hIf_false rfl (hCall_ret hfd ⟨_, _, _, _, rfl, ?_⟩)
  refine hNew_of fun b8 => hStore3_0 (hStore3_1 (hStore3_2 ?_))
  cases hf : findS l base with
  | none =>
    refine hIf_true rfl (.inl ⟨fun s hs e => ?_, ret.mk (Over.of _ _)⟩)
    have := G.ok.pos s hs
    rw [← e, findS_eq G.ok hs ⟨Nat.le_refl _, by omega⟩] at hf; cases hf
  | some s =>
    obtain ⟨hs1, hs2, hs3⟩ := findS_mem hf
    have hpos := G.ok.pos s hs1
    refine hIf_false rfl ?_
    simp only [Option.getD_some]
    refine hLoad_int (by rfl) (hIf_ne (fun h1 => ?_) (fun h1 => ?_))
    · refine .inl ⟨fun t ht e => ?_, ret.mk (Over.of _ _)⟩
      have hp := G.ok.pos t ht
      rw [← e, findS_eq G.ok ht ⟨Nat.le_refl _, by omega⟩] at hf
      simp only [Option.some.injEq] at hf; subst hf; exact h1 e
    subst h1
    unfold spanX
    refine hNil_some (hLoad_add (hLoad_slice (by rfl) ?_))
    dsimp only
    refine hIdx_of (by omega) (by omega) ?_
    have e0 : 0 + (s.base : Int).toNat * 3 = s.base * 3 := by omega
    rw [e0]
    have hsz := rowsSp_size S
    obtain ⟨h5, h6⟩ := G.at_ s hs1
    refine hStore_at (by omega) ?_
    refine hStore_add (hStore_at (by simp; omega) ?_)
    refine hStore_add (hStore_at (by simp; omega) ?_)
    rw [rows_set3 (i := s.base) (s := Sp.zero) (v0 := .int .i64 0) (v1 := .int .i64 0) (v2 := .int .i64 0) spC_len h5 rfl rfl]
    refine hNil_some (hLoad_ptr (by rfl) (hLoad_int (by rfl) ?_))
    refine hCall_of (pfree_does T.L G.g _ _) ?_
    have hin : ¬ Outside n (s.base : Int) (s.pages : Int) := by unfold Outside; omega
    rintro e m' (⟨h7, _⟩ | ⟨_, ⟨p, h7, h8, h9⟩, _⟩ | ⟨us', l0', _, _, g', hU, rfl, ho⟩)
    · exact absurd h7 hin
    · simp only [Int.toNat_natCast] at h7 h8
      have : UL n l p = true := UL_iff.2 (.inr ⟨s, hs1, h7, h8⟩)
      rw [← G.used, h9] at this; cases this
    · simp only [Int.toNat_natCast] at hU
      refine ⟨_, ho, _, rfl, .inr ⟨s, spanX T n us' (levels k l0') (S.set s.base Sp.zero) O, hs1, rfl, ?_, ?_⟩⟩
      · refine ⟨us', l0', k, _, _, ⟨g', by simp [hsl], hol, G.ok.del _, ?_, ?_, ?_⟩, rfl⟩
        · funext p
          rw [hU, G.used, UL_del G.ok hs1]
        · intro t ht
          obtain ⟨h7, h8⟩ := mem_delS.1 ht
          obtain ⟨h9, h10⟩ := G.at_ t h7
          exact ⟨by rw [List.getElem?_set, if_neg (Ne.symm h8)]; exact h9, h10⟩
        · intro p hp hno
          rw [List.getElem?_set]
          by_cases e : s.base = p
          · rw [if_pos e, if_pos (by omega)]
          · rw [if_neg e]
            refine G.none_ p hp fun t ht e' => ?_
            by_cases e2 : t.base = s.base
            · omega
            · exact hno t (mem_delS.2 ⟨ht, e2⟩) e'
      · unfold spanX
        exact ret.mk (Over.of _ _)

/-! ### Counts -/
theorem scounts_does {T : TL} {n : Nat} {l : List Sp} {X : HP} (h : SpanAt T n l X) {m r : HP} [hs : Sub X m r] :
    Does Tryd.prog 17 #[.pointer (some ⟨T.t, 0, none⟩)] m fun e m' => ∃ x : Nat, Longest (UL n l) x ∧ ret (.tuple #[.int .i64 (cntFree (UL n l) n : Nat), .int .i64 (x : Int)]) (X + r) e m' := by
  obtain ⟨us, l0, k, S, O, G, rfl⟩ := h
  rw [hs.eq]
  refine F17_fn ?_
  unfold F17
  refine hIf_false rfl ?_
  unfold spanX
  refine hNil_some (hLoad_ptr (by rfl) ?_)
  refine hCall_of (pcounts_does T.L G.g) ?_
  rintro e m' ⟨x, hx, rfl, ho⟩
  rw [G.used] at hx
  refine ⟨_, ho, _, _, rfl, x, hx, ?_⟩
  rw [G.used]
  exact ret.mk (Over.of _ _)

/-! ### New -/
theorem make_sp (K : Nat) : makeCells #[.int .i64 0, .int .i64 0, .int .i64 0] (K * 3) = rows spC (List.replicate K Sp.zero) :=
  rows_make (f := spC) (z := Sp.zero) (by decide) K
theorem make_nat (K : Nat) : makeCells #[.int .i64 0] (K * 1) = rows natC (List.replicate K 0) :=
  rows_make (f := natC) (z := 0) (by decide) K

theorem snew_does (n : Int) {m r2 : HP} {T : TypeId} {fr : Nat × Nat} [Has 0 m (.cells deBc T fr) r2] :
    Does Tryd.prog 8 #[.int .i64 n] m fun e m' => (¬ (1 ≤ n ∧ n ≤ 4096) ∧ ret (.tuple #[.pointer none, .int .i64 1]) m e m') ∨
      ∃ (T : TL) (X : HP), (1 ≤ n ∧ n ≤ 4096) ∧ SpanAt T n.toNat [] X ∧ ret (.tuple #[.pointer (some ⟨T.t, 0, none⟩), .int .i64 0]) (X + m) e m' := by
  refine F8_fn ?_
  unfold F8
  refine hCall_of (pnew_does n) ?_
  rintro e m' (⟨h1, rfl, ho⟩ | ⟨L, us, l0, k, h1, g, hU, rfl, ho⟩)
  · exact ⟨_, ho, _, _, rfl, hIf_neT (by omega) (.inl ⟨h1, ret.mk (Over.refl _)⟩)⟩
  · refine ⟨_, ho, _, _, rfl, hIf_neF rfl ?_⟩
    obtain ⟨n, rfl⟩ := Int.eq_ofNat_of_zero_le (a := n) (by omega)
    simp only [Int.toNat_natCast] at g hU ⊢
    have fin : ∀ t sb ob, SpanAt ⟨t, sb, ob, L⟩ n [] (spanX ⟨t, sb, ob, L⟩ n us (levels k l0) (List.replicate n Sp.zero) (List.replicate n 0)) := fun t sb ob =>
      ⟨us, l0, k, _, _, ⟨g, by simp, by simp, ⟨by simp, by simp⟩, by funext p; rw [hU]; simp [UL], by simp, fun p hp _ => by rw [List.getElem?_replicate, if_pos hp]⟩, rfl⟩
    refine ⟨hMake_of (by omega) (by omega) (by omega) (by omega) fun b5 => hMake_of (by omega) (by omega) (by omega) (by omega) fun b6 => hNew_of fun b7 => ?_,
      hMake_of (by omega) (by omega) (by omega) (by omega) fun b6 => hMake_of (by omega) (by omega) (by omega) (by omega) fun b5 => hNew_of fun b7 => ?_⟩
    all_goals
      simp only [Int.toNat_natCast]
      rw [make_sp, make_nat]
      refine .inr ⟨⟨b7, b5, b6, L⟩, _, h1, fin b7 b5 b6, ?_⟩
      unfold spanX thC
      dsimp only
      exact ret.mk (Over.of _ _)

end Go.Proofs.YtolfcdjbchdkgaaDoor
/- Lists that a slice owns. Own work; nothing of any program. -/
namespace Go.Hp
open Go

/-- The slice s holds the list l, from its block's beginning on; H: its block. -/
def Own {α : Type} (e : TypeId) (sz : Nat) (f : α → List Value) (l : List α) (s : Sl) (H : HP) : Prop :=
  (s = ⟨none, 0, 0⟩ ∧ l = [] ∧ H = 0) ∨ ∃ b cap c, s = ⟨some ⟨b, 0, none⟩, l.length, cap⟩ ∧ c.size = cap * sz ∧ l.length ≤ cap ∧ (∀ i, i < l.length * sz → c[i]? = (l.flatMap f)[i]?) ∧ H = pt b (.cells c e (0, 0))

section
variable {α : Type} {e : TypeId} {sz : Nat} {f : α → List Value} {l : List α} {s : Sl} {H m : HP}
theorem Own.nil : Own e sz f [] ⟨none, 0, 0⟩ 0 := .inl ⟨rfl, rfl, rfl⟩
theorem Own.len (h : Own e sz f l s H) : s.n = l.length := by rcases h with ⟨rfl, rfl, _⟩ | ⟨b, cap, c, rfl, _⟩ <;> rfl
/-- A row of it. -/
theorem Own.get (h : Own e sz f l s H) (hf : ∀ x, (f x).length = sz) {i : Nat} {x : α} (hx : l[i]? = some x) :
    ∃ b cap c, s = ⟨some ⟨b, 0, none⟩, l.length, cap⟩ ∧ H = pt b (.cells c e (0, 0)) ∧ c.size = cap * sz ∧ l.length ≤ cap ∧ ∀ j, j < sz → c[i * sz + j]? = (f x)[j]? := by
  have hi := (List.getElem?_eq_some_iff.1 hx).1
  rcases h with ⟨rfl, rfl, _⟩ | ⟨b, cap, c, rfl, hc, hle, hg, rfl⟩
  · simp at hi
  · refine ⟨b, cap, c, rfl, rfl, hc, hle, fun j hj => ?_⟩
    have : i * sz + j < l.length * sz := by
      have := Nat.mul_le_mul_right sz (show i + 1 ≤ l.length by omega)
      rw [Nat.add_mul] at this; omega
    rw [hg _ this, flatMap_get hf hj, hx]; rfl
theorem Own.of_rows (hf : ∀ x, (f x).length = sz) (b : Nat) : Own e sz f l ⟨some ⟨b, 0, none⟩, l.length, l.length⟩ (pt b (.cells (rows f l) e (0, 0))) :=
  .inr ⟨b, _, _, rfl, rows_size hf l, Nat.le_refl _, fun i _ => by simp [rows], rfl⟩
/-- One row behind it. -/
theorem hAppend_Own {bytes : Nat} {zero : Array Value} {xa : Option Addr} {c1 : Nat} {r : HP} {K : Sl → HP → Prop} (h : Own e sz f l s H) [hs : Sub H m r] (x : α) (hf : ∀ x, (f x).length = sz)
    (hr : Row m xa (f x)) (h1 : okCells (f x) = true) (hz : zero.size = sz) (hb : 0 < bytes) (hfit : (l.length + 1) * bytes ≤ 140737488355328)
    (hk : ∀ s' H' r', Own e sz f (l ++ [x]) s' H' → Over r r' → K s' (H' + r')) : hAppend sz bytes zero e s ⟨xa, 1, c1⟩ K m := by
  rcases h with ⟨rfl, rfl, rfl⟩ | ⟨b, cap, c, rfl, hc, hle, hg, rfl⟩
  · refine hAppend_nil (f x) (by simp [hf]) hr h1 (by simp) hz hb (by simpa using hfit) fun b' cap' c' h2 h3 h4 => ?_
    refine hk _ _ _ (.inr ⟨b', cap', c', rfl, h3, h2, fun i hi => ?_, rfl⟩) ⟨0, by rw [hs.eq]; simp⟩
    simp only [List.nil_append, List.length_singleton, List.flatMap_cons, List.flatMap_nil, List.append_nil] at hi ⊢
    exact h4 i hi
  · haveI : Has b m (.cells c e (0, 0)) r := ⟨hs.eq⟩
    refine hAppend_own (f x) (by simp [hf]) hr h1 hc hle hz hb hfit fun b' cap' c' r' h2 h3 h4 h5 h6 => ?_
    refine hk _ _ _ (.inr ⟨b', cap', c', by simp, h4, by simpa using h3, fun i hi => ?_, rfl⟩) h2
    have hl := flatMap_len hf l
    simp only [List.length_append, List.length_singleton, Nat.add_mul, Nat.one_mul] at hi
    simp only [List.flatMap_append, List.flatMap_cons, List.flatMap_nil, List.append_nil]
    rcases Nat.lt_or_ge i (l.length * sz) with h7 | h7
    · rw [h5 i h7, hg i h7, List.getElem?_append_left (by omega)]
    · rw [List.getElem?_append_right (by omega), hl]
      have := h6 (i - l.length * sz) (by simp only [Nat.one_mul]; omega)
      rwa [show l.length * sz + (i - l.length * sz) = i by omega] at this
end
end Go.Hp
/- The document's pages (treadleref04). Own work. -/
namespace Go.Proofs.YtolfcdjbchdkgaaDoor
open Go Go.Hp
set_option maxRecDepth 100000
attribute [local irreducible] hLoad hStore hNew hInt hQuo hRem hShl hShr hIf hNil hIdx hCut hElem hByte hAppend hMake hCall hYield hGet hPut hDel hNewMap hLoop hLet hAll hRange hRec hEq hCmp bitv W Does HYield

def boolC (x : Bool) : List Value := [.bool x]
theorem boolC_len (x : Bool) : (boolC x).length = 1 := rfl
theorem rowsB {B : List Bool} {i o : Nat} {x : Bool} (ho : o = i * 1) (h : B[i]? = some x) : (rows boolC B)[o]? = some (.bool x) := by
  rw [rows_get boolC_len (i := i) (j := 0) (by omega) (by omega) h]; rfl
theorem rowsB_set {B : List Bool} {i o : Nat} {x y : Bool} (ho : o = i * 1) (h : B[i]? = some x) : (rows boolC B).setIfInBounds o (.bool y) = rows boolC (B.set i y) :=
  rows_set (j := 0) boolC_len (by omega) (by omega) h rfl
theorem rowsB_size (B : List Bool) : (rows boolC B).size = B.length * 1 := rows_size boolC_len B
def UB (B : List Bool) (p : Nat) : Bool := match B[p]? with | some b => b | none => true
theorem UB_ge {B : List Bool} {p : Nat} (h : B.length ≤ p) : UB B p = true := by unfold UB; rw [List.getElem?_eq_none h]
theorem UB_get {B : List Bool} {p : Nat} (h : p < B.length) : B[p]? = some (UB B p) := by unfold UB; rw [List.getElem?_eq_getElem h]
theorem UB_set {B : List Bool} {i p : Nat} {b : Bool} (h : i < B.length) : UB (B.set i b) p = if p = i then b else UB B p := by
  unfold UB
  rw [List.getElem?_set]
  by_cases e : i = p
  · subst e; simp [h]
  · rw [if_neg e, if_neg (Ne.symm e)]

def rpH (p ub : Nat) (B : List Bool) : HP := pt p (.cells #[.slice (some ⟨ub, 0, none⟩) B.length B.length] 92 (0, 0)) + pt ub (.cells (rows boolC B) 4 (0, 0))

theorem rrun_does {p ub : Nat} {B : List Bool} (hB : B.length ≤ 4096) (a : Nat) (ha : a ≤ 4096) {m r : HP} [hs : Sub (rpH p ub B) m r] :
    Does Tryd.prog 44 #[.pointer (some ⟨p, 0, none⟩), .int .i64 (a : Int)] m fun e m' => ∃ k : Nat, Free (UB B) a (a + k) ∧ UB B (a + k) = true ∧ ret (.int .i64 (k : Int)) (rpH p ub B + r) e m' := by
  rw [hs.eq]
  refine F44_fn ?_
  unfold F44 rpH
  refine hLoop_of (fun d x m' => ∃ k : Nat, (k = 0 ∨ a + k ≤ B.length) ∧ d = B.length - k ∧ x = ((k : Int), ()) ∧ Free (UB B) a (a + k) ∧ m' = pt p (.cells #[.slice (some ⟨ub, 0, none⟩) B.length B.length] 92 (0, 0)) + pt ub (.cells (rows boolC B) 4 (0, 0)) + r) ?_ ?_
  · exact ⟨_, 0, .inl rfl, rfl, rfl, fun q _ _ => by omega, rfl⟩
  rintro d x m' ⟨k, hk, rfl, rfl, hf, rfl⟩
  refine hAll_of fun _ => ?_
  unfold F44_l2
  dsimp only
  refine hInt_i64 (by omega) (by omega) (hNil_some (hLoad_slice (by rfl) ?_))
  dsimp only
  refine hIf_dec (fun h => ?_) (fun h => ?_)
  · refine hNil_some (hLoad_slice (by rfl) ?_)
    dsimp only
    refine hInt_i64 (by omega) (by omega) (hIdx_of (by omega) (by omega) ?_)
    refine hLoad_bool (rowsB (i := a + k) (by omega) (UB_get (by omega))) ?_
    refine hIf_not (hIf_split (fun h1 => ?_) (fun h1 => ?_))
    · exact ⟨k, hf, h1, ret.mk (Over.refl _)⟩
    · refine hInt_i64 (by omega) (by omega) ⟨B.length - (k + 1), by omega, k + 1, by omega, rfl, rfl, fun q h2 h3 => ?_, rfl⟩
      rcases Nat.lt_or_ge q (a + k) with h4 | h4
      · exact hf q h2 h4
      · obtain rfl : q = a + k := by omega
        exact h1
  · exact ⟨k, hf, UB_ge (by omega), ret.mk (Over.refl _)⟩

theorem rset_does {p ub : Nat} {B : List Bool} (hB : B.length ≤ 4096) (a c : Nat) (hac : a + c ≤ B.length) (v : Bool) {m r : HP} [hs : Sub (rpH p ub B) m r] :
    Does Tryd.prog 64 #[.pointer (some ⟨p, 0, none⟩), .int .i64 (a : Int), .int .i64 (c : Int), .bool v] m fun e m' => ∃ B', B'.length = B.length ∧ (∀ q, UB B' q = if a ≤ q ∧ q < a + c then v else UB B q) ∧ ret (.tuple #[]) (rpH p ub B' + r) e m' := by
  rw [hs.eq]
  refine F64_fn ?_
  unfold F64
  refine hLoop_of (fun d x m' => ∃ (i : Nat) (B' : List Bool), i ≤ c ∧ d = c - i ∧ x = (((a + i : Nat) : Int), ()) ∧ B'.length = B.length ∧ (∀ q, UB B' q = if a ≤ q ∧ q < a + i then v else UB B q) ∧ Over (rpH p ub B' + r) m') ?_ ?_
  · exact ⟨_, 0, B, by omega, rfl, rfl, rfl, fun q => by rw [if_neg (by omega)], Over.refl _⟩
  rintro d x m' ⟨i, B', hi, rfl, rfl, hl, hU, g, rfl⟩
  refine hAll_of fun _ => ?_
  unfold F64_l1 rpH
  dsimp only
  refine hInt_i64 (by omega) (by omega) (hIf_dec (fun h => ?_) (fun h => ?_))
  · refine hNil_some (hLoad_slice (by rfl) ?_)
    dsimp only
    refine hIdx_of (by omega) (by omega) ?_
    have hsz := rowsB_size B'
    have e0 : 0 + (((a + i : Nat)) : Int).toNat * 1 = (a + i) * 1 := by omega
    rw [e0]
    refine hStore_at (by omega) ?_
    rw [rowsB_set rfl (UB_get (by omega : a + i < B'.length))]
    refine hInt_i64 (by omega) (by omega) ⟨c - (i + 1), by omega, i + 1, B'.set (a + i) v, by omega, rfl, by rw [show (((a + i : Nat) : Int) + 1) = ((a + (i + 1) : Nat) : Int) by omega], by simp [hl], fun q => ?_, ?_⟩
    · rw [UB_set (by omega), hU]
      by_cases h1 : q = a + i
      · rw [if_pos h1, if_pos (by omega)]
      · rw [if_neg h1]
        by_cases h2 : a ≤ q ∧ q < a + i
        · rw [if_pos h2, if_pos (by omega)]
        · rw [if_neg h2, if_neg (by omega)]
    · simp only [List.length_set]; exact Over.of _ _
  · obtain rfl : i = c := by omega
    exact ⟨B', hl, hU, ret.mk (Over.of _ _)⟩

theorem ralloc_does {p ub : Nat} {B : List Bool} (hB : B.length ≤ 4096) (c : Int) (hc : c ≤ 9223372036854775807) {m r : HP} [hs : Sub (rpH p ub B) m r] :
    Does Tryd.prog 39 #[.pointer (some ⟨p, 0, none⟩), .int .i64 c] m fun e m' =>
      (c < 1 ∧ ret (.tuple #[.int .i64 0, .int .i64 1]) (rpH p ub B + r) e m') ∨
      (1 ≤ c ∧ Nowhere (UB B) c.toNat ∧ ret (.tuple #[.int .i64 0, .int .i64 3]) (rpH p ub B + r) e m') ∨
      ∃ (a : Nat) (B' : List Bool), 1 ≤ c ∧ First (UB B) c.toNat a ∧ B'.length = B.length ∧ (∀ q, UB B' q = if a ≤ q ∧ q < a + c.toNat then true else UB B q) ∧
        ret (.tuple #[.int .i64 (a : Int), .int .i64 0]) (rpH p ub B' + r) e m' := by
  rw [hs.eq]
  refine F39_fn ?_
  unfold F39
  refine hIf_dec (fun h => .inl ⟨h, ret.mk (Over.refl _)⟩) (fun h => ?_)
  obtain ⟨c, rfl⟩ := Int.eq_ofNat_of_zero_le (a := c) (by omega)
  refine hLoop_of (fun d x m' => ∃ a : Nat, a ≤ B.length + 1 ∧ d = B.length + 1 - a ∧ x = ((a : Int), ()) ∧ (∀ b, b < a → ¬ Free (UB B) b (b + c)) ∧ Over (rpH p ub B + r) m') ?_ ?_
  · exact ⟨_, 0, by omega, rfl, rfl, fun b h => by omega, Over.refl _⟩
  rintro d x m' ⟨a, ha, rfl, rfl, hno, g, rfl⟩
  refine hAll_of fun _ => ?_
  unfold F39_l4
  dsimp only
  refine hNil_some (show hLoad .slice ⟨p, 0, none⟩ _ (rpH p ub B + r + g) from ?_)
  haveI : Has p (rpH p ub B) (.cells #[.slice (some ⟨ub, 0, none⟩) B.length B.length] 92 (0, 0)) (pt ub (.cells (rows boolC B) 4 (0, 0))) := ⟨rfl⟩
  refine hLoad_slice (by rfl) ?_
  dsimp only
  refine hIf_dec (fun h1 => ?_) (fun h1 => ?_)
  · refine hCall_of (rrun_does (ub := ub) hB a (by omega)) ?_
    rintro e m' ⟨k, hf, hu, rfl, ho⟩
    refine ⟨_, ho, _, rfl, hIf_dec (fun h2 => ?_) (fun h2 => ?_)⟩
    · have hle : a + k ≤ B.length := by
        rcases Nat.lt_or_ge B.length (a + k) with h3 | h3
        · have := hf (a + k - 1) (by omega) (by omega)
          rw [UB_ge (by omega)] at this; cases this
        · exact h3
      refine hCall_of (rset_does (ub := ub) hB a c (by omega) true) ?_
      rintro e m' ⟨B', hl, hU, rfl, ho⟩
      refine ⟨_, ho, .inr (.inr ⟨a, B', by omega, ⟨fun q h3 h4 => hf q h3 (by simp at h4; omega), by simpa using hno⟩, hl, by simpa using hU, ret.mk (Over.of _ _)⟩)⟩
    · have hle : a + k ≤ B.length := by
        rcases Nat.eq_zero_or_pos k with rfl | h0
        · omega
        rcases Nat.lt_or_ge B.length (a + k) with h3 | h3
        · have := hf (a + k - 1) (by omega) (by omega)
          rw [UB_ge (by omega)] at this; cases this
        · exact h3
      refine hInt_i64 (by omega) (by omega) (hInt_i64 (by omega) (by omega) ⟨B.length + 1 - (a + k + 1), by omega, a + k + 1, by omega, rfl, rfl, fun b h3 h4 => ?_, Over.of _ _⟩)
      rcases Nat.lt_or_ge b a with h5 | h5
      · exact hno b h5 h4
      · have := h4 (a + k) (by omega) (by omega)
        rw [hu] at this; cases this
  · refine .inr (.inl ⟨by omega, fun b h2 => ?_, ret.mk (Over.of _ _)⟩)
    rw [Int.toNat_natCast] at h2
    rcases Nat.lt_or_ge b a with h5 | h5
    · exact hno b h5 h2
    · have := h2 b (Nat.le_refl _) (by omega)
      rw [UB_ge (by omega)] at this; cases this

/-- Pages that are used are freed. -/
theorem rturn_does {p ub : Nat} {B : List Bool} (hB : B.length ≤ 4096) (a c : Nat) (hc : 1 ≤ c) (hac : a + c ≤ B.length) (hu : ∀ q, a ≤ q → q < a + c → UB B q = true) {m r : HP} [hs : Sub (rpH p ub B) m r] :
    Does Tryd.prog 41 #[.pointer (some ⟨p, 0, none⟩), .int .i64 (a : Int), .int .i64 (c : Int), .bool false] m fun e m' => ∃ B', B'.length = B.length ∧ (∀ q, UB B' q = if a ≤ q ∧ q < a + c then false else UB B q) ∧ ret (.int .i64 0) (rpH p ub B' + r) e m' := by
  rw [hs.eq]
  refine F41_fn ?_
  unfold F41
  haveI : Has p (rpH p ub B) (.cells #[.slice (some ⟨ub, 0, none⟩) B.length B.length] 92 (0, 0)) (pt ub (.cells (rows boolC B) 4 (0, 0))) := ⟨rfl⟩
  haveI : Has ub (rpH p ub B) (.cells (rows boolC B) 4 (0, 0)) (pt p (.cells #[.slice (some ⟨ub, 0, none⟩) B.length B.length] 92 (0, 0))) := ⟨HP.add_comm _ _⟩
  refine hIf_neg (by omega) (hIf_neg (by omega) (hNil_some (hLoad_slice (by rfl) ?_)))
  dsimp only
  refine hIf_neg (by omega) (hNil_some (hLoad_slice (by rfl) ?_))
  dsimp only
  refine hInt_i64 (by omega) (by omega) (hIf_neg (by omega) ?_)
  refine hLoop_of (fun d x m' => ∃ i : Nat, i ≤ c ∧ d = c - i ∧ x = (((a + i : Nat) : Int), ()) ∧ m' = rpH p ub B + r) ?_ ?_
  · exact ⟨_, 0, by omega, rfl, rfl, rfl⟩
  rintro d x m' ⟨i, hi, rfl, rfl, rfl⟩
  refine hAll_of fun _ => ?_
  unfold F41_l4
  dsimp only
  refine hInt_i64 (by omega) (by omega) (hIf_dec (fun h => ?_) (fun h => ?_))
  · refine hNil_some (hLoad_slice (by rfl) ?_)
    dsimp only
    refine hIdx_of (by omega) (by omega) ?_
    refine hLoad_bool (rowsB (i := a + i) (by omega) (UB_get (by omega))) ?_
    rw [hu _ (by omega) (by omega)]
    refine hIf_false rfl (hInt_i64 (by omega) (by omega) ⟨c - (i + 1), by omega, i + 1, by omega, rfl, ?_, rfl⟩)
    rw [show (((a + i : Nat) : Int) + 1) = ((a + (i + 1) : Nat) : Int) by omega]
  · refine hCall_of (rset_does (ub := ub) hB a c hac false) ?_
    rintro e m' ⟨B', hl, hU, rfl, ho⟩
    exact ⟨_, ho, B', hl, hU, ret.mk (Over.refl _)⟩

theorem rpnew_does (n : Int) {m : HP} :
    Does Tryd.prog 37 #[.int .i64 n] m fun e m' => (¬ (1 ≤ n ∧ n ≤ 4096) ∧ ret (.tuple #[.pointer none, .int .i64 1]) m e m') ∨
      ∃ p ub : Nat, (1 ≤ n ∧ n ≤ 4096) ∧ ret (.tuple #[.pointer (some ⟨p, 0, none⟩), .int .i64 0]) (rpH p ub (List.replicate n.toNat false) + m) e m' := by
  refine F37_fn ?_
  unfold F37
  refine hIf_dec (fun h => .inl ⟨by omega, ret.mk (Over.refl _)⟩) (fun h1 => hIf_dec (fun h => .inl ⟨by omega, ret.mk (Over.refl _)⟩) (fun h2 => ?_))
  refine hMake_of (by omega) (by omega) (by omega) (by omega) fun b2 => hNew_of fun b3 => .inr ⟨b3, b2, ⟨by omega, by omega⟩, ?_⟩
  have e : makeCells #[.bool false] (n.toNat * 1) = rows boolC (List.replicate n.toNat false) := rows_make (f := boolC) (z := false) (by decide) n.toNat
  rw [e]
  unfold rpH
  rw [List.length_replicate]
  exact ret.mk (Over.of _ _)

/-! ### Counts -/
theorem rcounts_does {p ub : Nat} {B : List Bool} (hB : B.length ≤ 4096) {m r : HP} [hs : Sub (rpH p ub B) m r] :
    Does Tryd.prog 18 #[.pointer (some ⟨p, 0, none⟩)] m fun e m' => ∃ x : Nat, Longest (UB B) x ∧ ret (.tuple #[.int .i64 (cntFree (UB B) B.length : Nat), .int .i64 (x : Int)]) (rpH p ub B + r) e m' := by
  rw [hs.eq]
  refine F18_fn ?_
  unfold F18
  haveI : Has p (rpH p ub B) (.cells #[.slice (some ⟨ub, 0, none⟩) B.length B.length] 92 (0, 0)) (pt ub (.cells (rows boolC B) 4 (0, 0))) := ⟨rfl⟩
  haveI : Has ub (rpH p ub B) (.cells (rows boolC B) 4 (0, 0)) (pt p (.cells #[.slice (some ⟨ub, 0, none⟩) B.length B.length] 92 (0, 0))) := ⟨HP.add_comm _ _⟩
  refine hLoop_of (fun d x m' => ∃ a y : Nat, a ≤ B.length ∧ y ≤ B.length ∧ d = B.length - a ∧ x = (((cntFree (UB B) a : Nat) : Int), (y : Int), (a : Int), ()) ∧ (∀ b c, b < a → Free (UB B) b (b + c) → c ≤ y) ∧ (∃ b, Free (UB B) b (b + y)) ∧ Over (rpH p ub B + r) m') ?_ ?_
  · exact ⟨_, 0, 0, by omega, by omega, rfl, rfl, fun b c h => by omega, ⟨0, fun q _ h => by omega⟩, Over.refl _⟩
  rintro d x m' ⟨a, y, ha, hyB, rfl, rfl, hall, ⟨b0, hb0⟩, g, rfl⟩
  refine hAll_of fun _ => ?_
  unfold F18_l3
  dsimp only
  refine hNil_some (hLoad_slice (by rfl) ?_)
  dsimp only
  have hcl := cntFree_le (UB B) a
  have hcs := cntFree_succ (UB B) a
  refine hIf_dec (fun h => ?_) (fun h => ?_)
  · refine hLet_of (fun s m' => ∃ y' : Nat, s = (((cntFree (UB B) (a + 1) : Nat) : Int), (y' : Int), ()) ∧ y' ≤ B.length ∧ (∀ b c, b < a + 1 → Free (UB B) b (b + c) → c ≤ y') ∧ (∃ b, Free (UB B) b (b + y')) ∧ Over (rpH p ub B + r) m') ?_ ?_
    · refine hNil_some (hLoad_slice (by rfl) ?_)
      dsimp only
      refine hIdx_of (by omega) (by omega) ?_
      refine hLoad_bool (rowsB (i := a) (by omega) (UB_get (by omega))) ?_
      refine hIf_not (hIf_split (fun h1 => ?_) (fun h1 => ?_))
      · rw [h1] at hcs
        refine ⟨y, by rw [hcs]; rfl, hyB, fun b c hb hf => ?_, ⟨b0, hb0⟩, Over.of _ _⟩
        rcases Nat.lt_or_ge b a with h2 | h2
        · exact hall b c h2 hf
        · obtain rfl : b = a := by omega
          rcases Nat.eq_zero_or_pos c with rfl | h3
          · omega
          · have := hf b (by omega) (by omega); rw [h1] at this; cases this
      · rw [h1] at hcs
        refine hInt_i64 (by omega) (by omega) (hCall_of (rrun_does (ub := ub) hB a (by omega)) ?_)
        rintro e m' ⟨k, hf, hu, rfl, ho⟩
        have hk : ∀ c, Free (UB B) a (a + c) → c ≤ k := fun c hc => by
          rcases Nat.lt_or_ge k c with h2 | h2
          · have := hc (a + k) (by omega) (by omega); rw [hu] at this; cases this
          · exact h2
        have hkB : a + k ≤ B.length := by
          rcases Nat.eq_zero_or_pos k with rfl | h0
          · omega
          rcases Nat.lt_or_ge B.length (a + k) with h3 | h3
          · have := hf (a + k - 1) (by omega) (by omega)
            rw [UB_ge (by omega)] at this; cases this
          · exact h3
        simp only [Bool.false_eq_true, if_false] at hcs
        refine ⟨_, ho, _, rfl, hIf_dec (fun h2 => ?_) (fun h2 => ?_)⟩
        · refine ⟨k, by rw [hcs]; rfl, by omega, fun b c hb hfb => ?_, ⟨a, hf⟩, Over.of _ _⟩
          rcases Nat.lt_or_ge b a with h3 | h3
          · have := hall b c h3 hfb; omega
          · obtain rfl : b = a := by omega
            exact hk c hfb
        · refine ⟨y, by rw [hcs]; rfl, hyB, fun b c hb hfb => ?_, ⟨b0, hb0⟩, Over.of _ _⟩
          rcases Nat.lt_or_ge b a with h3 | h3
          · exact hall b c h3 hfb
          · obtain rfl : b = a := by omega
            have := hk c hfb; omega
    · rintro s m' ⟨y', rfl, hy', h1, h2, g2, rfl⟩
      refine hAll_of fun _ => ?_
      unfold F18_j4
      dsimp only
      exact hInt_i64 (by omega) (by omega) ⟨B.length - (a + 1), by omega, a + 1, y', by omega, hy', rfl, rfl, h1, h2, Over.of _ _⟩
  · obtain rfl : a = B.length := by omega
    refine ⟨y, ⟨fun b c hf => ?_, b0, hb0⟩, ret.mk (Over.of _ _)⟩
    rcases Nat.lt_or_ge b B.length with h1 | h1
    · exact hall b c h1 hf
    · rcases Nat.eq_zero_or_pos c with rfl | h3
      · omega
      · have := hf b (by omega) (by omega); rw [UB_ge h1] at this; cases this

end Go.Proofs.YtolfcdjbchdkgaaDoor
/- The document's spans (treadleref05). Own work. -/
namespace Go.Proofs.YtolfcdjbchdkgaaDoor
open Go Go.Hp
set_option maxRecDepth 100000
attribute [local irreducible] hLoad hStore hNew hInt hQuo hRem hShl hShr hIf hNil hIdx hCut hElem hByte hAppend hMake hCall hYield hGet hPut hDel hNewMap hLoop hLet hAll hRange hRec hEq hCmp bitv W Does HYield

structure RL where
  t : Nat
  p : Nat
  ub : Nat

def refX (R : RL) (B : List Bool) (s : Sl) (Hl : HP) : HP := pt R.t (.cells #[.pointer (some ⟨R.p, 0, none⟩), .slice s.a s.n s.cap] 48 (0, 0)) + (rpH R.p R.ub B + Hl)
structure RGood (n : Nat) (l : List Sp) (B : List Bool) (s : Sl) (Hl : HP) : Prop where
  blen : B.length = n
  nle : n ≤ 4096
  ok : LOk n l
  used : UB B = UL n l
  own : Own 34 3 spC l s Hl
/-- The document's table: what it holds. -/
def RefAt (R : RL) (n : Nat) (l : List Sp) (X : HP) : Prop := ∃ B s Hl, RGood n l B s Hl ∧ X = refX R B s Hl

theorem LOk.len {n : Nat} {l : List Sp} (h : LOk n l) : l.length ≤ n := by
  have key : ∀ (l : List Sp) (lo : Nat), (∀ s ∈ l, 1 ≤ s.pages ∧ s.base + s.pages ≤ n ∧ lo ≤ s.base) → l.Pairwise (fun s t => s.base + s.pages ≤ t.base) → l.length + lo ≤ n ∨ l = [] := by
    intro l
    induction l with
    | nil => intro lo _ _; exact .inr rfl
    | cons s l ih =>
      intro lo h1 h2
      have hs := h1 s (by simp)
      have h3 := List.pairwise_cons.1 h2
      rcases ih (s.base + s.pages) (fun t ht => ⟨(h1 t (by simp [ht])).1, (h1 t (by simp [ht])).2.1, h3.1 t ht⟩) h3.2 with h4 | h4
      · left; simp only [List.length_cons]; omega
      · left; subst h4; simp only [List.length_cons, List.length_nil]; omega
  rcases key l 0 (fun s hs => ⟨(h.pos s hs).1, (h.pos s hs).2, by omega⟩) h.sorted with h1 | h1
  · omega
  · subst h1; simp

theorem rtnew_does (n : Int) {m : HP} :
    Does Tryd.prog 9 #[.int .i64 n] m fun e m' => (¬ (1 ≤ n ∧ n ≤ 4096) ∧ ret (.tuple #[.pointer none, .int .i64 1]) m e m') ∨
      ∃ (R : RL) (X : HP), (1 ≤ n ∧ n ≤ 4096) ∧ RefAt R n.toNat [] X ∧ ret (.tuple #[.pointer (some ⟨R.t, 0, none⟩), .int .i64 0]) (X + m) e m' := by
  refine F9_fn ?_
  unfold F9
  refine hCall_of (rpnew_does n) ?_
  rintro e m' (⟨h1, rfl, ho⟩ | ⟨p, ub, h1, rfl, ho⟩)
  · exact ⟨_, ho, _, _, rfl, hIf_neT (by omega) (.inl ⟨h1, ret.mk (Over.refl _)⟩)⟩
  · refine ⟨_, ho, _, _, rfl, hIf_neF rfl (hNew_of fun b5 => .inr ⟨⟨b5, p, ub⟩, refX ⟨b5, p, ub⟩ (List.replicate n.toNat false) ⟨none, 0, 0⟩ 0, h1, ⟨_, _, _, ⟨by simp, by omega, ⟨by simp, by simp⟩, ?_, Own.nil⟩, rfl⟩, ?_⟩)⟩
    · funext q
      unfold UB UL
      rw [List.getElem?_replicate]
      by_cases h : q < n.toNat
      · rw [if_pos h]; simp; omega
      · rw [if_neg h]; simp; omega
    · unfold refX; simp only [HP.add_zero]; exact ret.mk (Over.of _ _)

/-- A row of the list, read through the slice. -/
theorem ownRow {l : List Sp} {s : Sl} {H : HP} (h : Own 34 3 spC l s H) {i : Nat} (hi : i < l.length) :
    ∃ b cap c, s = ⟨some ⟨b, 0, none⟩, l.length, cap⟩ ∧ H = pt b (.cells c 34 (0, 0)) ∧ c[i * 3]? = some (.int .i64 (l[i].base : Int)) ∧ c[i * 3 + 1]? = some (.int .i64 (l[i].pages : Int)) ∧ c[i * 3 + 2]? = some (.int .i64 l[i].tag) := by
  obtain ⟨b, cap, c, h1, h2, _, _, h3⟩ := h.get spC_len (List.getElem?_eq_getElem hi)
  exact ⟨b, cap, c, h1, h2, by simpa [spC] using h3 0 (by omega), by simpa [spC] using h3 1 (by omega), by simpa [spC] using h3 2 (by omega)⟩

theorem rfind_does {R : RL} {n : Nat} {l : List Sp} {X : HP} (h : RefAt R n l X) (page : Int) (hp : -9223372036854775808 ≤ page ∧ page ≤ 9223372036854775807) {m r : HP} [hs : Sub X m r] :
    Does Tryd.prog 16 #[.pointer (some ⟨R.t, 0, none⟩), .int .i64 page] m (ret (foundV (findS l page)) (X + r)) := by
  obtain ⟨B, s, Hl, G, rfl⟩ := h
  have hlen := G.ok.len
  have hnle := G.nle
  have hsn := G.own.len
  rw [hs.eq]
  refine F16_fn ?_
  unfold F16
  refine hNew_of fun b3 => ?_
  refine hLoop_of (fun d x m' => ∃ i : Nat, i ≤ l.length ∧ d = l.length - i ∧ x = ((i : Int), ()) ∧ (∀ j (hj : j < l.length), j < i → ¬ ((l[j].base : Int) ≤ page ∧ page < l[j].base + l[j].pages)) ∧
    Over (pt b3 (.cells #[.int .i64 0, .int .i64 0, .int .i64 0] 34 (0, 0)) + (refX R B s Hl + r)) m') ?_ ?_
  · exact ⟨_, 0, by omega, rfl, rfl, fun j _ h => by omega, Over.refl _⟩
  rintro d x m' ⟨i, hi, rfl, rfl, hno, g, rfl⟩
  refine hAll_of fun _ => ?_
  unfold F16_l2
  dsimp only
  unfold refX
  refine hNil_some (hLoad_add (hLoad_slice (by rfl) ?_))
  dsimp only
  refine hIf_dec (fun h1 => ?_) (fun h1 => ?_)
  · have hi' : i < l.length := by omega
    obtain ⟨b, cap, c, rfl, rfl, hc0, hc1, hc2⟩ := ownRow G.own hi'
    have hpos := G.ok.pos _ (List.getElem_mem hi')
    refine hNil_some (hLoad_add (hLoad_slice (by rfl) ?_))
    dsimp only
    refine hIdx_of (by omega) (by omega) ?_
    have e0 : 0 + (i : Int).toNat * 3 = i * 3 := by omega
    rw [e0]
    refine hLoad_int hc0 ?_
    refine hLoad_add (hLoad_int hc1 ?_)
    refine hLoad_add (hLoad_int hc2 ?_)
    refine hNew_of fun b15 => hStore3_0 (hStore3_1 (hStore3_2 ?_))
    refine hLoad_int (by rfl) ?_
    refine hIf_dec (fun h2 => ?_) (fun h2 => ?_)
    · refine hLoad_int (by rfl) ?_
      refine hInt_i64 (by omega) (by omega) (hLoad_int (by rfl) ?_)
      refine hIf_dec (fun h3 => ?_) (fun h3 => ?_)
      · have hf : findS l page = some l[i] := by
          unfold findS
          rw [List.find?_eq_some_iff_getElem]
          refine ⟨by simp only [decide_eq_true_eq]; omega, i, hi', rfl, fun j hj => ?_⟩
          have := hno j (by omega) hj
          simp only [Bool.not_eq_true', decide_eq_false_iff_not]
          exact this
        rw [hf]
        repeat' first
          | refine hLoad_int (by rfl) ?_
          | refine hStore3_0 ?_
          | refine hStore3_1 ?_
          | refine hStore3_2 ?_
        exact ret.mk (Over.of _ _)
      · refine hInt_i64 (by omega) (by omega) ⟨l.length - (i + 1), by omega, i + 1, by omega, rfl, rfl, fun j hj h4 => ?_, Over.of _ _⟩
        rcases Nat.lt_or_ge j i with h5 | h5
        · exact hno j hj h5
        · obtain rfl : j = i := by omega
          omega
    · refine hInt_i64 (by omega) (by omega) ⟨l.length - (i + 1), by omega, i + 1, by omega, rfl, rfl, fun j hj h4 => ?_, Over.of _ _⟩
      rcases Nat.lt_or_ge j i with h5 | h5
      · exact hno j hj h5
      · obtain rfl : j = i := by omega
        omega
  · have hf : findS l page = none := by
      unfold findS
      rw [List.find?_eq_none]
      intro t ht
      obtain ⟨j, hj, rfl⟩ := List.mem_iff_getElem.1 ht
      have := hno j hj (by omega)
      simpa using this
    rw [hf]
    repeat' first
      | refine hLoad_int (by rfl) ?_
      | refine hStore3_0 ?_
      | refine hStore3_1 ?_
      | refine hStore3_2 ?_
    exact ret.mk (Over.of _ _)

end Go.Proofs.YtolfcdjbchdkgaaDoor
/- The document's spans: Alloc, Free. Own work. -/
namespace Go.Proofs.YtolfcdjbchdkgaaDoor
open Go Go.Hp
set_option maxRecDepth 100000
attribute [local irreducible] hLoad hStore hNew hInt hQuo hRem hShl hShr hIf hNil hIdx hCut hElem hByte hAppend hMake hCall hYield hGet hPut hDel hNewMap hLoop hLet hAll hRange hRec hEq hCmp bitv W Does HYield

def spObj (s : Sp) : Obj := .cells #[.int .i64 (s.base : Int), .int .i64 (s.pages : Int), .int .i64 s.tag] 34 (0, 0)

theorem insS_len (s : Sp) (l : List Sp) : (insS s l).length = l.length + 1 := by
  induction l with
  | nil => rfl
  | cons t l ih => simp only [insS]; split <;> simp [ih]

theorem ralloc5_does {R : RL} {n : Nat} {l : List Sp} {X : HP} (h : RefAt R n l X) (c tag : Int) (hc : c ≤ 9223372036854775807) {m r : HP} [hs : Sub X m r] :
    Does Tryd.prog 12 #[.pointer (some ⟨R.t, 0, none⟩), .int .i64 c, .int .i64 tag] m fun e m' =>
      (c < 1 ∧ ret (.tuple #[zeroSp, .int .i64 1]) (X + r) e m') ∨ (1 ≤ c ∧ Nowhere (UL n l) c.toNat ∧ ret (.tuple #[zeroSp, .int .i64 3]) (X + r) e m') ∨
      ∃ (a : Nat) (X' : HP), 1 ≤ c ∧ First (UL n l) c.toNat a ∧ RefAt R n (insS ⟨a, c.toNat, tag⟩ l) X' ∧ ret (.tuple #[.agg #[.int .i64 (a : Int), .int .i64 c, .int .i64 tag], .int .i64 0]) (X' + r) e m' := by
  obtain ⟨B, sl, Hl, G, rfl⟩ := h
  have hlen := G.ok.len
  have hnle := G.nle
  have hsn := G.own.len
  have hbl := G.blen
  rw [hs.eq]
  refine F12_fn ?_
  unfold F12 refX
  refine hNew_of fun b4 => hNil_some (hLoad_ptr (by rfl) ?_)
  refine hCall_of (ralloc_does (ub := R.ub) (B := B) (by omega) c hc) ?_
  rintro e m' (⟨h1, rfl, ho⟩ | ⟨h1, h2, rfl, ho⟩ | ⟨a, B', h1, hf, hBl, hU, rfl, ho⟩)
  · refine ⟨_, ho, _, _, rfl, hIf_neT (by omega) ?_⟩
    repeat' first
      | refine hStore3_0 ?_
      | refine hStore3_1 ?_
      | refine hStore3_2 ?_
      | refine hLoad_int (by rfl) ?_
    exact .inl ⟨h1, ret.mk (Over.of _ _)⟩
  · refine ⟨_, ho, _, _, rfl, hIf_neT (by omega) ?_⟩
    repeat' first
      | refine hStore3_0 ?_
      | refine hStore3_1 ?_
      | refine hStore3_2 ?_
      | refine hLoad_int (by rfl) ?_
    exact .inr (.inl ⟨h1, by rw [← G.used]; exact h2, ret.mk (Over.of _ _)⟩)
  obtain ⟨x, rfl⟩ := Int.eq_ofNat_of_zero_le (a := c) (by omega)
  rw [Int.toNat_natCast] at hf hU
  simp only [Int.toNat_natCast]
  have hle : a + x ≤ n := by
    rcases Nat.lt_or_ge n (a + x) with h3 | h3
    · have := hf.1 (a + x - 1) (by omega) (by omega)
      rw [UB_ge (by omega)] at this; cases this
    · exact h3
  refine ⟨_, ho, _, _, rfl, hIf_neF rfl (hNew_of fun b13 => hStore3_0 (hStore3_1 (hStore3_2 ?_)))⟩
  obtain ⟨s, hsdef⟩ : ∃ s : Sp, s = ⟨a, x, tag⟩ := ⟨_, rfl⟩
  have hcell : (Obj.cells #[.int .i64 (a : Int), .int .i64 (Int.ofNat x), .int .i64 tag] 34 (0, 0)) = spObj s := by subst hsdef; rfl
  have hrow : ∀ (m : HP) (b : Nat) (r : HP) (t : Sp), Has b m (spObj t) r → Row m (some ⟨b, 0, none⟩) (spC t) := fun m b r t hh => by
    haveI := hh
    unfold spObj at this
    refine Row.of (c := #[.int .i64 (t.base : Int), .int .i64 (t.pages : Int), .int .i64 t.tag]) (fun j v hj => ?_)
    rw [Nat.zero_add]; simpa [spC] using hj
  refine hLoop_of (fun d y m' => ∃ (i : Nat) (q : List Sp) (s' : Sl) (H' : HP) (done : Bool), i ≤ l.length ∧ d = l.length - i ∧ y = (s', done, (i : Int), ()) ∧ Own 34 3 spC q s' H' ∧
    (done = true → q ++ l.drop i = insS s l) ∧ (done = false → q ++ insS s (l.drop i) = insS s l) ∧
    Over (pt b13 (spObj s) + (pt b4 (.cells #[.int .i64 0, .int .i64 0, .int .i64 0] 34 (0, 0)) + (H' + (pt R.t (.cells #[.pointer (some ⟨R.p, 0, none⟩), .slice sl.a sl.n sl.cap] 48 (0, 0)) + (rpH R.p R.ub B' + (Hl + r)))))) m') ?_ ?_
  · refine ⟨_, 0, [], ⟨none, 0, 0⟩, 0, false, by omega, rfl, rfl, Own.nil, by simp, by simp, ?_⟩
    rw [← hcell]
    simp only [HP.zero_add]
    exact Over.of _ _
  rintro d y m' ⟨i, q, s', H', done, hi, rfl, rfl, hown, hd1, hd2, g, rfl⟩
  refine hAll_of fun _ => ?_
  unfold F12_l8
  dsimp only
  refine hNil_some (hLoad_add (hLoad_slice (by rfl) ?_))
  dsimp only
  have hsb : s.base = a := by subst hsdef; rfl
  have hlins := insS_len s l
  refine hIf_dec (fun h3 => ?_) (fun h3 => ?_)
  · have hi' : i < l.length := by omega
    have hdrop : l.drop i = l[i] :: l.drop (i + 1) := List.drop_eq_getElem_cons hi'
    obtain ⟨b, cap, cc, hsl, hHl, hc0, hc1, hc2⟩ := ownRow G.own hi'
    subst hsl hHl
    rw [hdrop] at hd1 hd2
    have e0 : 0 + (i : Int).toNat * 3 = i * 3 := by omega
    refine hLet_of (fun st m' => ∃ (q' : List Sp) (s'' : Sl) (H'' : HP) (done' : Bool), st = (s'', done', ()) ∧ Own 34 3 spC q' s'' H'' ∧ (done' = true → q' ++ l[i] :: l.drop (i + 1) = insS s l) ∧ (done' = false → q' ++ l[i] :: insS s (l.drop (i + 1)) = insS s l) ∧
      Over (pt b13 (spObj s) + (pt b4 (.cells #[.int .i64 0, .int .i64 0, .int .i64 0] 34 (0, 0)) + (H'' + (pt R.t (.cells #[.pointer (some ⟨R.p, 0, none⟩), .slice (some ⟨b, 0, none⟩) l.length cap] 48 (0, 0)) + (rpH R.p R.ub B' + (pt b (.cells cc 34 (0, 0)) + r)))))) m') ?_ ?_
    · refine hIf_not (hIf_split (fun h4 => ?_) (fun h4 => ?_))
      · subst h4
        exact ⟨q, s', H', true, rfl, hown, hd1, by simp, Over.of _ _⟩
      · subst h4
        have hd2 := hd2 rfl
        refine hNil_some (hLoad_add (hLoad_slice (by rfl) ?_))
        dsimp only
        refine hIdx_of (by omega) (by omega) ?_
        rw [e0]
        refine hLoad_int hc0 (hIf_dec (fun h5 => ?_) (fun h5 => ?_))
        · have hins : insS s (l[i] :: l.drop (i + 1)) = s :: l[i] :: l.drop (i + 1) := by simp only [insS]; rw [if_pos (by omega)]
          rw [hins] at hd2
          have hq : q.length + 1 ≤ l.length + 1 := by rw [← hlins, ← hd2]; simp
          refine hLoad_int (by rfl) (hLoad_int (by rfl) (hLoad_int (by rfl) (hNew_of fun b29 => ?_)))
          refine hAppend_Own hown s spC_len (hrow _ b29 _ s ⟨rfl⟩) rfl rfl (by omega) (by omega) (fun s2 H2 r2 hO2 hr2 => ?_)
          obtain ⟨g2, rfl⟩ := hr2
          exact ⟨q ++ [s], s2, H2, true, rfl, hO2, fun _ => by simpa using hd2, by simp, Over.of _ _⟩
        · have hins : insS s (l[i] :: l.drop (i + 1)) = l[i] :: insS s (l.drop (i + 1)) := by simp only [insS]; rw [if_neg (by omega)]
          rw [hins] at hd2
          exact ⟨q, s', H', false, rfl, hown, by simp, fun _ => hd2, Over.of _ _⟩
    · rintro st m' ⟨q', s'', H'', done', rfl, hown', hd1', hd2', g2, rfl⟩
      refine hAll_of fun _ => ?_
      unfold F12_j13
      dsimp only
      have hq : q'.length ≤ l.length + 1 := by
        cases done'
        · rw [← hlins, ← hd2' rfl]; simp
        · rw [← hlins, ← hd1' rfl]; simp
      refine hNil_some (hLoad_add (hLoad_slice (by rfl) ?_))
      dsimp only
      refine hIdx_of (by omega) (by omega) ?_
      rw [e0]
      refine hLoad_int hc0 ?_
      refine hLoad_add (hLoad_int hc1 ?_)
      refine hLoad_add (hLoad_int hc2 ?_)
      refine hNew_of fun b40 => ?_
      refine hAppend_Own hown' l[i] spC_len (hrow _ b40 _ l[i] ⟨rfl⟩) rfl rfl (by omega) (by omega) (fun s2 H2 r2 hO2 hr2 => ?_)
      obtain ⟨g3, rfl⟩ := hr2
      exact hInt_i64 (by omega) (by omega) ⟨l.length - (i + 1), by omega, i + 1, q' ++ [l[i]], s2, H2, done', by omega, rfl, rfl, hO2, fun hh => by simpa using hd1' hh, fun hh => by simpa using hd2' hh, Over.of _ _⟩
  · obtain rfl : i = l.length := by omega
    rw [List.drop_length] at hd1 hd2
    refine hLet_of (fun st m' => ∃ (s'' : Sl) (H'' : HP), st = (s'', ()) ∧ Own 34 3 spC (insS s l) s'' H'' ∧
      Over (pt b13 (spObj s) + (pt b4 (.cells #[.int .i64 0, .int .i64 0, .int .i64 0] 34 (0, 0)) + (H'' + (pt R.t (.cells #[.pointer (some ⟨R.p, 0, none⟩), .slice sl.a sl.n sl.cap] 48 (0, 0)) + (rpH R.p R.ub B' + (Hl + r)))))) m') ?_ ?_
    · refine hIf_not (hIf_split (fun h4 => ?_) (fun h4 => ?_))
      · subst h4
        have hd1 := hd1 rfl
        rw [List.append_nil] at hd1
        exact ⟨s', H', rfl, by rw [← hd1]; exact hown, Over.of _ _⟩
      · subst h4
        have hd2 := hd2 rfl
        have hq : q.length + 1 ≤ l.length + 1 := by rw [← hlins, ← hd2]; simp [insS]
        refine hLoad_int (by rfl) (hLoad_int (by rfl) (hLoad_int (by rfl) (hNew_of fun b47 => ?_)))
        refine hAppend_Own hown s spC_len (hrow _ b47 _ s ⟨rfl⟩) rfl rfl (by omega) (by omega) (fun s2 H2 r2 hO2 hr2 => ?_)
        obtain ⟨g2, rfl⟩ := hr2
        exact ⟨s2, H2, rfl, by rw [← hd2]; exact hO2, Over.of _ _⟩
    · rintro st m' ⟨s'', H'', rfl, hown', g2, rfl⟩
      refine hAll_of fun _ => ?_
      unfold F12_j16
      dsimp only
      refine hNil_some (hStore_add (hStore2_1 ?_))
      unfold spObj
      repeat' first
        | refine hLoad_int (by rfl) ?_
        | refine hStore3_0 ?_
        | refine hStore3_1 ?_
        | refine hStore3_2 ?_
      have hfr : ∀ p, a ≤ p → p < a + x → ∀ t ∈ l, ¬ t.has p := fun p h4 h5 t ht h6 => by
        have := hf.1 p h4 h5
        rw [G.used] at this
        have h7 : UL n l p = true := UL_iff.2 (.inr ⟨t, ht, h6⟩)
        rw [this] at h7; cases h7
      subst hsdef
      refine .inr (.inr ⟨a, refX R B' s'' H'', by omega, by rw [← G.used]; exact hf, ⟨B', s'', H'', ⟨by omega, hnle, G.ok.ins (by simp only; omega) (by simp only; omega) (fun p h4 => hfr p h4.1 h4.2), ?_, hown'⟩, rfl⟩, ?_⟩)
      · funext p
        rw [hU, G.used, UL_ins]
      · unfold refX
        exact ret.mk (Over.of _ _)

theorem rfree5_does {R : RL} {n : Nat} {l : List Sp} {X : HP} (h : RefAt R n l X) (base : Int) {m r : HP} [hs : Sub X m r] :
    Does Tryd.prog 14 #[.pointer (some ⟨R.t, 0, none⟩), .int .i64 base] m fun e m' =>
      ((∀ s ∈ l, (s.base : Int) ≠ base) ∧ ∃ X', RefAt R n l X' ∧ ret (.int .i64 4) (X' + r) e m') ∨
      ∃ (s : Sp) (X' : HP), s ∈ l ∧ (s.base : Int) = base ∧ RefAt R n (delS s.base l) X' ∧ ret (.int .i64 0) (X' + r) e m' := by
  obtain ⟨B, sl, Hl, G, rfl⟩ := h
  have hlen := G.ok.len
  have hnle := G.nle
  have hsn := G.own.len
  have hbl := G.blen
  rw [hs.eq]
  refine F14_fn ?_
  unfold F14 refX
  refine hNew_of fun b3 => hStore3_0 (hStore3_1 (hStore3_2 ?_))
  have hrow : ∀ (m : HP) (b : Nat) (r : HP) (t : Sp), Has b m (spObj t) r → Row m (some ⟨b, 0, none⟩) (spC t) := fun m b r t hh => by
    haveI := hh
    unfold spObj at this
    refine Row.of (c := #[.int .i64 (t.base : Int), .int .i64 (t.pages : Int), .int .i64 t.tag]) (fun j v hj => ?_)
    rw [Nat.zero_add]; simpa [spC] using hj
  refine hLoop_of (fun d y m' => ∃ (i : Nat) (s' : Sl) (H' : HP) (f : Option Sp), i ≤ l.length ∧ d = l.length - i ∧ y = (s', (i : Int), ()) ∧ Own 34 3 spC ((l.take i).filter fun t => decide ((t.base : Int) ≠ base)) s' H' ∧
    (∀ t, f = some t → t ∈ l ∧ (t.base : Int) = base) ∧ (f = none → ∀ t ∈ l.take i, (t.base : Int) ≠ base) ∧
    Over (pt b3 (spObj (f.getD Sp.zero)) + (H' + (pt R.t (.cells #[.pointer (some ⟨R.p, 0, none⟩), .slice sl.a sl.n sl.cap] 48 (0, 0)) + (rpH R.p R.ub B + (Hl + r))))) m') ?_ ?_
  · refine ⟨_, 0, ⟨none, 0, 0⟩, 0, none, by omega, rfl, rfl, Own.nil, by simp, by simp, ?_⟩
    simp only [HP.zero_add]
    show Over (pt b3 (.cells #[.int .i64 0, .int .i64 0, .int .i64 0] 34 (0, 0)) + _) _
    exact Over.of _ _
  rintro d y m' ⟨i, s', H', f, hi, rfl, rfl, hown, hf1, hf2, g, rfl⟩
  refine hAll_of fun _ => ?_
  unfold F14_l4
  dsimp only
  refine hNil_some (hLoad_add (hLoad_slice (by rfl) ?_))
  dsimp only
  have hql : ((l.take i).filter fun t => decide ((t.base : Int) ≠ base)).length ≤ i := Nat.le_trans (List.length_filter_le _ _) (by simp; omega)
  refine hIf_dec (fun h3 => ?_) (fun h3 => ?_)
  · have hi' : i < l.length := by omega
    obtain ⟨b, cap, cc, hsl, hHl, hc0, hc1, hc2⟩ := ownRow G.own hi'
    subst hsl hHl
    have e0 : 0 + (i : Int).toNat * 3 = i * 3 := by omega
    have htake : l.take (i + 1) = l.take i ++ [l[i]] := List.take_succ_eq_append_getElem hi'
    refine hLet_of (fun st m' => ∃ (s'' : Sl) (H'' : HP) (f' : Option Sp), st = (s'', ()) ∧ Own 34 3 spC ((l.take (i + 1)).filter fun t => decide ((t.base : Int) ≠ base)) s'' H'' ∧
      (∀ t, f' = some t → t ∈ l ∧ (t.base : Int) = base) ∧ (f' = none → ∀ t ∈ l.take (i + 1), (t.base : Int) ≠ base) ∧
      Over (pt b3 (spObj (f'.getD Sp.zero)) + (H'' + (pt R.t (.cells #[.pointer (some ⟨R.p, 0, none⟩), .slice (some ⟨b, 0, none⟩) l.length cap] 48 (0, 0)) + (rpH R.p R.ub B + (pt b (.cells cc 34 (0, 0)) + r))))) m') ?_ ?_
    · refine hNil_some (hLoad_add (hLoad_slice (by rfl) ?_))
      dsimp only
      refine hIdx_of (by omega) (by omega) ?_
      rw [e0]
      refine hLoad_int hc0 (hIf_eq (fun h5 => ?_) (fun h5 => ?_))
      · refine hNil_some (hLoad_add (hLoad_slice (by rfl) ?_))
        dsimp only
        refine hIdx_of (by omega) (by omega) ?_
        rw [e0]
        refine hLoad_int hc0 ?_
        refine hLoad_add (hLoad_int hc1 ?_)
        refine hLoad_add (hLoad_int hc2 ?_)
        unfold spObj
        refine hStore3_0 (hStore3_1 (hStore3_2 ?_))
        refine ⟨s', H', some l[i], rfl, ?_, fun t ht => ?_, by simp, by simp only [Option.getD_some]; exact Over.of _ _⟩
        · rw [htake, List.filter_append]
          have : List.filter (fun t : Sp => decide ((t.base : Int) ≠ base)) [l[i]] = [] := by simp [h5]
          rw [this, List.append_nil]; exact hown
        · simp only [Option.some.injEq] at ht; subst ht; exact ⟨List.getElem_mem hi', h5⟩
      · refine hNil_some (hLoad_add (hLoad_slice (by rfl) ?_))
        dsimp only
        refine hIdx_of (by omega) (by omega) ?_
        rw [e0]
        refine hLoad_int hc0 ?_
        refine hLoad_add (hLoad_int hc1 ?_)
        refine hLoad_add (hLoad_int hc2 ?_)
        refine hNew_of fun b27 => ?_
        refine hAppend_Own hown l[i] spC_len (hrow _ b27 _ l[i] ⟨rfl⟩) rfl rfl (by omega) (by omega) (fun s2 H2 r2 hO2 hr2 => ?_)
        obtain ⟨g2, rfl⟩ := hr2
        refine ⟨s2, H2, f, rfl, ?_, hf1, fun hn t ht => ?_, Over.of _ _⟩
        · rw [htake, List.filter_append]
          have : List.filter (fun t : Sp => decide ((t.base : Int) ≠ base)) [l[i]] = [l[i]] := by simp [h5]
          rw [this]; exact hO2
        · rw [htake] at ht
          rcases List.mem_append.1 ht with h6 | h6
          · exact hf2 hn t h6
          · simp only [List.mem_singleton] at h6; subst h6; exact h5
    · rintro st m' ⟨s'', H'', f', rfl, hown', h6, h7, g2, rfl⟩
      refine hAll_of fun _ => ?_
      unfold F14_j5
      dsimp only
      exact hInt_i64 (by omega) (by omega) ⟨l.length - (i + 1), by omega, i + 1, s'', H'', f', by omega, rfl, rfl, hown', h6, h7, Over.of _ _⟩
  · obtain rfl : i = l.length := by omega
    rw [List.take_length] at hown hf2
    cases f with
    | none =>
      have hno := hf2 rfl
      simp only [Option.getD_none]
      unfold spObj
      refine hLoad_int (x := 0) (by rfl) (hIf_eqT rfl ?_)
      exact .inl ⟨hno, _, ⟨B, sl, Hl, G, rfl⟩, by unfold refX; exact ret.mk (Over.of _ _)⟩
    | some t =>
      obtain ⟨ht1, rfl⟩ := hf1 t rfl
      have hpos := G.ok.pos t ht1
      simp only [Option.getD_some]
      unfold spObj
      refine hLoad_int (by rfl) (hIf_eqF (by omega) ?_)
      refine hNil_some (hStore_add (hStore2_1 (hNil_some (hLoad_ptr (by rfl) (hLoad_int (by rfl) ?_)))))
      refine hCall_of (rturn_does (ub := R.ub) (B := B) (by omega) t.base t.pages hpos.1 (by omega) (fun q h1 h2 => ?_)) ?_
      · rw [G.used]; exact UL_iff.2 (.inr ⟨t, ht1, h1, h2⟩)
      rintro e m' ⟨B', hBl, hU, rfl, ho⟩
      refine ⟨_, ho, _, rfl, .inr ⟨t, refX R B' s' H', ht1, rfl, ⟨B', s', H', ⟨by omega, hnle, G.ok.del _, ?_, ?_⟩, rfl⟩, ?_⟩⟩
      · funext p; rw [hU, G.used, UL_del G.ok ht1]
      · have e : delS t.base l = l.filter fun u => decide ((u.base : Int) ≠ t.base) := by
          unfold delS; apply List.filter_congr; intro u _; rw [Bool.eq_iff_iff]; simp; omega
        rw [e]; exact hown
      · unfold refX; exact ret.mk (Over.of _ _)

end Go.Proofs.YtolfcdjbchdkgaaDoor
/- '==' of structs of integers. Own work; nothing of any program. -/
namespace Go.Hp
open Go

/-- The fields that are integers, and count; each by its place. -/
def intFields (P : Program) (fs : List Field) : Bool := fs.all fun f => decide (f.name ≠ "_") && !aggB P f.type && (match P.underlying f.type with | some (.int _) => true | _ => false)
def intsEq : List (Int × Int) → Bool
  | [] => true
  | (a, b) :: l => (a == b) && intsEq l

def FieldsAre (xs ys : Array Value) : List Field → List (Int × Int) → Prop
  | [], [] => True
  | f :: fs, p :: ps => (∃ k, xs[f.offset]? = some (.int k p.1) ∧ ys[f.offset]? = some (.int k p.2)) ∧ FieldsAre xs ys fs ps
  | _, _ => False

theorem run_part_int {P : Program} {t : TypeId} {k k' : IntKind} {cs : Array Value} {off : Nat} {n : Int} (hu : P.underlying t = some (.int k)) (hc : cs[off]? = some (.int k' n)) (w : World) : (part t cs off).run P w = .ok (.int k' n) w := by
  have hag : aggB P t = false := by simp [aggB, hu]
  simp [part, run_isAgg w (show (P.underlying t).isSome = true by rw [hu]; rfl), hag, hc]
theorem run_eqIn_int {P : Program} {t : TypeId} {k k' : IntKind} (hu : P.underlying t = some (.int k)) (d : Nat) (a b : Int) (w : World) : (Op.equalIn (d + 1) t (.int k' a) (.int k' b)).run P w = .ok (a == b) w := by
  simp only [Op.equalIn, Sem.run_bind, run_underlying hu, Result.andThen_ok, if_true, Sem.run_pure]

theorem run_eqFields_int {P : Program} {d : Nat} {xs ys : Array Value} (w : World) : ∀ {fs : List Field} {ps : List (Int × Int)}, intFields P fs = true →
    FieldsAre xs ys fs ps → (Op.eqFields (d + 1) xs ys fs).run P w = .ok (intsEq ps) w := by
  intro fs
  induction fs with
  | nil =>
    intro ps _ h
    cases ps with
    | nil => simp [Op.eqFields, intsEq]
    | cons p ps => exact h.elim
  | cons f fs ih =>
    intro ps hi h
    cases ps with
    | nil => exact h.elim
    | cons p ps =>
      obtain ⟨⟨k, hx, hy⟩, h2⟩ := h
      simp only [intFields, List.all_cons, Bool.and_eq_true, decide_eq_true_eq] at hi
      obtain ⟨⟨⟨hn, _⟩, hu⟩, hr⟩ := hi
      have hu' : ∃ k, P.underlying f.type = some (.int k) := by
        revert hu; generalize P.underlying f.type = u
        intro hu; split at hu
        · exact ⟨_, rfl⟩
        · cases hu
      obtain ⟨k0, hu'⟩ := hu'
      have := ih hr h2
      simp only [Op.eqFields, if_pos hn, Sem.run_bind, run_part_int hu' hx, run_part_int hu' hy, Result.andThen_ok, run_eqIn_int hu']
      obtain ⟨a, b⟩ := p
      simp only [intsEq]
      cases hab : (a == b)
      · simp
      · simpa using this

/-- A struct of integers: '==' tells whether all are the same. -/
theorem SEq_ints {P : Program} {op : BinOp} {t : TypeId} {xo yo : Operand} {xs ys : Array Value} {fs : Array Field} (ps : List (Int × Int)) (hu : P.underlying t = some (.struct fs)) (hp : P.stoodInHeld t = false) (hg : P.eqGuardType P.depth t = false)
    (hi : intFields P fs.toList = true) (hps : FieldsAre xs ys fs.toList ps) :
    SEq P op t xo yo (.agg xs) (.agg ys) (intsEq ps) := by
  intro w
  have hf : P.fieldsOf t = fs := by simp [Program.fieldsOf, hu]
  have h1 : (eqGuard op t xo yo (.agg xs) (.agg ys)).run P w = .ok () w := by
    unfold eqGuard
    cases op <;> simp [hg, run_program]
  have h2 : (Op.equal t (.agg xs) (.agg ys)).run P w = .ok (intsEq ps) w := by
    rw [equal_eq, run_equalIn_struct (P := P) w 9999 t xs ys (by rw [hf]; exact hu) hp, hf]
    exact run_eqFields_int w hi hps
  simp only [Sem.run_bind, h1, Result.andThen_ok, h2]
def OffsAre (xs ys : Array Value) : List Nat → List (Int × Int) → Prop
  | [], [] => True
  | o :: os, p :: ps => (∃ k, xs[o]? = some (.int k p.1) ∧ ys[o]? = some (.int k p.2)) ∧ OffsAre xs ys os ps
  | _, _ => False
theorem OffsAre.fields {xs ys : Array Value} : ∀ {fs : List Field} {ps : List (Int × Int)}, OffsAre xs ys (fs.map (·.offset)) ps → FieldsAre xs ys fs ps
  | [], [], _ => trivial
  | [], _ :: _, h => h.elim
  | _ :: _, [], h => h.elim
  | _ :: _, _ :: _, h => ⟨h.1, OffsAre.fields h.2⟩
/-- With closed facts of the program. -/
def intStruct (P : Program) (t : TypeId) (offs : List Nat) : Bool :=
  (match P.underlying t with | some (.struct fs) => decide (fs.toList.map (·.offset) = offs) && intFields P fs.toList | _ => false) && !P.stoodInHeld t && !P.eqGuardType P.depth t
theorem SEq_offs {P : Program} {op : BinOp} {t : TypeId} {xo yo : Operand} {xs ys : Array Value} (offs : List Nat) (ps : List (Int × Int)) (h : intStruct P t offs = true) (hps : OffsAre xs ys offs ps) : SEq P op t xo yo (.agg xs) (.agg ys) (intsEq ps) := by
  simp only [intStruct, Bool.and_eq_true, Bool.not_eq_true'] at h
  obtain ⟨⟨h1, h2⟩, h3⟩ := h
  generalize hu : P.underlying t = u at h1
  split at h1
  · simp only [Bool.and_eq_true, decide_eq_true_eq] at h1
    obtain ⟨h4, h5⟩ := h1
    subst h4
    exact SEq_ints ps hu h2 h3 h5 hps.fields
  · cases h1
theorem hEq_of {P : Program} {op : BinOp} {t : TypeId} {xo yo : Operand} {x y : Value} {K : Bool → HP → Prop} {m : HP} {b : Bool} (h : SEq P op t xo yo x y b) (hk : K b m) : hEq P op t xo yo x y K m := ⟨b, h, hk⟩
theorem hCmp_of {P : Program} {op : BinOp} {t : TypeId} {xo yo : Operand} {x y : Value} {K : Bool → HP → Prop} {m : HP} (b : Bool) (h : ∀ w, (do eqGuard op t xo yo x y; binOp op t x y : Sem Value).run P w = .ok (.bool b) w) (hk : K b m) : hCmp P op t xo yo x y K m := ⟨b, h, hk⟩
theorem hRange_of {P : Program} {N : Nat} {f : FuncId} {fs cs : Array Value} {vals : List (Nat × Value)} {c : Code} {Kn Kr : Nat → HP → Prop} {Ke : Nat → Nat → HP → Prop} {m : HP}
    (h : ∀ (l r : Nat) (rc0 : Loop), IsLoop N vals c rc0 → Does P f ⟨fs.toList ++ [.func (.yield l) #[] #[]] ++ cs.toList⟩ (pt l (.loop rc0) + (pt r (.deferred (some [])) + m)) fun e m3 =>
      (∃ v, e = .returned v) ∧ ∃ rc m4, m3 = pt l (.loop rc) + m4 ∧ (rc.state == .busy) = false ∧
        match rc.pending with
        | none => Kn r (pt l (.loop { rc with state := .exhausted }) + m4)
        | some .ret => Kr r (pt l (.loop { rc with state := .exhausted }) + m4)
        | some (.exit id) => Ke id r (pt l (.loop { rc with state := .exhausted }) + m4)
        | _ => False) : hRange P N (.func (.func f) fs cs) vals c Kn Kr Ke m := ⟨f, fs, cs, rfl, h⟩
def isFn (P : Program) (t : TypeId) : Bool := match P.underlying t with | some (.func _ _ _) => true | _ => false
theorem run_eqIn_fn {P : Program} {t : TypeId} {a b : Array TypeId} {c : Bool} {f : FuncId} {fs cs : Array Value} (w : World) (d : Nat) (h : P.underlying t = some (.func a b c)) : (Op.equalIn (d + 1) t (.func (.func f) fs cs) .nilFunc).run P w = .ok false w := by
  simp only [Op.equalIn, Sem.run_bind, run_underlying h, Result.andThen_ok, Sem.run_pure]
theorem hCmp_fn {P : Program} {t : TypeId} {m : HP} {xo yo : Operand} {f : FuncId} {fs cs : Array Value} {K : Bool → HP → Prop} (h : isFn P t = true) (hk : K false m) : hCmp P .eql t xo yo (.func (.func f) fs cs) .nilFunc K m := by
  unfold isFn at h
  generalize hu : P.underlying t = u at h
  split at h
  · refine hCmp_of false (fun w => ?_) hk
    have hg : (eqGuard .eql t xo yo (.func (.func f) fs cs) .nilFunc).run P w = .ok () w := by simp [eqGuard]
    have he : (Op.equal t (.func (.func f) fs cs) .nilFunc).run P w = .ok false w := run_eqIn_fn w 9999 hu
    simp only [Sem.run_bind, hg, Result.andThen_ok]
    simp [binOp, he]
  · cases h
theorem At.sub {r m q : HP} {a : Addr} {v : Value} [hs : Sub r m q] (h : At r a v) : At m a v := by
  obtain ⟨c, T, fr, r', rfl, h1, h2⟩ := h
  exact ⟨c, T, fr, r' + q, by rw [hs.eq, HP.add_assoc], h1, h2⟩
theorem hLoad_here {t : Ty} {a : Addr} {m : HP} {K : t.T → HP → Prop} {x : t.T} (h : At m a (t.val x)) (hk : K x m) : hLoad t a K m := ⟨x, h, hk⟩
theorem hIdx_any {a : Option Addr} {ad : Addr} {n size : Nat} {i : Int} {m : HP} {K : Addr → HP → Prop} (ha : a = some ad) (h0 : 0 ≤ i) (h1 : i < n) (hk : K (ad.add (i.toNat * size)) m) : hIdx a n i size K m := ⟨ad, ha, h0, h1, hk⟩
end Go.Hp
/- All spans, in their order; Same. Own work. -/
namespace Go.Proofs.YtolfcdjbchdkgaaDoor
open Go Go.Hp
set_option maxRecDepth 100000
attribute [local irreducible] hLoad hStore hNew hInt hQuo hRem hShl hShr hIf hNil hIdx hCut hElem hByte hAppend hMake hCall hYield hGet hPut hDel hNewMap hLoop hLet hAll hRange hRec hEq hCmp bitv W Does HYield

theorem is34 : intStruct Tryd.prog 34 [0, 1, 2] = true := by kernel_rfl
theorem spEq (op : BinOp) (xo yo : Operand) (a b c a' b' c' : Int) : SEq Tryd.prog op 34 xo yo (.agg #[.int .i64 a, .int .i64 b, .int .i64 c]) (.agg #[.int .i64 a', .int .i64 b', .int .i64 c']) (intsEq [(a, a'), (b, b'), (c, c')]) :=
  SEq_offs [0, 1, 2] _ is34 ⟨⟨_, rfl, rfl⟩, ⟨_, rfl, rfl⟩, ⟨_, rfl, rfl⟩, trivial⟩

theorem filter_step {l : List Sp} (hs : l.Pairwise fun s t => s.base + s.pages ≤ t.base) (hp : ∀ s ∈ l, 1 ≤ s.pages) {s : Sp} (hm : s ∈ l) :
    (l.filter fun t => decide (t.base < s.base + s.pages)) = (l.filter fun t => decide (t.base < s.base)) ++ [s] := by
  induction l with
  | nil => simp at hm
  | cons t l ih =>
    have h := List.pairwise_cons.1 hs
    rcases List.mem_cons.1 hm with rfl | hm'
    · have hsp := hp s (by simp)
      have h1 : l.filter (fun t => decide (t.base < s.base + s.pages)) = [] := by
        rw [List.filter_eq_nil_iff]; intro u hu; have := h.1 u hu; simp; omega
      have h2 : l.filter (fun t => decide (t.base < s.base)) = [] := by
        rw [List.filter_eq_nil_iff]; intro u hu; have := h.1 u hu; simp; omega
      simp only [List.filter_cons, h1, h2]
      have e1 : decide (s.base < s.base + s.pages) = true := by simp; omega
      have e2 : decide (s.base < s.base) = false := by simp
      rw [e1, e2]; simp
    · have hts := h.1 s hm'
      have htp := hp t (by simp)
      have e1 : decide (t.base < s.base + s.pages) = true := by simp; omega
      have e2 : decide (t.base < s.base) = true := by simp; omega
      simp only [List.filter_cons, e1, e2, if_true, List.cons_append]
      rw [ih h.2 (fun u hu => hp u (by simp [hu])) hm']

theorem all67_does {T : TL} {n : Nat} {l : List Sp} {X : HP} (h : SpanAt T n l X) (b3 b4 c0 : Nat) {r : HP} (lp : Nat) (rc0 : Loop)
    (hl : IsLoop 35 [(3, .pointer (some ⟨b3, 0, none⟩)), (6, .pointer (some ⟨b4, 0, none⟩))] (rangeAt 0 code19) rc0) :
    Does Tryd.prog 67 #[.func (.yield lp) #[] #[], .pointer (some ⟨c0, 0, none⟩)]
      (pt lp (.loop rc0) + (pt b3 (.cells #[.int .i64 (-1)] 3 (0, 0)) + (pt b4 (.cells #[.slice none 0 0] 46 (0, 0)) + (pt c0 (.cells #[.pointer (some ⟨T.t, 0, none⟩)] 23 (0, 0)) + (X + r)))))
      fun e m' => (∃ v, e = .returned v) ∧ ∃ s Hs, Own 34 3 spC l s Hs ∧ Over (pt lp (.loop (rcNext rc0)) + (pt b4 (.cells #[.slice s.a s.n s.cap] 46 (0, 0)) + (Hs + (X + r)))) m' := by
  obtain ⟨us, l0, k, S, O, G, rfl⟩ := h
  have hnle := G.g.nle
  have hsl := G.slen
  have hlen := G.ok.len
  refine F67_fn ?_
  unfold F67
  refine hLoad_ptr (by rfl) ?_
  refine hIf_false rfl ?_
  rw [show pt lp (.loop rc0) = pt lp (.loop (rcNext rc0)) by rw [hl.next]]
  refine hLoop_of (fun d x m' => ∃ (a : Nat) (s : Sl) (Hs : HP), a ≤ n ∧ d = n - a ∧ x = ((a : Int), ()) ∧ Own 34 3 spC (l.filter fun t => decide (t.base < a)) s Hs ∧ (∀ t ∈ l, ¬ (t.base < a ∧ a < t.base + t.pages)) ∧
    Over (pt lp (.loop (rcNext rc0)) + (pt b3 (.cells #[.int .i64 (-1)] 3 (0, 0)) + (pt b4 (.cells #[.slice s.a s.n s.cap] 46 (0, 0)) + (Hs + (pt c0 (.cells #[.pointer (some ⟨T.t, 0, none⟩)] 23 (0, 0)) + (spanX T n us (levels k l0) S O + r)))))) m') ?_ ?_
  · refine ⟨_, 0, ⟨none, 0, 0⟩, 0, by omega, rfl, rfl, by rw [show (l.filter fun t => decide (t.base < 0)) = [] by simp]; exact Own.nil, fun t ht h => by omega, ?_⟩
    simp only [HP.zero_add]; exact Over.refl _
  rintro d x m' ⟨a, s, Hs, ha, rfl, rfl, hown, hin, g, rfl⟩
  refine hAll_of fun _ => ?_
  unfold F67_l2
  dsimp only
  unfold spanX
  refine hLoad_ptr (by rfl) ?_
  refine hNil_some (hLoad_add (hLoad_slice (by rfl) ?_))
  dsimp only
  refine hIf_dec (fun h1 => ?_) (fun h1 => ?_)
  · have ha' : a < n := by omega
    refine hLoad_ptr (by rfl) ?_
    refine hNil_some (hLoad_add (hLoad_slice (by rfl) ?_))
    dsimp only
    refine hIdx_of (by omega) (by omega) ?_
    have e0 : 0 + (a : Int).toNat * 3 = a * 3 := by omega
    rw [e0]
    have hSa : S[a]? = some S[a] := List.getElem?_eq_getElem (by omega)
    refine hLoad_int (rowsSp (j := 0) (by omega) (by omega) hSa) ?_
    refine hLoad_add (hLoad_int (rowsSp (j := 1) (by omega) (by omega) hSa) ?_)
    refine hLoad_add (hLoad_int (rowsSp (j := 2) (by omega) (by omega) hSa) ?_)
    refine hNew_of fun b16 => hStore3_0 (hStore3_1 (hStore3_2 ?_))
    refine hLoad_int (by rfl) (hLoad_int (by rfl) (hLoad_int (by rfl) ?_))
    refine hEq_of (spEq _ _ _ _ _ _ _ _ _) ?_
    rcases Classical.em (∃ t ∈ l, t.base = a) with ⟨t, ht, rfl⟩ | hno
    · obtain ⟨h5, _⟩ := G.at_ t ht
      rw [h5] at hSa
      simp only [Option.some.injEq] at hSa
      rw [← hSa]
      have hpos := G.ok.pos t ht
      have hne : intsEq [((t.base : Int), 0), ((t.pages : Int), 0), (t.tag, 0)] = false := by
        simp only [intsEq, Bool.and_eq_false_iff, beq_eq_false_iff_ne]; right; left; omega
      rw [hne]
      refine hIf_false rfl (hLoad_int (by rfl) (hLoad_int (by rfl) (hLoad_int (by rfl) ?_)))
      have hstep := filter_step G.ok.sorted (fun s hs => (G.ok.pos s hs).1) ht
      have hql : (l.filter fun u => decide (u.base < t.base)).length ≤ n := Nat.le_trans (List.length_filter_le _ _) hlen
      refine hYield_of (F19_y0 (rc := rcNext rc0) (R := fun e m' => e = .returned (.bool true) ∧ ∃ s' Hs', Own 34 3 spC (l.filter fun u => decide (u.base < t.base + t.pages)) s' Hs' ∧
        Over (pt lp (.loop (rcNext rc0)) + (pt b3 (.cells #[.int .i64 (-1)] 3 (0, 0)) + (pt b4 (.cells #[.slice s'.a s'.n s'.cap] 46 (0, 0)) + (Hs' + (pt c0 (.cells #[.pointer (some ⟨T.t, 0, none⟩)] 23 (0, 0)) + (spanX T n us (levels k l0) S O + r))))) + pt b16 (.cells #[.int .i64 (t.base : Int), .int .i64 (t.pages : Int), .int .i64 t.tag] 34 (0, 0))) m') hl rfl (by rw [HP.add_left_comm, HP.add_assoc]) ?_) ?_
      · unfold F19_r0
        refine hAll_of fun _ => hNew_of fun b20 => hStore3_0 (hStore3_1 (hStore3_2 (hRec_of ?_)))
        refine hLoad_slice (by rfl) (hLoad_int (by rfl) (hLoad_int (by rfl) (hLoad_int (by rfl) (hNew_of fun b25 => ?_))))
        refine hAppend_Own hown t spC_len (Row.of (c := #[.int .i64 (t.base : Int), .int .i64 (t.pages : Int), .int .i64 t.tag]) (fun j v hj => by rw [Nat.zero_add]; simpa [spC] using hj)) rfl rfl (by omega) (by omega) (fun s2 H2 r2 hO2 hr2 => ?_)
        obtain ⟨g2, rfl⟩ := hr2
        rw [← hstep] at hO2
        have hn2 := hO2.len
        have hl2 : (l.filter fun u => decide (u.base < t.base + t.pages)).length ≤ n := Nat.le_trans (List.length_filter_le _ _) hlen
        refine hStore1_0 (hLoad_slice (by rfl) (hLoad_int (by rfl) ?_))
        dsimp only
        refine hIf_eqF (by omega) (hLoad_slice (by rfl) ?_)
        dsimp only
        refine hIf_neg (by omega) (hRec_of ⟨rfl, s2, H2, hO2, ?_⟩)
        rw [show rcNext (rcNext rc0) = rcNext rc0 from rfl]
        unfold spanX
        exact Over.of _ _
      · rintro e m' ⟨rfl, s', Hs', hO', g3, rfl⟩
        refine ⟨_, Over.refl _, _, rfl, hIf_false rfl (hLoad_int (by rfl) (hInt_i64 (by omega) (by omega) ⟨n - (t.base + t.pages), by omega, t.base + t.pages, s', Hs', by omega, rfl, by rw [show ((t.base : Int) + (t.pages : Int)) = ((t.base + t.pages : Nat) : Int) by omega], hO', fun u hu hh => ?_, by unfold spanX; exact Over.of _ _⟩))⟩
        have hu1 := G.ok.pos u hu
        have : u = t := by
          rcases Nat.le_total t.base u.base with h6 | h6
          · exact G.ok.apart hu ht (p := u.base) ⟨by omega, by omega⟩ ⟨by omega, by omega⟩
          · exact G.ok.apart hu ht (p := t.base) ⟨by omega, by omega⟩ ⟨by omega, by omega⟩
        subst this; omega
    · have hz := G.none_ a ha' fun t ht e => hno ⟨t, ht, e⟩
      rw [hz] at hSa
      simp only [Option.some.injEq] at hSa
      rw [← hSa]
      refine hIf_true rfl (hInt_i64 (by omega) (by omega) ⟨n - (a + 1), by omega, a + 1, s, Hs, by omega, rfl, rfl, ?_, fun t ht hh => ?_, ?_⟩)
      · have e : (l.filter fun t => decide (t.base < a + 1)) = l.filter fun t => decide (t.base < a) := by
          apply List.filter_congr
          intro t ht
          have : t.base ≠ a := fun e => hno ⟨t, ht, e⟩
          simp only [decide_eq_decide]; omega
        rw [e]; exact hown
      · have h6 := hin t ht
        have : t.base ≠ a := fun e => hno ⟨t, ht, e⟩
        omega
      · exact Over.of _ _
  · obtain rfl : a = n := by omega
    refine ⟨⟨_, rfl⟩, s, Hs, ?_, ?_⟩
    · have e : (l.filter fun t => decide (t.base < a)) = l := by
        rw [List.filter_eq_self]; intro t ht; have := G.ok.pos t ht; simp; omega
      rw [e] at hown; exact hown
    · exact Over.of _ _

theorem fn94 : isFn Tryd.prog 94 = true := by kernel_rfl
theorem sall_does {T : TL} {n : Nat} {l : List Sp} {X : HP} (h : SpanAt T n l X) {m r : HP} [hs : Sub X m r] :
    Does Tryd.prog 19 #[.pointer (some ⟨T.t, 0, none⟩), .int .i64 (-1)] m fun e m' => ∃ s Hs, Own 34 3 spC l s Hs ∧ ret (.tuple #[.slice s.a s.n s.cap, .bool true]) (X + (Hs + r)) e m' := by
  rw [hs.eq]
  refine F19_fn (fun ch m' h => by obtain ⟨s, Hs, _, h, _⟩ := h; cases h) ?_
  unfold F19
  refine hNew_of fun b3 => hNew_of fun b4 => ?_
  refine hCall_of (R := fun e m' => ∃ c0, e = .returned (.func (.func 67) #[] #[.pointer (some ⟨c0, 0, none⟩)]) ∧ m' = pt c0 (.cells #[.pointer (some ⟨T.t, 0, none⟩)] 23 (0, 0)) + (pt b4 (.cells #[.slice none 0 0] 46 (0, 0)) + (pt b3 (.cells #[.int .i64 (-1)] 3 (0, 0)) + (X + r))))
    (F45_fn (by unfold F45; exact hNew_of fun c0 => ⟨c0, rfl, rfl⟩)) ?_
  rintro e m' ⟨c0, rfl, rfl⟩
  refine ⟨_, Over.refl _, _, rfl, hCmp_fn fn94 (hIf_false rfl ?_)⟩
  refine hLoad_int (by rfl) ?_
  refine hIf_eqF (by omega) ?_
  refine hRange_of fun lp rr rc0 hl => ?_
  refine ((all67_does h b3 b4 c0 (r := pt rr (.deferred (some [])) + r) lp rc0 hl).from ⟨0, by rw [HP.add_zero]; ac_rfl⟩).up ?_
  rintro e m3 ⟨hv, s, Hs, hO, ho⟩
  refine ⟨_, ho, hv, rcNext rc0, _, rfl, rfl, ?_⟩
  refine hLoad_slice (by rfl) ?_
  exact gone ⟨s, Hs, hO, ret.mk (Over.of _ _)⟩

theorem ssame_does {l : List Sp} {s1 s2 : Sl} {H1 H2 : HP} (h1 : Own 34 3 spC l s1 H1) (h2 : Own 34 3 spC l s2 H2) (hlen : l.length ≤ 4096) {m r r' : HP} [hs1 : Sub H1 m r] [hs2 : Sub H2 m r'] :
    Does Tryd.prog 20 #[.slice s1.a s1.n s1.cap, .slice s2.a s2.n s2.cap] m (ret (.bool true) m) := by
  have e1 := h1.len; have e2 := h2.len
  refine F20_fn (a_1 := s1) (b_2 := s2) ?_
  unfold F20
  refine hIf_neF (by omega) ?_
  refine hLoop_of (fun d x m' => ∃ i : Nat, i ≤ l.length ∧ d = l.length - i ∧ x = ((i : Int), ()) ∧ m' = m) ?_ ?_
  · exact ⟨_, 0, by omega, rfl, rfl, rfl⟩
  rintro d x m' ⟨i, hi, rfl, rfl, rfl⟩
  refine hAll_of fun _ => ?_
  unfold F20_l4
  dsimp only
  refine hIf_dec (fun h => ?_) (fun h => ⟨rfl, Over.refl _⟩)
  have hi' : i < l.length := by omega
  obtain ⟨b, cap, c, rfl, rfl, hc0, hc1, hc2⟩ := ownRow h1 hi'
  obtain ⟨b', cap', c', rfl, rfl, hd0, hd1, hd2⟩ := ownRow h2 hi'
  haveI : Has b m' (.cells c 34 (0, 0)) r := ⟨hs1.eq⟩
  haveI : Has b' m' (.cells c' 34 (0, 0)) r' := ⟨hs2.eq⟩
  have e0 : 0 + (i : Int).toNat * 3 = i * 3 := by omega
  dsimp only
  refine hIdx_of (by omega) (by omega) ?_
  rw [e0]
  refine hLoad_int hc0 ?_
  refine hLoad_add (hLoad_int hc1 ?_)
  refine hLoad_add (hLoad_int hc2 ?_)
  refine hIdx_of (by omega) (by omega) ?_
  rw [e0]
  refine hLoad_int hd0 ?_
  refine hLoad_add (hLoad_int hd1 ?_)
  refine hLoad_add (hLoad_int hd2 ?_)
  refine hEq_of (spEq _ _ _ _ _ _ _ _ _) ?_
  refine hIf_not (hIf_true (by simp [intsEq]) ?_)
  exact hInt_i64 (by omega) (by omega) ⟨l.length - (i + 1), by omega, i + 1, by omega, rfl, rfl, rfl⟩

end Go.Proofs.YtolfcdjbchdkgaaDoor
/- SpanPlays: awake. Own work. -/
namespace Go.Proofs.YtolfcdjbchdkgaaDoor
open Go Go.Hp
set_option maxRecDepth 100000
attribute [local irreducible] hLoad hStore hNew hInt hQuo hRem hShl hShr hIf hNil hIdx hCut hElem hByte hAppend hMake hCall hYield hGet hPut hDel hNewMap hLoop hLet hAll hRange hRec hEq hCmp bitv W Does HYield

theorem First.uniq {U : Nat → Bool} {c a b : Nat} (h1 : First U c a) (h2 : First U c b) : a = b := by
  rcases Nat.lt_trichotomy a b with h | h | h
  · exact absurd h1.1 (h2.2 a h)
  · exact h
  · exact absurd h2.1 (h1.2 b h)
theorem Longest.uniq {U : Nat → Bool} {x y : Nat} (h1 : Longest U x) (h2 : Longest U y) : x = y := by
  obtain ⟨a, ha⟩ := h1.2; obtain ⟨b, hb⟩ := h2.2
  have := h1.1 b y hb; have := h2.1 a x ha; omega

theorem awake5_does {m r : HP} {Tt : TypeId} {fr : Nat × Nat} [Has 0 m (.cells deBc Tt fr) r] : Does Tryd.prog 10 #[] m (ret (.bool true) m) := by
  refine F10_fn ?_
  unfold F10
  refine hCall_of (snew_does 8) ?_
  rintro e m' (⟨h1, _⟩ | ⟨T, X, _, hT, rfl, ho⟩)
  · omega
  refine ⟨_, ho, _, _, rfl, hIf_false rfl (hIf_neF rfl ?_)⟩
  refine hCall_of (salloc_does hT 3 7 (by omega)) ?_
  have hfree : Free (UL 8 []) 0 3 := fun p _ h => by unfold UL; simp; omega
  rintro e m' (⟨h1, _⟩ | ⟨_, h1, _⟩ | ⟨a, X1, _, hf, hT1, rfl, ho⟩)
  · omega
  · exact absurd hfree (h1 0)
  have ha : a = 0 := by
    rcases Nat.eq_zero_or_pos a with h | h
    · exact h
    · exact absurd hfree (hf.2 0 h)
  subst ha
  have hT1 : SpanAt T 8 [⟨0, 3, 7⟩] X1 := hT1
  refine ⟨_, ho, _, _, _, _, rfl, ?_⟩
  refine hNew_of fun b9 => hStore3_0 (hStore3_1 (hStore3_2 ?_))
  refine hCall_ret (sfind_does hT1 2) ⟨_, _, _, _, rfl, ?_⟩
  have hfd : findS [⟨0, 3, 7⟩] 2 = some ⟨0, 3, 7⟩ := by rfl
  rw [hfd]
  refine hNew_of fun b15 => hStore3_0 (hStore3_1 (hStore3_2 ?_))
  refine hIf_eqT rfl (hLoad_int (by rfl) (hLoad_int (by rfl) (hLoad_int (by rfl) ?_)))
  refine hEq_of (spEq _ _ _ _ _ _ _ _ _) (hIf_true (by simp [intsEq]) (hIf_true rfl ?_))
  refine hLoad_int (by rfl) (hLoad_int (by rfl) (hLoad_int (by rfl) (hLoad_int (by rfl) (hLoad_int (by rfl) (hLoad_int (by rfl) ?_)))))
  refine hEq_of (spEq _ _ _ _ _ _ _ _ _) (hIf_true (by simp [intsEq]) ?_)
  refine hCall_of (sfree_does hT1 1) ?_
  rintro e m' (⟨_, rfl, ho⟩ | ⟨s, X2, hs, hb, _⟩)
  · refine ⟨_, ho, _, rfl, hIf_eqT rfl ?_⟩
    refine hCall_of (sfree_does hT1 0) ?_
    rintro e m' (⟨h1, _⟩ | ⟨s, X2, hs, hb, hT2, rfl, ho⟩)
    · exact absurd rfl (h1 ⟨0, 3, 7⟩ (by simp))
    · exact ⟨_, ho, _, rfl, ret.eq (by simp) (Over.of _ _)⟩
  · simp only [List.mem_singleton] at hs; subst hs; simp at hb

end Go.Proofs.YtolfcdjbchdkgaaDoor
/- SpanPlays: the law's function answers true. Own work. -/
namespace Go.Proofs.YtolfcdjbchdkgaaDoor
open Go Go.Hp
set_option maxRecDepth 100000
attribute [local irreducible] hLoad hStore hNew hInt hQuo hRem hShl hShr hIf hNil hIdx hCut hElem hByte hAppend hMake hCall hYield hGet hPut hDel hNewMap hLoop hLet hAll hRange hRec hEq hCmp bitv W Does HYield

def I64 (x : Int) : Prop := -9223372036854775808 ≤ x ∧ x ≤ 9223372036854775807
/-- The script's calls stand in memory. -/
structure Script (r : HP) (sl : Sl) (L : List (Int × Int × Int)) : Prop where
  len : sl.n = L.length
  at_ : ∀ (i : Nat) (x : Int × Int × Int), L[i]? = some x → ∃ ad, sl.a = some ad ∧ At r (ad.add (i * 3)) (.int .i64 x.1) ∧ At r ((ad.add (i * 3)).add 1) (.int .i64 x.2.1) ∧ At r ((ad.add (i * 3)).add 2) (.int .i64 x.2.2)
  rng : ∀ x ∈ L, I64 x.1 ∧ I64 x.2.1 ∧ I64 x.2.2
  le : (L.length : Int) ≤ 9223372036854775807

theorem refCounts_does {R : RL} {n : Nat} {l : List Sp} {Y : HP} (h : RefAt R n l Y) {m r : HP} [hs : Sub Y m r] {K : Addr → HP → Prop}
    (hk : ∀ x : Nat, Longest (UL n l) x → ∀ (X : List PanicEntry → HP → Prop) (K' : Value → HP → Prop), K' (.tuple #[.int .i64 (cntFree (UL n l) n : Nat), .int .i64 (x : Int)]) (Y + r) → True) : True := trivial

theorem spanplays_does (n : Int) (sl : Sl) (L : List (Int × Int × Int)) {r r2 : HP} {Tt : TypeId} {fr : Nat × Nat} [Has 0 r (.cells deBc Tt fr) r2] (hS : Script r sl L) :
    Does Tryd.prog 3 #[.int .i64 n, .slice sl.a sl.n sl.cap] r (ret (.bool true) r) := by
  refine F3_fn (script_2 := sl) ?_
  unfold F3
  refine hCall_of (snew_does n) ?_
  rintro e m' (⟨h1, rfl, ho⟩ | ⟨T, X0, h1, hT, rfl, ho⟩)
  · refine ⟨_, ho, _, _, rfl, hCall_of (rtnew_does n) ?_⟩
    rintro e m' (⟨_, rfl, ho⟩ | ⟨R, Y0, h2, _⟩)
    · refine ⟨_, ho, _, _, rfl, hCall_ret awake5_does ⟨_, rfl, ?_⟩⟩
      exact hIf_false rfl (hIf_neF rfl (hIf_false rfl (hIf_true rfl ⟨rfl, Over.refl _⟩)))
    · exact absurd h2 h1
  refine ⟨_, ho, _, _, rfl, hCall_of (rtnew_does n) ?_⟩
  rintro e m' (⟨h2, _⟩ | ⟨R, Y0, _, hR, rfl, ho⟩)
  · exact absurd h1 h2
  refine ⟨_, ho, _, _, rfl, hCall_ret awake5_does ⟨_, rfl, ?_⟩⟩
  refine hIf_false rfl (hIf_neF rfl (hIf_false rfl (hIf_false rfl ?_)))
  obtain ⟨n, rfl⟩ := Int.eq_ofNat_of_zero_le (a := n) (by omega)
  rw [Int.toNat_natCast] at hT hR
  have hlen := hS.len
  refine hLoop_of (fun d x m' => ∃ (i : Nat) (l : List Sp) (X Y : HP), i ≤ L.length ∧ d = L.length - i ∧ x = ((i : Int), ()) ∧ SpanAt T n l X ∧ RefAt R n l Y ∧ Over (X + (Y + r)) m') ?_ ?_
  · exact ⟨_, 0, [], X0, Y0, by omega, rfl, rfl, hT, hR, Over.of _ _⟩
  rintro d x m' ⟨i, l, X, Y, hi, rfl, rfl, hX, hY, g, rfl⟩
  refine hAll_of fun _ => ?_
  unfold F3_l8
  dsimp only
  refine hIf_dec (fun h3 => ?_) (fun h3 => ?_)
  · have hi' : i < L.length := by omega
    have hL : L[i]? = some L[i] := List.getElem?_eq_getElem hi'
    obtain ⟨ad, hda, hA0, hA1, hA2⟩ := hS.at_ i _ hL
    obtain ⟨hr0, hr1, hr2⟩ := hS.rng _ (List.getElem_mem hi')
    have hle := hS.le
    generalize L[i] = op at hA0 hA1 hA2 hr0 hr1 hr2
    obtain ⟨kd, a, b⟩ := op
    dsimp only at hA0 hA1 hA2 hr0 hr1 hr2
    have up : ∀ {ad v}, At r ad v → At (X + (Y + r) + g) ad v := fun h => At.sub h
    refine hIdx_any hda (by omega) (by omega) ?_
    rw [Int.toNat_natCast]
    refine hLoad_here (t := .int .i64) (x := kd) (up hA0) (hLoad_here (t := .int .i64) (x := a) (up hA1) (hLoad_here (t := .int .i64) (x := b) (up hA2) ?_))
    refine hNew_of fun b18 => hStore3_0 (hStore3_1 (hStore3_2 ?_))
    refine hLet_of (fun s m' => ∃ (l : List Sp) (X Y : HP), s = (true, ()) ∧ SpanAt T n l X ∧ RefAt R n l Y ∧ Over (X + (Y + (pt b18 (.cells #[.int .i64 kd, .int .i64 a, .int .i64 b] 32 (0, 0)) + r))) m') ?_ ?_
    · refine hLoad_int (by rfl) (hIf_eq (fun h4 => ?_) (fun h4 => ?_))
      · refine hLoad_int (by rfl) (hLoad_int (by rfl) ?_)
        refine hCall_of (salloc_does hX a b hr1.2) ?_
        rintro e m' (⟨h5, rfl, ho⟩ | ⟨h5, h6, rfl, ho⟩ | ⟨x, X1, h5, h6, hX1, rfl, ho⟩)
        all_goals
          refine ⟨_, ho, _, _, _, _, rfl, ?_⟩
          refine hNew_of fun b28 => hStore3_0 (hStore3_1 (hStore3_2 (hLoad_int (by rfl) (hLoad_int (by rfl) ?_))))
          refine hCall_of (ralloc5_does hY a b hr1.2) ?_
          rintro e m' (⟨h7, rfl, ho⟩ | ⟨h7, h8, rfl, ho⟩ | ⟨y, Y1, h7, h8, hY1, rfl, ho⟩)
          all_goals first
            | omega
            | exact absurd h8.1 (h6 _)
            | exact absurd h6.1 (h8 _)
            | (refine ⟨_, ho, _, _, _, _, rfl, ?_⟩
               refine hNew_of fun b36 => hStore3_0 (hStore3_1 (hStore3_2 ?_))
               refine hLoad_int (by rfl) (hLoad_int (by rfl) (hLoad_int (by rfl) (hLoad_int (by rfl) (hLoad_int (by rfl) (hLoad_int (by rfl) ?_)))))
               refine hEq_of (spEq _ _ _ _ _ _ _ _ _) ?_
               first
                 | exact hIf_true (by simp [intsEq]) ⟨l, X, Y, rfl, hX, hY, Over.of _ _⟩
                 | (obtain rfl := First.uniq h6 h8
                    exact hIf_true (by simp [intsEq]) ⟨_, X1, Y1, rfl, hX1, hY1, Over.of _ _⟩))
      · refine hIf_eq (fun h5 => ?_) (fun h5 => ?_)
        · refine hLoad_int (by rfl) (hLoad_int (by rfl) ?_)
          refine hCall_of (sfree_does hX a) ?_
          rintro e m' (⟨h6, rfl, ho⟩ | ⟨s, X1, hs1, hs2, hX1, rfl, ho⟩)
          all_goals
            refine ⟨_, ho, _, rfl, hLoad_int (by rfl) ⟨rfl, ?_⟩⟩
            refine hCall_of (rfree5_does hY a) ?_
            rintro e m' (⟨h7, Y1, hY1, rfl, ho⟩ | ⟨t, Y1, ht1, ht2, hY1, rfl, ho⟩)
          · exact ⟨_, ho, _, rfl, l, X, Y1, rfl, hX, hY1, Over.of _ _⟩
          · exact absurd ht2 (h6 t ht1)
          · exact absurd hs2 (h7 s hs1)
          · have : s.base = t.base := by omega
            rw [← this] at hY1
            exact ⟨_, ho, _, rfl, _, X1, Y1, rfl, hX1, hY1, Over.of _ _⟩
        · exact ⟨l, X, Y, rfl, hX, hY, Over.of _ _⟩
    · rintro s m' ⟨l, X, Y, rfl, hX, hY, g, rfl⟩
      refine hAll_of fun _ => ?_
      unfold F3_j18
      dsimp only
      refine hLoad_int (by rfl) ?_
      refine hCall_ret (sfind_does hX a) ⟨_, _, _, _, rfl, ?_⟩
      refine hNew_of fun b59 => hStore3_0 (hStore3_1 (hStore3_2 (hLoad_int (by rfl) ?_)))
      refine hCall_ret (rfind_does hY a hr1) ⟨_, _, _, _, rfl, ?_⟩
      refine hNew_of fun b66 => hStore3_0 (hStore3_1 (hStore3_2 ?_))
      refine hCall_of (scounts_does hX) ?_
      rintro e m' ⟨x, hx, rfl, ho⟩
      refine ⟨_, ho, _, _, rfl, ?_⟩
      obtain ⟨B, s, Hl, G, rfl⟩ := hY
      unfold refX
      refine hNil_some (hLoad_ptr (by rfl) ?_)
      refine hCall_of (rcounts_does (ub := R.ub) (B := B) (by have := G.blen; have := G.nle; omega)) ?_
      rintro e m' ⟨y, hy, rfl, ho⟩
      rw [G.used] at hy
      obtain rfl := Longest.uniq hx hy
      refine ⟨_, ho, _, _, rfl, hIf_false rfl ?_⟩
      refine hLoad_int (by rfl) (hLoad_int (by rfl) (hLoad_int (by rfl) (hLoad_int (by rfl) (hLoad_int (by rfl) (hLoad_int (by rfl) ?_)))))
      refine hEq_of (spEq _ _ _ _ _ _ _ _ _) (hIf_not (hIf_true (by simp [intsEq]) (hIf_false (by simp) ?_)))
      refine hIf_neF (by rw [G.used, G.blen]) (hIf_neF rfl ?_)
      exact hInt_i64 (by omega) (by omega) ⟨L.length - (i + 1), by omega, i + 1, l, X, refX R B s Hl, by omega, rfl, rfl, hX, ⟨B, s, Hl, G, rfl⟩, by unfold refX; exact Over.of _ _⟩
  · refine hCall_of (sall_does hX) ?_
    rintro e m' ⟨s, Hs, hO, rfl, ho⟩
    refine ⟨_, ho, s, _, rfl, hIf_true rfl ?_⟩
    obtain ⟨B, s2, Hl, G, rfl⟩ := hY
    have hle := G.ok.len; have := G.nle
    unfold refX
    refine hNil_some (hLoad_add (hLoad_slice (by rfl) ?_))
    dsimp only
    refine hCall_ret (ssame_does hO G.own (by omega)) ⟨_, rfl, ret.mk (Over.of _ _)⟩

end Go.Proofs.YtolfcdjbchdkgaaDoor
/- A law's end: a function that answers true, and keeps every block there was. Own work; nothing of any program. -/
namespace Go.Hp
open Go Go.RowKit Go.ChangeShapes

variable {H : Type} {enc : TypeId × Value → H} {P : Program}

/-- What a world that holds the whole of an earlier one shares with it. -/
structure Kept (W W' : World) : Prop where
  os : W'.os = W.os
  output : W'.output = W.output
  block : ∀ b, b < W.heap.size → W'.heap[b]? = W.heap[b]?
theorem Holds.kept {W W' : World} {m : HP} (h : Holds W' m) (ho : Over (whole W) m) : Kept W W' := by
  obtain ⟨g, rfl⟩ := ho
  refine ⟨h.same.1, h.same.2, fun b hb => ?_⟩
  have e : W.heap[b]? = some W.heap[b] := Array.getElem?_eq_getElem hb
  rw [e]; exact h.of_whole e
theorem Kept.sameAt {W W' : World} (h : Kept W W') {p : MemPlace} (hp : p.block < W.heap.size) : W.sameAt W' p := by
  cases p with
  | cell b o => exact World.cell?_of_block (w := W) (h.block b hp)
  | map b => exact h.block b hp
theorem Kept.keptBut {W W' : World} (h : Kept W W') (may : MemPlace → Prop) : W.keptBut W' may := by
  refine ⟨h.os, h.output, fun i hi => ?_⟩
  rw [h.block i hi]
  cases ho : W.heap[i]? with
  | none => rfl
  | some o => cases o <;> simp
theorem Kept.frozen {W W' : World} (h : Kept W W') {a : Addr} (ha : a.block < W.heap.size) : W'.frozen? a = W.frozen? a := by
  simp only [World.frozen?, h.block _ ha]

theorem Kept.trodAll (hl : laidOutB P = true) {W W' : World} (h : Kept W W') {sp' : Nat → Bool} : ∀ {ts : List TypeId} {vs : List Value} {ds : List (DataW H)} {ps : List MemPlace},
    (∀ t ∈ ts, P.readableRec t = true ∧ t < P.types.size) → DataW.TrodAll enc P W 0 (fun _ => true) true ts vs ds ps → (∀ p ∈ ps, sp' p.block = true) → (∀ p ∈ ps, p.block < W.heap.size) → DataW.TrodAll enc P W' 0 sp' true ts vs ds ps
  | [], [], [], _, _, h0, _, _ => h0
  | t :: ts, v :: vs, d :: ds, ps, hts, h0, hsp, hlt => by
    obtain ⟨p, q, h1, h2, rfl⟩ := h0
    have ht := hts t (by simp)
    refine ⟨p, q, WideElems.Trod_stays hl ht.1 ht.2 h1 (fun x hx => h.sameAt (hlt x (by simp [hx]))) (fun x hx => hsp x (by simp [hx])), ?_, rfl⟩
    exact Kept.trodAll hl h (fun t ht => hts t (by simp [ht])) h2 (fun x hx => hsp x (by simp [hx])) (fun x hx => hlt x (by simp [hx]))
  | [], _ :: _, _, _, _, h0, _, _ => h0.elim
  | [], [], _ :: _, _, _, h0, _, _ => h0.elim
  | _ :: _, [], _, _, _, h0, _, _ => h0.elim
  | _ :: _, _ :: _, [], _, _, h0, _, _ => h0.elim

/-- **A law answers true, and nothing that there was is turned.** -/
theorem post_true (hl : laidOutB P = true) {f : Func} {s : ChangeSpec} {apart fresh handsOn again : Bool} {W W' : World} {args : Array Value} {ds gs : List (DataW H)} {before : List MemPlace} {tb : TypeId}
    (hW : DataW.Whole enc P f.params.toList s.vars apart W args.toList ds gs before) (hk : Kept W W') (hv : s.vars = []) (hs : s.fn H ds = { results := [.lit (.bool true)], args := ds })
    (hts : ∀ t ∈ f.params.toList, P.readableRec t = true ∧ t < P.types.size) (hr : f.resultTypes = #[tb]) (hb : P.underlying tb = some .bool) : s.post enc P f apart fresh handsOn again W args (.bool true) W' := by
  have hlt := hW.lt
  obtain ⟨p, q, hA, hV, hpq, hz, hn⟩ := hW
  have hgs : gs = [] ∧ q = [] := by
    rw [hv] at hV
    cases gs with
    | nil => exact ⟨rfl, hV⟩
    | cons g gs => exact hV.elim
  obtain ⟨rfl, rfl⟩ := hgs
  rw [List.append_nil] at hpq
  subst hpq
  have hlt' : ∀ x ∈ before, x.block < W.heap.size := fun x hx => by simpa using hlt x hx
  have hargs : ∀ sp : Nat → Bool, (∀ x ∈ before, sp x.block = true) → DataW.TrodAll enc P W' 0 sp true f.params.toList args.toList ds before := fun sp hsp => hk.trodAll hl hts hA hsp hlt'
  have hres : ∀ (b : Nat) (sp : Nat → Bool) (hd : Bool), DataW.TrodAll enc P W' b sp hd f.resultTypes.toList ((Value.bool true).resultList f.resultTypes.size) [.lit (.bool true)] [] := fun b sp hd => by
    rw [hr]; exact trodAll_mk1 (shut_bool hb true)
  refine ⟨ds, [], before, [], before, [], ⟨before, [], hA, hV, by simp, hz, hn⟩, ?_, ?_, ?_, hk.keptBut _, fun _ => ?_⟩
  · rw [List.append_nil, hs]; exact hres _ _ _
  · rw [List.append_nil, hs]; exact hargs _ fun x hx => by simpa using hlt' x hx
  · rw [List.append_nil, hs, hv]; rfl
  · refine ⟨ok_one hr rfl (okWide_bool_mk hb true), _, ([] : List (DataW H)), ([] ++ before) ++ [], ⟨[] ++ before, [], trodAll_append (hargs _ fun _ _ => rfl) (hres _ _ _), ?_, rfl, ?_, ?_⟩, ?_⟩
    · rw [hv]; rfl
    · intro b off hp
      have hp : MemPlace.cell b off ∈ before := by simpa using hp
      rw [hk.frozen (a := ⟨b, off, none⟩) (hlt' _ hp)]
      exact hz b off hp
    · intro ha; simpa using hn ha
    · intro x hx _; simpa using hx
theorem whole_split {w : World} {b : Nat} {o : Obj} (h : w.heap[b]? = some o) : ∃ r, whole w = pt b o + r := by
  refine ⟨⟨fun i => if i = b then .none else whole w i, (whole w).tk⟩, HP.ext (fun i => ?_) rfl⟩
  rw [HP.add_app]
  by_cases e : i = b
  · subst e
    rw [pt_same]
    simp only [whole, h, if_true]; rfl
  · rw [pt_other _ e]
    simp only [if_neg e]; rfl
theorem At.whole {w : World} {a : Addr} {v : Value} (h : w.cell? a = some v) (hs : a.spot = none) : At (whole w) a v := by
  unfold World.cell? at h
  cases ho : w.heap[a.block]? with
  | none => rw [ho] at h; cases h
  | some o =>
    rw [ho] at h
    cases o with
    | cells c T fr =>
      simp only [hs, Option.isSome_none, Bool.false_eq_true, if_false] at h
      obtain ⟨r, hr⟩ := whole_split ho
      exact ⟨c, T, fr, r, hr, hs, h⟩
    | _ => cases h
theorem At.whole' {w : World} {a : Addr} {v : Value} (h : w.cell? a = some v) : At (Hp.whole w) a v := by
  refine At.whole h ?_
  unfold World.cell? at h
  split at h
  · cases hs : a.spot with
    | none => rfl
    | some s => rw [hs] at h; simp at h
  · cases h
end Go.Hp
/- The row: what the laid table gives; the script, opened. Own work. -/
namespace Go.Proofs.YtolfcdjbchdkgaaDoor
open Go Go.Hp Go.ChangeShapes Go.WideShapes Go.ChangeAt Go.WideMaps Go.WideElems Go.RowKit
set_option maxRecDepth 100000

def laid1 : List (String × DataW Unit) := [("math/bits.deBruijn64tab", Rows.laid_math_bits_deBruijn64tab)]
theorem own : ownKnob Tryd.prog.godebug = none := by kernel_rfl
theorem gTab : Tryd.prog.globalNamed "math/bits.deBruijn64tab" = some 0 := by kernel_rfl
theorem tTab : (Tryd.prog.globals[0]?).map (·.type) = some 136 := by kernel_rfl
theorem u136 : Tryd.prog.underlying 136 = some (.array 64 5) := by kernel_rfl
theorem u5 : Tryd.prog.underlying 5 = some (.int .u8) := by kernel_rfl
theorem u3 : Tryd.prog.underlying 3 = some (.int .i64) := by kernel_rfl
theorem u4 : Tryd.prog.underlying 4 = some .bool := by kernel_rfl
theorem u22 : Tryd.prog.underlying 22 = some (.slice 32) := by kernel_rfl
theorem c5 : Tryd.prog.cellsOf 5 = 1 := by kernel_rfl
theorem c32 : Tryd.prog.cellsOf 32 = 3 := by kernel_rfl
theorem laidOut : laidOutB Tryd.prog = true := by kernel_rfl
theorem laid_vals : Rows.laid_math_bits_deBruijn64tab (H := Unit) = .agg (deB.map fun n : Nat => .lit (.int .u8 (n : Int))) := by rfl

theorem tab_of_laid {W : World} (h : laidMetH Tryd.prog laid1 W) : ∃ T fr, W.heap[0]? = some (.cells deBc T fr) := by
  rw [MakeChecks.laidMetH_plain _ _ _ (by kernel_rfl)] at h
  obtain ⟨ps, ⟨g0, t0, cs0, f0, p0, q0, hg0, ht0, hv0, hd0, _, _⟩, _, _⟩ := h
  obtain rfl := Option.some.inj (gTab.symm.trans hg0)
  obtain rfl := Option.some.inj (tTab.symm.trans ht0)
  obtain ⟨xs, m1, rfl, hx, hlen, hn, hel⟩ := DataW.trod_array u136 hd0
  have c136 : Tryd.prog.cellsOf 136 = 64 := by kernel_rfl
  rw [c136] at hlen
  rw [laid_vals] at hx
  simp only [Prod.mk.injEq, DataW.agg.injEq] at hx
  obtain ⟨hx1, _⟩ := hx
  have hcs : cs0 = deBc := by
    apply Array.ext'
    unfold deBc
    rw [List.toList_toArray]
    apply List.ext_getElem?
    intro i
    by_cases hi : i < 64
    · have h1 := hel i hi
      rw [c5, Nat.mul_one] at h1
      have hxi : xs[i]? = some xs[i] := List.getElem?_eq_getElem (by omega)
      rw [hxi] at h1
      obtain ⟨k, e1, e2, _⟩ := DataW.trod_int u5 h1
      have h2 : (xs.map (·.1))[i]? = some (.lit (.int .u8 k)) := by rw [List.getElem?_map, hxi, e2]; rfl
      rw [← hx1, List.getElem?_map] at h2
      rw [List.getElem?_map]
      have h3 : cs0.toList[i]? = some (.int .u8 k) := by
        have := congrArg (fun l : List Value => l[0]?) e1
        simpa using this
      rw [h3]
      cases hd : deB[i]? with
      | none => rw [hd] at h2; cases h2
      | some v =>
        rw [hd] at h2
        simp only [Option.map_some, Option.some.injEq, DataW.lit.injEq, Lit.int.injEq, true_and] at h2 ⊢
        rw [h2]
    · rw [List.getElem?_eq_none (by omega), List.getElem?_eq_none (by rw [List.length_map]; exact Nat.le_trans (show deB.length ≤ 64 from Nat.le_of_ble_eq_true (by kernel_rfl)) (by omega))]
  unfold World.var? at hv0
  rw [gTab] at hv0
  simp only [Option.bind_some] at hv0
  split at hv0
  · rename_i c T fr hc
    simp only [Option.some.injEq] at hv0
    subst hv0 hcs
    exact ⟨T, fr, hc⟩
  · cases hv0

noncomputable def f32 : Array Field := (match Tryd.prog.underlying 32 with | some (.struct fs) => fs | _ => #[])
theorem u32 : Tryd.prog.underlying 32 = some (.struct f32) := by kernel_rfl
theorem f32_0 : (f32[0]?).map (fun f => (f.offset, f.type)) = some (0, 3) := by kernel_rfl
theorem f32_1 : (f32[1]?).map (fun f => (f.offset, f.type)) = some (1, 3) := by kernel_rfl
theorem f32_2 : (f32[2]?).map (fun f => (f.offset, f.type)) = some (2, 3) := by kernel_rfl
theorem f32_get (i : Fin 3) : (f32[i.val]?).map (fun f => (f.offset, f.type)) = some (i.val, 3) := by
  rcases i with ⟨i, hi⟩
  rcases i with _ | _ | _ | i
  · exact f32_0
  · exact f32_1
  · exact f32_2
  · omega
theorem c3 : Tryd.prog.cellsOf 3 = 1 := by kernel_rfl

/-- A struct of three integers, read. -/
theorem op_of {H : Type} {enc : TypeId × Value → H} {W : World} {n : Nat} {cs : List Value} {x : DataW H × List MemPlace} (h : DataW.trod enc Tryd.prog W 0 (fun _ => true) true n 32 cs = some x) :
    ∃ a b c : Int, cs = [.int .i64 a, .int .i64 b, .int .i64 c] ∧ I64 a ∧ I64 b ∧ I64 c := by
  obtain ⟨xs, m, _, rfl, hl, hlen, hf⟩ := DataW.trod_struct u32 h
  rw [c32] at hl
  have get : ∀ i : Fin 3, ∃ a : Int, cs[i.val]? = some (.int .i64 a) ∧ I64 a := by
    intro i
    have hg := f32_get i
    cases hfi : f32[i.val]? with
    | none => rw [hfi] at hg; cases hg
    | some f =>
      rw [hfi] at hg
      simp only [Option.map_some, Option.some.injEq, Prod.mk.injEq] at hg
      obtain ⟨ho, ht⟩ := hg
      have h1 := hf i.val f hfi
      have hsz : f32.size = 3 := by kernel_rfl
      have hi : i.val < xs.length := by rw [hlen, hsz]; exact i.isLt
      rw [ht, c3, ho, List.getElem?_eq_getElem hi] at h1
      obtain ⟨k, e1, e2, e3⟩ := DataW.trod_int u3 h1
      refine ⟨k, ?_, ?_⟩
      · have := congrArg (fun l : List Value => l[0]?) e1
        simpa using this
      · simp only [Lit.wf, Bool.and_eq_true, decide_eq_true_eq] at e3
        have h1 : IntKind.min .i64 = -9223372036854775808 := by decide
        have h2 : IntKind.max .i64 = 9223372036854775807 := by decide
        rw [h1, h2] at e3; exact e3
  obtain ⟨a, ha, ra⟩ := get ⟨0, by omega⟩
  obtain ⟨b, hb, rb⟩ := get ⟨1, by omega⟩
  obtain ⟨c, hc, rc⟩ := get ⟨2, by omega⟩
  refine ⟨a, b, c, ?_, ra, rb, rc⟩
  apply List.ext_getElem?
  intro i
  rcases i with _ | _ | _ | i
  · exact ha
  · exact hb
  · exact hc
  · rw [List.getElem?_eq_none (by omega)]; rfl

theorem cells3 {W : World} {a : Addr} {cs : List Value} (h : W.cells? 0 a 3 = some cs) : ∀ j, j < 3 → W.cell? (a.add j) = cs[j]? := by
  unfold World.cells? at h
  rw [if_pos (Nat.zero_le _)] at h
  intro j hj
  have := mapM_some_get h j j (by simp [hj])
  rw [this]

/-- The script, opened. -/
theorem script_of {H : Type} {enc : TypeId × Value → H} {W : World} {v : Value} {d : DataW H} {p : List MemPlace} {b0 : Nat} (hval : Value.okWide Tryd.prog W .any b0 22 v) (h : DataW.Trod enc Tryd.prog W 0 (fun _ => true) true 22 v d p) :
    ∃ (sl : Sl) (L : List (Int × Int × Int)), v = .slice sl.a sl.n sl.cap ∧ Script (whole W) sl L := by
  obtain ⟨a, len, cap, rfl⟩ := okWide_slice u22 hval
  obtain ⟨fuel, hf⟩ := h
  rcases Deep.open_slice u22 hf with ⟨h1, _⟩ | ⟨ad, len', cap', m, n, D, Pl, h1, _, hle, hcap, hm, _, hel⟩
  · simp only [Value.cells, List.cons.injEq, Value.slice.injEq, and_true] at h1
    obtain ⟨rfl, rfl, rfl⟩ := h1
    exact ⟨⟨none, 0, 0⟩, [], rfl, ⟨rfl, by simp, by simp, by simp⟩⟩
  · simp only [Value.cells, List.cons.injEq, Value.slice.injEq, and_true] at h1
    obtain ⟨rfl, rfl, rfl⟩ := h1
    have hmm : m = cap := by rw [hm]; rfl
    have key : ∀ i, i < len → ∃ x : Int × Int × Int, (I64 x.1 ∧ I64 x.2.1 ∧ I64 x.2.2) ∧ W.cell? ((ad.add (i * 3)).add 0) = some (.int .i64 x.1) ∧ W.cell? ((ad.add (i * 3)).add 1) = some (.int .i64 x.2.1) ∧ W.cell? ((ad.add (i * 3)).add 2) = some (.int .i64 x.2.2) := by
      intro i hi
      obtain ⟨cs', hc1, hc2⟩ := hel i (by omega)
      rw [c32] at hc1
      obtain ⟨x, y, z, rfl, h2⟩ := op_of hc2
      have h3 := cells3 hc1
      exact ⟨(x, y, z), h2, h3 0 (by omega), h3 1 (by omega), h3 2 (by omega)⟩
    obtain ⟨F, hF⟩ : ∃ F : Nat → Int × Int × Int, ∀ i, i < len → (I64 (F i).1 ∧ I64 (F i).2.1 ∧ I64 (F i).2.2) ∧ W.cell? ((ad.add (i * 3)).add 0) = some (.int .i64 (F i).1) ∧ W.cell? ((ad.add (i * 3)).add 1) = some (.int .i64 (F i).2.1) ∧ W.cell? ((ad.add (i * 3)).add 2) = some (.int .i64 (F i).2.2) :=
      ⟨fun i => if h : i < len then (key i h).choose else (0, 0, 0), fun i hi => by simp only [hi, dif_pos]; exact (key i hi).choose_spec⟩
    have add0 : ∀ a : Addr, a.add 0 = a := fun a => rfl
    have hlen : (len : Int) ≤ 9223372036854775807 := by
      have : (cap : Int) ≤ maxLen := by exact_mod_cast hcap
      have h2 : (maxLen : Int) ≤ 9223372036854775807 := by decide
      omega
    refine ⟨⟨some ad, len, cap⟩, (List.range len).map F, rfl, ⟨by simp, fun i x hx => ?_, fun x hx => ?_, by simpa using hlen⟩⟩
    · rw [List.getElem?_map] at hx
      by_cases hi : i < len
      · rw [List.getElem?_range hi] at hx
        simp only [Option.map_some, Option.some.injEq] at hx
        subst hx
        obtain ⟨_, h2, h3, h4⟩ := hF i hi
        rw [add0] at h2
        exact ⟨ad, rfl, At.whole' h2, At.whole' h3, At.whole' h4⟩
      · rw [List.getElem?_eq_none (by simpa using hi)] at hx; cases hx
    · simp only [List.mem_map, List.mem_range] at hx
      obtain ⟨i, hi, rfl⟩ := hx
      exact (hF i hi).1
end Go.Proofs.YtolfcdjbchdkgaaDoor
