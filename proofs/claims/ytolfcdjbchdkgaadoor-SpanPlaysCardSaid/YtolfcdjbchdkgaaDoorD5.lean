/- Pages: renew. Own work. -/
import Derived.Test.YtolfcdjbchdkgaaDoorD4
namespace Go.Proofs.YtolfcdjbchdkgaaDoor
open Go Go.Hp
set_option maxRecDepth 100000
attribute [local irreducible] hLoad hStore hNew hInt hQuo hRem hShl hShr hIf hNil hIdx hCut hElem hByte hAppend hMake hCall hYield hGet hPut hDel hNewMap hLoop hLet hAll hRange hRec hEq hCmp bitv W Does HYield

/-- The sums of the lowest level. -/
def Bnd (l : List Sum) : Prop := ∀ s ∈ l, s.ok ∧ s.all ≤ 64
theorem Bnd.tot {l : List Sum} (h : Bnd l) : tot l ≤ 64 * l.length := by
  induction l with
  | nil => simp [YtolfcdjbchdkgaaDoor.tot]
  | cons s l ih =>
    have h1 := (h s (by simp)).2
    have h2 := ih fun x hx => h x (by simp [hx])
    simp only [YtolfcdjbchdkgaaDoor.tot, List.map_cons, List.sum_cons, List.length_cons] at *
    omega
theorem Bnd.set {l : List Sum} (h : Bnd l) {i : Nat} {s : Sum} (hs : s.ok ∧ s.all ≤ 64) : Bnd (l.set i s) := by
  intro x hx
  rcases List.mem_or_eq_of_mem_set hx with h1 | h1
  · exact h x h1
  · subst h1; exact hs
theorem IsSum.ok {U : Nat → Bool} {lo hi : Nat} {s : Sum} (h : IsSum U lo hi s) : s.ok := by
  obtain ⟨a, h1, h2, _⟩ := h.most_at
  have := h.all; have := h.le
  exact ⟨h.start_le, by omega, h.fin_le⟩

def mixed_ (k : Nat) (l0 l1 : List Sum) (j : Nat) : List (List Sum) := (List.range k).map fun i => if i < j then it i l1 else it i l0
theorem mixed_len (k : Nat) (l0 l1 : List Sum) (j : Nat) : (mixed_ k l0 l1 j).length = k := by simp [mixed_]
theorem levels_len (k : Nat) (l0 : List Sum) : (levels k l0).length = k := by simp [levels]
theorem mixed_get {k : Nat} {l0 l1 : List Sum} {j i : Nat} (h : i < k) : (mixed_ k l0 l1 j)[i]? = some (if i < j then it i l1 else it i l0) := by simp [mixed_, h]
theorem levels_get {k : Nat} {l0 : List Sum} {i : Nat} (h : i < k) : (levels k l0)[i]? = some (it i l0) := by simp [levels, h]
theorem mixed_set (k : Nat) (l0 l1 : List Sum) (j : Nat) : (mixed_ k l0 l1 j).set j (it j l1) = mixed_ k l0 l1 (j + 1) := by
  apply List.ext_getElem?
  intro i
  rw [List.getElem?_set, mixed_len]
  by_cases hi : i < k
  · rw [mixed_get hi, mixed_get hi]
    by_cases e : j = i
    · subst e; simp [hi]
    · rw [if_neg e]; congr 1
      by_cases h1 : i < j
      · rw [if_pos h1, if_pos (by omega)]
      · rw [if_neg h1, if_neg (by omega)]
  · rw [List.getElem?_eq_none (by rw [mixed_len]; omega), List.getElem?_eq_none (by rw [mixed_len]; omega)]
    split
    · rw [if_neg (by omega)]
    · rfl
theorem mixed_zero (k : Nat) (l0 l1 : List Sum) : mixed_ k l0 l1 0 = levels k l0 := by simp [mixed_, levels]
theorem mixed_all (k : Nat) (l0 l1 : List Sum) : mixed_ k l0 l1 k = levels k l1 := by
  unfold mixed_ levels
  apply List.map_congr_left
  intro i hi; rw [if_pos (by simpa using hi)]
theorem it_step {l0 : List Sum} {i : Nat} {s : Sum} (j : Nat) : it (j + 1) (l0.set i s) = (it (j + 1) l0).set (i / 8 ^ (j + 1)) (foldS (group (it j (l0.set i s)) (i / 8 ^ (j + 1)))) := by
  obtain ⟨v, hv⟩ := it_len_set j l0 i s
  simp only [it]
  rw [hv, groups_set, Nat.div_div_eq_div_mul, ← Nat.pow_succ]
theorem it_idx {l : List Sum} {i : Nat} (h : i < l.length) (j : Nat) : i / 8 ^ j < (it j l).length := by
  induction j with
  | zero => simpa [it] using h
  | succ j ih =>
    simp only [it, groups_len]
    rw [Nat.pow_succ, ← Nat.div_div_eq_div_mul]
    omega
theorem group_len (l : List Sum) (q : Nat) : (group l q).length = min 8 (l.length - 8 * q) := by simp [group]
theorem group_get {l : List Sum} {q t : Nat} (h : t < (group l q).length) : l[8 * q + t]? = some ((group l q)[t]) := by
  have hg : (group l q)[t]? = some ((group l q)[t]) := List.getElem?_eq_getElem h
  rw [← hg]
  have := group_len l q
  simp only [group, List.getElem?_take, List.getElem?_drop]
  rw [if_pos (by omega)]
theorem fold_next {l : List Sum} {t : Nat} (h : t < l.length) : foldS (l.take (t + 1)) = (foldS (l.take t)).both l[t] := by
  unfold foldS
  rw [List.take_succ_eq_append_getElem h, List.foldl_append]
  rfl

theorem rowsS {l : List Sum} {i j o : Nat} {s : Sum} (hj : j < 4) (ho : o = i * 4 + j) (h : l[i]? = some s) : (rows sumC l)[o]? = (sumC s)[j]? := rows_get sumC_len hj ho h

theorem renew_does (L : PL) {n : Nat} {us : List (BitVec 64)} {l0 : List Sum} {k : Nat} (hL : PLok L k fun j => (it j l0).length) (hk : 1 ≤ k ∧ k ≤ 64) (hlen : l0.length = us.length) (hus : us.length ≤ 64) (hb : Bnd l0)
    {i : Nat} {w : BitVec 64} (hw : us[i]? = some w) {m r r2 : HP} {T : TypeId} {fr : Nat × Nat} [hs : Sub (pagesH L n us (levels k l0)) m r] [Has 0 r (.cells deBc T fr) r2] :
    Does Tryd.prog 61 #[.pointer (some ⟨L.p, 0, none⟩), .int .i64 (i : Int)] m fun e m' => ∃ s, IsSum w.getLsbD 0 64 s ∧ ret (.tuple #[]) (pagesH L n us (levels k (l0.set i s)) + r) e m' := by
  have hi : i < us.length := (List.getElem?_eq_some_iff.1 hw).1
  have hlv : (levels k l0).length = k := levels_len k l0
  rw [hs.eq]
  refine F61_fn ?_
  unfold F61
  obtain ⟨hLb, hLs⟩ := hL
  have hb0 : L.bs[0]? = some L.bs[0] := List.getElem?_eq_getElem (by omega)
  obtain ⟨r0, hH0, hp0⟩ := pages_level L n us (levels k l0) hb0 (levels_get (by omega))
  have hs0 := hLs 0 _ hb0
  simp only [it] at hs0 hH0
  haveI := hH0
  refine hNil_some (hLoad_add (hLoad_slice (by rfl) ?_))
  dsimp only
  refine hIdx_of (by omega) (by omega) ?_
  refine hLoad_slice (by simpa using hs0) ?_
  refine hNil_some (hLoad_add (hLoad_slice (by rfl) ?_))
  dsimp only
  refine hIdx_of (by omega) (by omega) ?_
  refine hLoad_int (rowsW (i := i) (by omega) hw) ?_
  refine hCall_of (of_does w) ?_
  rintro e m' ⟨s, hsum, rfl, ho⟩
  refine ⟨_, ho, _, _, _, _, rfl, ?_⟩
  refine hLoad_add (hLoad_slice (by rfl) ⟨rfl, ?_⟩)
  refine hLoad_slice (by simpa using hs0) ⟨rfl, ?_⟩
  refine hIdx_of (by omega) (by omega) ?_
  have hsz : (rows sumC l0).size = l0.length * 4 := rows_size sumC_len l0
  refine hStore_at (by omega) ?_
  refine hStore_add (hStore_at (by simp; omega) ?_)
  refine hStore_add (hStore_at (by simp; omega) ?_)
  refine hStore_add (hStore_at (by simp; omega) ?_)
  rw [rows_set4 (i := i) (s := s) sumC_len (List.getElem?_eq_getElem (by omega : i < l0.length)) (by omega) rfl, ← HP.add_assoc, hp0]
  have hsok : s.ok ∧ s.all ≤ 64 := ⟨hsum.ok, by rw [hsum.all]; omega⟩
  have hb1 : Bnd (l0.set i s) := hb.set hsok
  have hm1 : (levels k l0).set 0 (l0.set i s) = mixed_ k l0 (l0.set i s) 1 := by
    have := mixed_set k l0 (l0.set i s) 0
    rw [mixed_zero] at this; exact this
  rw [hm1]
  refine hLoop_of (fun c x m' => ∃ j, 1 ≤ j ∧ j ≤ k ∧ c = k - j ∧ x = (((i / 8 ^ (j - 1) : Nat) : Int), (j : Int), ()) ∧ Over (pagesH L n us (mixed_ k l0 (l0.set i s) j) + r) m') ?_ ?_
  · exact ⟨k - 1, 1, by omega, by omega, rfl, by simp, Over.refl _⟩
  rintro c x m' ⟨j, hj1, hj2, rfl, rfl, g, rfl⟩
  refine hAll_of fun _ => ?_
  unfold F61_l2
  dsimp only
  have hml : (mixed_ k l0 (l0.set i s) j).length = k := mixed_len ..
  refine hNil_some (hLoad_add (hLoad_slice (by rfl) ?_))
  dsimp only
  refine hIf_dec (fun h => ?_) (fun h => ?_)
  case' _ => skip
  rotate_left
  · obtain rfl : j = k := by omega
    rw [mixed_all]
    exact ⟨s, hsum, ret.mk (Over.of _ _)⟩
  obtain ⟨j, rfl⟩ : ∃ j', j = j' + 1 := ⟨j - 1, by omega⟩
  rw [show j + 1 - 1 = j by omega]
  -- the level below, the group, the place
  have hle : (it j (l0.set i s)).length = (it j l0).length := it_len (by simp)
  have hq : i / 8 ^ j < (it j l0).length := it_idx (by omega) j
  have hq8 : i / 8 ^ (j + 1) = i / 8 ^ j / 8 := by rw [Nat.div_div_eq_div_mul, ← Nat.pow_succ]
  have hlb : (it j l0).length ≤ 64 := by
    have : ∀ j, (it j l0).length ≤ 64 := by
      intro j
      induction j with
      | zero => simp only [it]; omega
      | succ j ih => simp only [it, groups_len]; omega
    exact this j
  have hbj : L.bs[j]? = some L.bs[j] := List.getElem?_eq_getElem (by omega)
  have hbj1 : L.bs[j + 1]? = some L.bs[j + 1] := List.getElem?_eq_getElem (by omega)
  have hsj := hLs j _ hbj
  have hsj1 := hLs (j + 1) _ hbj1
  obtain ⟨rj, hHj, hpj⟩ := pages_level L n us (mixed_ k l0 (l0.set i s) (j + 1)) hbj (mixed_get (by omega))
  obtain ⟨rj1, hHj1, hpj1⟩ := pages_level L n us (mixed_ k l0 (l0.set i s) (j + 1)) hbj1 (mixed_get (by omega))
  rw [if_pos (by omega)] at hHj
  rw [if_neg (by omega)] at hHj1
  have hgl := group_len (it j (l0.set i s)) (i / 8 ^ (j + 1))
  generalize hG : group (it j (l0.set i s)) (i / 8 ^ (j + 1)) = G at hgl
  have hit := it_step (l0 := l0) (i := i) (s := s) j
  rw [hG] at hit
  have hGm : ∀ t (ht : t < G.length), (it j (l0.set i s))[8 * (i / 8 ^ (j + 1)) + t]? = some G[t] := fun t ht => by
    subst hG; exact group_get ht
  have hok1 := it_ok (l := l0.set i s) (fun x hx => (hb1 x hx).1) j
  have htot : tot (it j (l0.set i s)) ≤ 4096 := by
    rw [hok1.2]; have := hb1.tot; rw [List.length_set] at this; omega
  have hGs : List.Sublist G (it j (l0.set i s)) := by subst hG; exact (List.take_sublist _ _).trans (List.drop_sublist _ _)
  generalize hqq : i / 8 ^ (j + 1) = q at *
  refine hQuo_pos (by omega) (by omega) (by omega) ?_
  rw [show (((i / 8 ^ j : Nat) : Int) / 8) = (q : Int) by omega]
  refine hNew_of fun b26 => ?_
  refine hNil_some (hLoad_add (hLoad_slice (by rfl) ?_))
  dsimp only
  refine hInt_i64 (by omega) (by omega) (hIdx_of (by omega) (by omega) ?_)
  refine hLoad_slice (by rw [show 0 + ((((j + 1 : Nat) : Int)) - 1).toNat * 1 = j by omega]; exact hsj) ?_
  refine hInt_i64 (by omega) (by omega) (hInt_i64 (by omega) (by omega) (hInt_i64 (by omega) (by omega) ?_))
  refine hNil_some (hLoad_add (hLoad_slice (by rfl) ?_))
  dsimp only
  refine hInt_i64 (by omega) (by omega) (hIdx_of (by omega) (by omega) ?_)
  refine hLoad_slice (by rw [show 0 + ((((j + 1 : Nat) : Int)) - 1).toNat * 1 = j by omega]; exact hsj) ?_
  dsimp only
  have hif : (if (((it j l0).length : Nat) : Int) < 8 * (q : Int) + 8 then (((it j l0).length : Nat) : Int) else 8 * (q : Int) + 8) = 8 * q + G.length := by
    rw [hgl, hle]; split <;> omega
  rw [hif]
  refine hCut_lt (by omega) (by omega) (by omega) (by omega) ?_
  refine hLoop_of (fun c x m' => ∃ t, t ≤ G.length ∧ c = G.length - t ∧ x = ((t : Int), ()) ∧
    Over (pt b26 (.cells #[.int .i64 ((foldS (G.take t)).start : Int), .int .i64 ((foldS (G.take t)).most : Int), .int .i64 ((foldS (G.take t)).fin : Int), .int .i64 ((foldS (G.take t)).all : Int)] 131 (0, 0)) + (pagesH L n us (mixed_ k l0 (l0.set i s) (j + 1)) + r)) m') ?_ ?_
  · refine ⟨G.length, 0, by omega, rfl, rfl, ?_⟩
    show Over (pt b26 (.cells #[.int .i64 0, .int .i64 0, .int .i64 0, .int .i64 0] 131 (0, 0)) + (pagesH L n us (mixed_ k l0 (l0.set i s) (j + 1)) + r)) _
    exact Over.of _ _
  rintro c x m' ⟨t, ht, rfl, rfl, g, rfl⟩
  refine hAll_of fun _ => ?_
  unfold F61_l7
  dsimp only
  refine hIf_dec (fun h => ?_) (fun h => ?_)
  · have ht' : t < G.length := by omega
    haveI := hHj
    have hx := hGm t ht'
    have e0 : 0 + (8 * (q : Int)).toNat * 4 + (t : Int).toNat * 4 = (8 * q + t) * 4 := by omega
    refine hIdx_of (by omega) (by omega) ?_
    rw [e0]
    refine hLoad_int (rowsS (j := 0) (by omega) (by omega) hx) ?_
    refine hLoad_add (hLoad_int (rowsS (j := 1) (by omega) (by omega) hx) ?_)
    refine hLoad_add (hLoad_int (rowsS (j := 2) (by omega) (by omega) hx) ?_)
    refine hLoad_add (hLoad_int (rowsS (j := 3) (by omega) (by omega) hx) ?_)
    refine hNew_of fun b49 => ?_
    refine hStore4_0 (hStore4_1 (hStore4_2 (hStore4_3 ?_)))
    refine hLoad_int (by rfl) (hLoad_int (by rfl) (hLoad_int (by rfl) (hLoad_int (by rfl) ?_)))
    refine hLoad_int (by rfl) (hLoad_int (by rfl) (hLoad_int (by rfl) (hLoad_int (by rfl) ?_)))
    have hacc : (foldS (G.take t)).ok ∧ (foldS (G.take t)).all ≤ 4096 := by
      have h1 := foldl_ok (l := G.take t) .zero fun x hx => hok1.1 x (hGs.mem ((List.take_sublist _ _).mem hx))
      refine ⟨h1.1, ?_⟩
      unfold foldS; rw [h1.2]
      have := tot_le_of_sublist ((List.take_sublist t G).trans hGs)
      simp [Sum.zero]; omega
    have hgt := hok1.1 G[t] (hGs.mem (List.getElem_mem ht'))
    have hgt2 := mem_tot (hGs.mem (List.getElem_mem ht'))
    refine hCall_ret (both_does (foldS (G.take t)) G[t] ?_ ?_ _) ⟨_, _, _, _, rfl, ?_⟩
    · obtain ⟨⟨_, _, _⟩, _⟩ := hacc; omega
    · obtain ⟨_, _, _⟩ := hgt; omega
    refine hStore4_0 (hStore4_1 (hStore4_2 (hStore4_3 (hInt_i64 (by omega) (by omega) ?_))))
    refine ⟨_, by omega, t + 1, ht', rfl, rfl, ?_⟩
    rw [fold_next ht']
    exact Over.of _ _
  · obtain rfl : t = G.length := by omega
    rw [List.take_length]
    haveI := hHj1
    refine hNil_some (hLoad_add (hLoad_slice (by rfl) ?_))
    dsimp only
    refine hIdx_of (by omega) (by omega) ?_
    refine hLoad_slice (by rw [show 0 + (((j + 1 : Nat) : Int)).toNat * 1 = j + 1 by omega]; exact hsj1) ?_
    refine hLoad_int (by rfl) (hLoad_int (by rfl) (hLoad_int (by rfl) (hLoad_int (by rfl) ?_)))
    have hq1 : q < (it (j + 1) l0).length := by
      have := it_idx (l := l0) (i := i) (by omega) (j + 1); omega
    have hsz1 : (rows sumC (it (j + 1) l0)).size = (it (j + 1) l0).length * 4 := rows_size sumC_len _
    dsimp only
    refine hIdx_of (by omega) (by omega) ?_
    refine hStore_at (by omega) ?_
    refine hStore_add (hStore_at (by simp; omega) ?_)
    refine hStore_add (hStore_at (by simp; omega) ?_)
    refine hStore_add (hStore_at (by simp; omega) ?_)
    rw [rows_set4 (i := q) (s := foldS G) sumC_len (List.getElem?_eq_getElem hq1) (by omega) rfl, ← hit]
    refine hInt_i64 (by omega) (by omega) ⟨k - (j + 2), by omega, j + 2, by omega, by omega, rfl, ?_, ?_⟩
    · rw [show j + 2 - 1 = j + 1 by omega, hqq]; rfl
    · have h2 := hpj1 (it (j + 1) (l0.set i s))
      rw [mixed_set] at h2
      rw [← h2]
      exact Over.of _ _

end Go.Proofs.YtolfcdjbchdkgaaDoor
