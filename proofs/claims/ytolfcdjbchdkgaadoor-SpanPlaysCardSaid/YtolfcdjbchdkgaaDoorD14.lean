/- The document's spans: Alloc, Free. Own work. -/
import Derived.Test.YtolfcdjbchdkgaaDoorD13
namespace Go.Proofs.YtolfcdjbchdkgaaDoor
open Go Go.Hp
set_option maxRecDepth 100000
attribute [local irreducible] hLoad hStore hNew hInt hQuo hRem hShl hShr hIf hNil hIdx hCut hElem hByte hAppend hMake hCall hYield hGet hPut hDel hNewMap hLoop hLet hAll hRange hRec hEq hCmp bitv W Does HYield

def spObj (s : Sp) : Obj := .cells #[.int .i64 (s.base : Int), .int .i64 (s.pages : Int), .int .i64 s.tag] 34 (0, 0)

theorem insS_len (s : Sp) (l : List Sp) : (insS s l).length = l.length + 1 := by
  induction l with
  | nil => rfl
  | cons t l ih => simp only [insS]; split <;> simp [ih]

theorem ralloc5_does {R : RL} {n : Nat} {l : List Sp} {X : HP} (h : RefAt R n l X) (c tag : Int) (hc : c ≤ 9223372036854775807) {m r : HP} [hs : Sub X m r] :
    Does Tryd.prog 12 #[.pointer (some ⟨R.t, 0, none⟩), .int .i64 c, .int .i64 tag] m fun e m' =>
      (c < 1 ∧ ret (.tuple #[zeroSp, .int .i64 1]) (X + r) e m') ∨ (1 ≤ c ∧ Nowhere (UL n l) c.toNat ∧ ret (.tuple #[zeroSp, .int .i64 3]) (X + r) e m') ∨
      ∃ (a : Nat) (X' : HP), 1 ≤ c ∧ First (UL n l) c.toNat a ∧ RefAt R n (insS ⟨a, c.toNat, tag⟩ l) X' ∧ ret (.tuple #[.agg #[.int .i64 (a : Int), .int .i64 c, .int .i64 tag], .int .i64 0]) (X' + r) e m' := by
  obtain ⟨B, sl, Hl, G, rfl⟩ := h
  have hlen := G.ok.len
  have hnle := G.nle
  have hsn := G.own.len
  have hbl := G.blen
  rw [hs.eq]
  refine F12_fn ?_
  unfold F12 refX
  refine hNew_of fun b4 => hNil_some (hLoad_ptr (by rfl) ?_)
  refine hCall_of (ralloc_does (ub := R.ub) (B := B) (by omega) c hc) ?_
  rintro e m' (⟨h1, rfl, ho⟩ | ⟨h1, h2, rfl, ho⟩ | ⟨a, B', h1, hf, hBl, hU, rfl, ho⟩)
  · refine ⟨_, ho, _, _, rfl, hIf_neT (by omega) ?_⟩
    repeat' first
      | refine hStore3_0 ?_
      | refine hStore3_1 ?_
      | refine hStore3_2 ?_
      | refine hLoad_int (by rfl) ?_
    exact .inl ⟨h1, ret.mk (Over.of _ _)⟩
  · refine ⟨_, ho, _, _, rfl, hIf_neT (by omega) ?_⟩
    repeat' first
      | refine hStore3_0 ?_
      | refine hStore3_1 ?_
      | refine hStore3_2 ?_
      | refine hLoad_int (by rfl) ?_
    exact .inr (.inl ⟨h1, by rw [← G.used]; exact h2, ret.mk (Over.of _ _)⟩)
  obtain ⟨x, rfl⟩ := Int.eq_ofNat_of_zero_le (a := c) (by omega)
  rw [Int.toNat_natCast] at hf hU
  simp only [Int.toNat_natCast]
  have hle : a + x ≤ n := by
    rcases Nat.lt_or_ge n (a + x) with h3 | h3
    · have := hf.1 (a + x - 1) (by omega) (by omega)
      rw [UB_ge (by omega)] at this; cases this
    · exact h3
  refine ⟨_, ho, _, _, rfl, hIf_neF rfl (hNew_of fun b13 => hStore3_0 (hStore3_1 (hStore3_2 ?_)))⟩
  obtain ⟨s, hsdef⟩ : ∃ s : Sp, s = ⟨a, x, tag⟩ := ⟨_, rfl⟩
  have hcell : (Obj.cells #[.int .i64 (a : Int), .int .i64 (Int.ofNat x), .int .i64 tag] 34 (0, 0)) = spObj s := by subst hsdef; rfl
  have hrow : ∀ (m : HP) (b : Nat) (r : HP) (t : Sp), Has b m (spObj t) r → Row m (some ⟨b, 0, none⟩) (spC t) := fun m b r t hh => by
    haveI := hh
    unfold spObj at this
    refine Row.of (c := #[.int .i64 (t.base : Int), .int .i64 (t.pages : Int), .int .i64 t.tag]) (fun j v hj => ?_)
    rw [Nat.zero_add]; simpa [spC] using hj
  refine hLoop_of (fun d y m' => ∃ (i : Nat) (q : List Sp) (s' : Sl) (H' : HP) (done : Bool), i ≤ l.length ∧ d = l.length - i ∧ y = (s', done, (i : Int), ()) ∧ Own 34 3 spC q s' H' ∧
    (done = true → q ++ l.drop i = insS s l) ∧ (done = false → q ++ insS s (l.drop i) = insS s l) ∧
    Over (pt b13 (spObj s) + (pt b4 (.cells #[.int .i64 0, .int .i64 0, .int .i64 0] 34 (0, 0)) + (H' + (pt R.t (.cells #[.pointer (some ⟨R.p, 0, none⟩), .slice sl.a sl.n sl.cap] 48 (0, 0)) + (rpH R.p R.ub B' + (Hl + r)))))) m') ?_ ?_
  · refine ⟨_, 0, [], ⟨none, 0, 0⟩, 0, false, by omega, rfl, rfl, Own.nil, by simp, by simp, ?_⟩
    rw [← hcell]
    simp only [HP.zero_add]
    exact Over.of _ _
  rintro d y m' ⟨i, q, s', H', done, hi, rfl, rfl, hown, hd1, hd2, g, rfl⟩
  refine hAll_of fun _ => ?_
  unfold F12_l8
  dsimp only
  refine hNil_some (hLoad_add (hLoad_slice (by rfl) ?_))
  dsimp only
  have hsb : s.base = a := by subst hsdef; rfl
  have hlins := insS_len s l
  refine hIf_dec (fun h3 => ?_) (fun h3 => ?_)
  · have hi' : i < l.length := by omega
    have hdrop : l.drop i = l[i] :: l.drop (i + 1) := List.drop_eq_getElem_cons hi'
    obtain ⟨b, cap, cc, hsl, hHl, hc0, hc1, hc2⟩ := ownRow G.own hi'
    subst hsl hHl
    rw [hdrop] at hd1 hd2
    have e0 : 0 + (i : Int).toNat * 3 = i * 3 := by omega
    refine hLet_of (fun st m' => ∃ (q' : List Sp) (s'' : Sl) (H'' : HP) (done' : Bool), st = (s'', done', ()) ∧ Own 34 3 spC q' s'' H'' ∧ (done' = true → q' ++ l[i] :: l.drop (i + 1) = insS s l) ∧ (done' = false → q' ++ l[i] :: insS s (l.drop (i + 1)) = insS s l) ∧
      Over (pt b13 (spObj s) + (pt b4 (.cells #[.int .i64 0, .int .i64 0, .int .i64 0] 34 (0, 0)) + (H'' + (pt R.t (.cells #[.pointer (some ⟨R.p, 0, none⟩), .slice (some ⟨b, 0, none⟩) l.length cap] 48 (0, 0)) + (rpH R.p R.ub B' + (pt b (.cells cc 34 (0, 0)) + r)))))) m') ?_ ?_
    · refine hIf_not (hIf_split (fun h4 => ?_) (fun h4 => ?_))
      · subst h4
        exact ⟨q, s', H', true, rfl, hown, hd1, by simp, Over.of _ _⟩
      · subst h4
        have hd2 := hd2 rfl
        refine hNil_some (hLoad_add (hLoad_slice (by rfl) ?_))
        dsimp only
        refine hIdx_of (by omega) (by omega) ?_
        rw [e0]
        refine hLoad_int hc0 (hIf_dec (fun h5 => ?_) (fun h5 => ?_))
        · have hins : insS s (l[i] :: l.drop (i + 1)) = s :: l[i] :: l.drop (i + 1) := by simp only [insS]; rw [if_pos (by omega)]
          rw [hins] at hd2
          have hq : q.length + 1 ≤ l.length + 1 := by rw [← hlins, ← hd2]; simp
          refine hLoad_int (by rfl) (hLoad_int (by rfl) (hLoad_int (by rfl) (hNew_of fun b29 => ?_)))
          refine hAppend_Own hown s spC_len (hrow _ b29 _ s ⟨rfl⟩) rfl rfl (by omega) (by omega) (fun s2 H2 r2 hO2 hr2 => ?_)
          obtain ⟨g2, rfl⟩ := hr2
          exact ⟨q ++ [s], s2, H2, true, rfl, hO2, fun _ => by simpa using hd2, by simp, Over.of _ _⟩
        · have hins : insS s (l[i] :: l.drop (i + 1)) = l[i] :: insS s (l.drop (i + 1)) := by simp only [insS]; rw [if_neg (by omega)]
          rw [hins] at hd2
          exact ⟨q, s', H', false, rfl, hown, by simp, fun _ => hd2, Over.of _ _⟩
    · rintro st m' ⟨q', s'', H'', done', rfl, hown', hd1', hd2', g2, rfl⟩
      refine hAll_of fun _ => ?_
      unfold F12_j13
      dsimp only
      have hq : q'.length ≤ l.length + 1 := by
        cases done'
        · rw [← hlins, ← hd2' rfl]; simp
        · rw [← hlins, ← hd1' rfl]; simp
      refine hNil_some (hLoad_add (hLoad_slice (by rfl) ?_))
      dsimp only
      refine hIdx_of (by omega) (by omega) ?_
      rw [e0]
      refine hLoad_int hc0 ?_
      refine hLoad_add (hLoad_int hc1 ?_)
      refine hLoad_add (hLoad_int hc2 ?_)
      refine hNew_of fun b40 => ?_
      refine hAppend_Own hown' l[i] spC_len (hrow _ b40 _ l[i] ⟨rfl⟩) rfl rfl (by omega) (by omega) (fun s2 H2 r2 hO2 hr2 => ?_)
      obtain ⟨g3, rfl⟩ := hr2
      exact hInt_i64 (by omega) (by omega) ⟨l.length - (i + 1), by omega, i + 1, q' ++ [l[i]], s2, H2, done', by omega, rfl, rfl, hO2, fun hh => by simpa using hd1' hh, fun hh => by simpa using hd2' hh, Over.of _ _⟩
  · obtain rfl : i = l.length := by omega
    rw [List.drop_length] at hd1 hd2
    refine hLet_of (fun st m' => ∃ (s'' : Sl) (H'' : HP), st = (s'', ()) ∧ Own 34 3 spC (insS s l) s'' H'' ∧
      Over (pt b13 (spObj s) + (pt b4 (.cells #[.int .i64 0, .int .i64 0, .int .i64 0] 34 (0, 0)) + (H'' + (pt R.t (.cells #[.pointer (some ⟨R.p, 0, none⟩), .slice sl.a sl.n sl.cap] 48 (0, 0)) + (rpH R.p R.ub B' + (Hl + r)))))) m') ?_ ?_
    · refine hIf_not (hIf_split (fun h4 => ?_) (fun h4 => ?_))
      · subst h4
        have hd1 := hd1 rfl
        rw [List.append_nil] at hd1
        exact ⟨s', H', rfl, by rw [← hd1]; exact hown, Over.of _ _⟩
      · subst h4
        have hd2 := hd2 rfl
        have hq : q.length + 1 ≤ l.length + 1 := by rw [← hlins, ← hd2]; simp [insS]
        refine hLoad_int (by rfl) (hLoad_int (by rfl) (hLoad_int (by rfl) (hNew_of fun b47 => ?_)))
        refine hAppend_Own hown s spC_len (hrow _ b47 _ s ⟨rfl⟩) rfl rfl (by omega) (by omega) (fun s2 H2 r2 hO2 hr2 => ?_)
        obtain ⟨g2, rfl⟩ := hr2
        exact ⟨s2, H2, rfl, by rw [← hd2]; exact hO2, Over.of _ _⟩
    · rintro st m' ⟨s'', H'', rfl, hown', g2, rfl⟩
      refine hAll_of fun _ => ?_
      unfold F12_j16
      dsimp only
      refine hNil_some (hStore_add (hStore2_1 ?_))
      unfold spObj
      repeat' first
        | refine hLoad_int (by rfl) ?_
        | refine hStore3_0 ?_
        | refine hStore3_1 ?_
        | refine hStore3_2 ?_
      have hfr : ∀ p, a ≤ p → p < a + x → ∀ t ∈ l, ¬ t.has p := fun p h4 h5 t ht h6 => by
        have := hf.1 p h4 h5
        rw [G.used] at this
        have h7 : UL n l p = true := UL_iff.2 (.inr ⟨t, ht, h6⟩)
        rw [this] at h7; cases h7
      subst hsdef
      refine .inr (.inr ⟨a, refX R B' s'' H'', by omega, by rw [← G.used]; exact hf, ⟨B', s'', H'', ⟨by omega, hnle, G.ok.ins (by simp only; omega) (by simp only; omega) (fun p h4 => hfr p h4.1 h4.2), ?_, hown'⟩, rfl⟩, ?_⟩)
      · funext p
        rw [hU, G.used, UL_ins]
      · unfold refX
        exact ret.mk (Over.of _ _)

theorem rfree5_does {R : RL} {n : Nat} {l : List Sp} {X : HP} (h : RefAt R n l X) (base : Int) {m r : HP} [hs : Sub X m r] :
    Does Tryd.prog 14 #[.pointer (some ⟨R.t, 0, none⟩), .int .i64 base] m fun e m' =>
      ((∀ s ∈ l, (s.base : Int) ≠ base) ∧ ∃ X', RefAt R n l X' ∧ ret (.int .i64 4) (X' + r) e m') ∨
      ∃ (s : Sp) (X' : HP), s ∈ l ∧ (s.base : Int) = base ∧ RefAt R n (delS s.base l) X' ∧ ret (.int .i64 0) (X' + r) e m' := by
  obtain ⟨B, sl, Hl, G, rfl⟩ := h
  have hlen := G.ok.len
  have hnle := G.nle
  have hsn := G.own.len
  have hbl := G.blen
  rw [hs.eq]
  refine F14_fn ?_
  unfold F14 refX
  refine hNew_of fun b3 => hStore3_0 (hStore3_1 (hStore3_2 ?_))
  have hrow : ∀ (m : HP) (b : Nat) (r : HP) (t : Sp), Has b m (spObj t) r → Row m (some ⟨b, 0, none⟩) (spC t) := fun m b r t hh => by
    haveI := hh
    unfold spObj at this
    refine Row.of (c := #[.int .i64 (t.base : Int), .int .i64 (t.pages : Int), .int .i64 t.tag]) (fun j v hj => ?_)
    rw [Nat.zero_add]; simpa [spC] using hj
  refine hLoop_of (fun d y m' => ∃ (i : Nat) (s' : Sl) (H' : HP) (f : Option Sp), i ≤ l.length ∧ d = l.length - i ∧ y = (s', (i : Int), ()) ∧ Own 34 3 spC ((l.take i).filter fun t => decide ((t.base : Int) ≠ base)) s' H' ∧
    (∀ t, f = some t → t ∈ l ∧ (t.base : Int) = base) ∧ (f = none → ∀ t ∈ l.take i, (t.base : Int) ≠ base) ∧
    Over (pt b3 (spObj (f.getD Sp.zero)) + (H' + (pt R.t (.cells #[.pointer (some ⟨R.p, 0, none⟩), .slice sl.a sl.n sl.cap] 48 (0, 0)) + (rpH R.p R.ub B + (Hl + r))))) m') ?_ ?_
  · refine ⟨_, 0, ⟨none, 0, 0⟩, 0, none, by omega, rfl, rfl, Own.nil, by simp, by simp, ?_⟩
    simp only [HP.zero_add]
    show Over (pt b3 (.cells #[.int .i64 0, .int .i64 0, .int .i64 0] 34 (0, 0)) + _) _
    exact Over.of _ _
  rintro d y m' ⟨i, s', H', f, hi, rfl, rfl, hown, hf1, hf2, g, rfl⟩
  refine hAll_of fun _ => ?_
  unfold F14_l4
  dsimp only
  refine hNil_some (hLoad_add (hLoad_slice (by rfl) ?_))
  dsimp only
  have hql : ((l.take i).filter fun t => decide ((t.base : Int) ≠ base)).length ≤ i := Nat.le_trans (List.length_filter_le _ _) (by simp; omega)
  refine hIf_dec (fun h3 => ?_) (fun h3 => ?_)
  · have hi' : i < l.length := by omega
    obtain ⟨b, cap, cc, hsl, hHl, hc0, hc1, hc2⟩ := ownRow G.own hi'
    subst hsl hHl
    have e0 : 0 + (i : Int).toNat * 3 = i * 3 := by omega
    have htake : l.take (i + 1) = l.take i ++ [l[i]] := List.take_succ_eq_append_getElem hi'
    refine hLet_of (fun st m' => ∃ (s'' : Sl) (H'' : HP) (f' : Option Sp), st = (s'', ()) ∧ Own 34 3 spC ((l.take (i + 1)).filter fun t => decide ((t.base : Int) ≠ base)) s'' H'' ∧
      (∀ t, f' = some t → t ∈ l ∧ (t.base : Int) = base) ∧ (f' = none → ∀ t ∈ l.take (i + 1), (t.base : Int) ≠ base) ∧
      Over (pt b3 (spObj (f'.getD Sp.zero)) + (H'' + (pt R.t (.cells #[.pointer (some ⟨R.p, 0, none⟩), .slice (some ⟨b, 0, none⟩) l.length cap] 48 (0, 0)) + (rpH R.p R.ub B + (pt b (.cells cc 34 (0, 0)) + r))))) m') ?_ ?_
    · refine hNil_some (hLoad_add (hLoad_slice (by rfl) ?_))
      dsimp only
      refine hIdx_of (by omega) (by omega) ?_
      rw [e0]
      refine hLoad_int hc0 (hIf_eq (fun h5 => ?_) (fun h5 => ?_))
      · refine hNil_some (hLoad_add (hLoad_slice (by rfl) ?_))
        dsimp only
        refine hIdx_of (by omega) (by omega) ?_
        rw [e0]
        refine hLoad_int hc0 ?_
        refine hLoad_add (hLoad_int hc1 ?_)
        refine hLoad_add (hLoad_int hc2 ?_)
        unfold spObj
        refine hStore3_0 (hStore3_1 (hStore3_2 ?_))
        refine ⟨s', H', some l[i], rfl, ?_, fun t ht => ?_, by simp, by simp only [Option.getD_some]; exact Over.of _ _⟩
        · rw [htake, List.filter_append]
          have : List.filter (fun t : Sp => decide ((t.base : Int) ≠ base)) [l[i]] = [] := by simp [h5]
          rw [this, List.append_nil]; exact hown
        · simp only [Option.some.injEq] at ht; subst ht; exact ⟨List.getElem_mem hi', h5⟩
      · refine hNil_some (hLoad_add (hLoad_slice (by rfl) ?_))
        dsimp only
        refine hIdx_of (by omega) (by omega) ?_
        rw [e0]
        refine hLoad_int hc0 ?_
        refine hLoad_add (hLoad_int hc1 ?_)
        refine hLoad_add (hLoad_int hc2 ?_)
        refine hNew_of fun b27 => ?_
        refine hAppend_Own hown l[i] spC_len (hrow _ b27 _ l[i] ⟨rfl⟩) rfl rfl (by omega) (by omega) (fun s2 H2 r2 hO2 hr2 => ?_)
        obtain ⟨g2, rfl⟩ := hr2
        refine ⟨s2, H2, f, rfl, ?_, hf1, fun hn t ht => ?_, Over.of _ _⟩
        · rw [htake, List.filter_append]
          have : List.filter (fun t : Sp => decide ((t.base : Int) ≠ base)) [l[i]] = [l[i]] := by simp [h5]
          rw [this]; exact hO2
        · rw [htake] at ht
          rcases List.mem_append.1 ht with h6 | h6
          · exact hf2 hn t h6
          · simp only [List.mem_singleton] at h6; subst h6; exact h5
    · rintro st m' ⟨s'', H'', f', rfl, hown', h6, h7, g2, rfl⟩
      refine hAll_of fun _ => ?_
      unfold F14_j5
      dsimp only
      exact hInt_i64 (by omega) (by omega) ⟨l.length - (i + 1), by omega, i + 1, s'', H'', f', by omega, rfl, rfl, hown', h6, h7, Over.of _ _⟩
  · obtain rfl : i = l.length := by omega
    rw [List.take_length] at hown hf2
    cases f with
    | none =>
      have hno := hf2 rfl
      simp only [Option.getD_none]
      unfold spObj
      refine hLoad_int (x := 0) (by rfl) (hIf_eqT rfl ?_)
      exact .inl ⟨hno, _, ⟨B, sl, Hl, G, rfl⟩, by unfold refX; exact ret.mk (Over.of _ _)⟩
    | some t =>
      obtain ⟨ht1, rfl⟩ := hf1 t rfl
      have hpos := G.ok.pos t ht1
      simp only [Option.getD_some]
      unfold spObj
      refine hLoad_int (by rfl) (hIf_eqF (by omega) ?_)
      refine hNil_some (hStore_add (hStore2_1 (hNil_some (hLoad_ptr (by rfl) (hLoad_int (by rfl) ?_)))))
      refine hCall_of (rturn_does (ub := R.ub) (B := B) (by omega) t.base t.pages hpos.1 (by omega) (fun q h1 h2 => ?_)) ?_
      · rw [G.used]; exact UL_iff.2 (.inr ⟨t, ht1, h1, h2⟩)
      rintro e m' ⟨B', hBl, hU, rfl, ho⟩
      refine ⟨_, ho, _, rfl, .inr ⟨t, refX R B' s' H', ht1, rfl, ⟨B', s', H', ⟨by omega, hnle, G.ok.del _, ?_, ?_⟩, rfl⟩, ?_⟩⟩
      · funext p; rw [hU, G.used, UL_del G.ok ht1]
      · have e : delS t.base l = l.filter fun u => decide ((u.base : Int) ≠ t.base) := by
          unfold delS; apply List.filter_congr; intro u _; rw [Bool.eq_iff_iff]; simp; omega
        rw [e]; exact hown
      · unfold refX; exact ret.mk (Over.of _ _)

end Go.Proofs.YtolfcdjbchdkgaaDoor
