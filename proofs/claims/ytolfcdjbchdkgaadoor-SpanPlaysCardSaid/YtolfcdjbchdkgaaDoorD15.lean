/- All spans, in their order; Same. Own work. -/
import Derived.Test.YtolfcdjbchdkgaaDoorP7
import Derived.Test.YtolfcdjbchdkgaaDoorD14
import Derived.Test.YtolfcdjbchdkgaaDoorH17
namespace Go.Proofs.YtolfcdjbchdkgaaDoor
open Go Go.Hp
set_option maxRecDepth 100000
attribute [local irreducible] hLoad hStore hNew hInt hQuo hRem hShl hShr hIf hNil hIdx hCut hElem hByte hAppend hMake hCall hYield hGet hPut hDel hNewMap hLoop hLet hAll hRange hRec hEq hCmp bitv W Does HYield

theorem is34 : intStruct Tryd.prog 34 [0, 1, 2] = true := by kernel_rfl
theorem spEq (op : BinOp) (xo yo : Operand) (a b c a' b' c' : Int) : SEq Tryd.prog op 34 xo yo (.agg #[.int .i64 a, .int .i64 b, .int .i64 c]) (.agg #[.int .i64 a', .int .i64 b', .int .i64 c']) (intsEq [(a, a'), (b, b'), (c, c')]) :=
  SEq_offs [0, 1, 2] _ is34 ⟨⟨_, rfl, rfl⟩, ⟨_, rfl, rfl⟩, ⟨_, rfl, rfl⟩, trivial⟩

theorem filter_step {l : List Sp} (hs : l.Pairwise fun s t => s.base + s.pages ≤ t.base) (hp : ∀ s ∈ l, 1 ≤ s.pages) {s : Sp} (hm : s ∈ l) :
    (l.filter fun t => decide (t.base < s.base + s.pages)) = (l.filter fun t => decide (t.base < s.base)) ++ [s] := by
  induction l with
  | nil => simp at hm
  | cons t l ih =>
    have h := List.pairwise_cons.1 hs
    rcases List.mem_cons.1 hm with rfl | hm'
    · have hsp := hp s (by simp)
      have h1 : l.filter (fun t => decide (t.base < s.base + s.pages)) = [] := by
        rw [List.filter_eq_nil_iff]; intro u hu; have := h.1 u hu; simp; omega
      have h2 : l.filter (fun t => decide (t.base < s.base)) = [] := by
        rw [List.filter_eq_nil_iff]; intro u hu; have := h.1 u hu; simp; omega
      simp only [List.filter_cons, h1, h2]
      have e1 : decide (s.base < s.base + s.pages) = true := by simp; omega
      have e2 : decide (s.base < s.base) = false := by simp
      rw [e1, e2]; simp
    · have hts := h.1 s hm'
      have htp := hp t (by simp)
      have e1 : decide (t.base < s.base + s.pages) = true := by simp; omega
      have e2 : decide (t.base < s.base) = true := by simp; omega
      simp only [List.filter_cons, e1, e2, if_true, List.cons_append]
      rw [ih h.2 (fun u hu => hp u (by simp [hu])) hm']

theorem all67_does {T : TL} {n : Nat} {l : List Sp} {X : HP} (h : SpanAt T n l X) (b3 b4 c0 : Nat) {r : HP} (lp : Nat) (rc0 : Loop)
    (hl : IsLoop 35 [(3, .pointer (some ⟨b3, 0, none⟩)), (6, .pointer (some ⟨b4, 0, none⟩))] (rangeAt 0 code19) rc0) :
    Does Tryd.prog 67 #[.func (.yield lp) #[] #[], .pointer (some ⟨c0, 0, none⟩)]
      (pt lp (.loop rc0) + (pt b3 (.cells #[.int .i64 (-1)] 3 (0, 0)) + (pt b4 (.cells #[.slice none 0 0] 46 (0, 0)) + (pt c0 (.cells #[.pointer (some ⟨T.t, 0, none⟩)] 23 (0, 0)) + (X + r)))))
      fun e m' => (∃ v, e = .returned v) ∧ ∃ s Hs, Own 34 3 spC l s Hs ∧ Over (pt lp (.loop (rcNext rc0)) + (pt b4 (.cells #[.slice s.a s.n s.cap] 46 (0, 0)) + (Hs + (X + r)))) m' := by
  obtain ⟨us, l0, k, S, O, G, rfl⟩ := h
  have hnle := G.g.nle
  have hsl := G.slen
  have hlen := G.ok.len
  refine F67_fn ?_
  unfold F67
  refine hLoad_ptr (by rfl) ?_
  refine hIf_false rfl ?_
  rw [show pt lp (.loop rc0) = pt lp (.loop (rcNext rc0)) by rw [hl.next]]
  refine hLoop_of (fun d x m' => ∃ (a : Nat) (s : Sl) (Hs : HP), a ≤ n ∧ d = n - a ∧ x = ((a : Int), ()) ∧ Own 34 3 spC (l.filter fun t => decide (t.base < a)) s Hs ∧ (∀ t ∈ l, ¬ (t.base < a ∧ a < t.base + t.pages)) ∧
    Over (pt lp (.loop (rcNext rc0)) + (pt b3 (.cells #[.int .i64 (-1)] 3 (0, 0)) + (pt b4 (.cells #[.slice s.a s.n s.cap] 46 (0, 0)) + (Hs + (pt c0 (.cells #[.pointer (some ⟨T.t, 0, none⟩)] 23 (0, 0)) + (spanX T n us (levels k l0) S O + r)))))) m') ?_ ?_
  · refine ⟨_, 0, ⟨none, 0, 0⟩, 0, by omega, rfl, rfl, by rw [show (l.filter fun t => decide (t.base < 0)) = [] by simp]; exact Own.nil, fun t ht h => by omega, ?_⟩
    simp only [HP.zero_add]; exact Over.refl _
  rintro d x m' ⟨a, s, Hs, ha, rfl, rfl, hown, hin, g, rfl⟩
  refine hAll_of fun _ => ?_
  unfold F67_l2
  dsimp only
  unfold spanX
  refine hLoad_ptr (by rfl) ?_
  refine hNil_some (hLoad_add (hLoad_slice (by rfl) ?_))
  dsimp only
  refine hIf_dec (fun h1 => ?_) (fun h1 => ?_)
  · have ha' : a < n := by omega
    refine hLoad_ptr (by rfl) ?_
    refine hNil_some (hLoad_add (hLoad_slice (by rfl) ?_))
    dsimp only
    refine hIdx_of (by omega) (by omega) ?_
    have e0 : 0 + (a : Int).toNat * 3 = a * 3 := by omega
    rw [e0]
    have hSa : S[a]? = some S[a] := List.getElem?_eq_getElem (by omega)
    refine hLoad_int (rowsSp (j := 0) (by omega) (by omega) hSa) ?_
    refine hLoad_add (hLoad_int (rowsSp (j := 1) (by omega) (by omega) hSa) ?_)
    refine hLoad_add (hLoad_int (rowsSp (j := 2) (by omega) (by omega) hSa) ?_)
    refine hNew_of fun b16 => hStore3_0 (hStore3_1 (hStore3_2 ?_))
    refine hLoad_int (by rfl) (hLoad_int (by rfl) (hLoad_int (by rfl) ?_))
    refine hEq_of (spEq _ _ _ _ _ _ _ _ _) ?_
    rcases Classical.em (∃ t ∈ l, t.base = a) with ⟨t, ht, rfl⟩ | hno
    · obtain ⟨h5, _⟩ := G.at_ t ht
      rw [h5] at hSa
      simp only [Option.some.injEq] at hSa
      rw [← hSa]
      have hpos := G.ok.pos t ht
      have hne : intsEq [((t.base : Int), 0), ((t.pages : Int), 0), (t.tag, 0)] = false := by
        simp only [intsEq, Bool.and_eq_false_iff, beq_eq_false_iff_ne]; right; left; omega
      rw [hne]
      refine hIf_false rfl (hLoad_int (by rfl) (hLoad_int (by rfl) (hLoad_int (by rfl) ?_)))
      have hstep := filter_step G.ok.sorted (fun s hs => (G.ok.pos s hs).1) ht
      have hql : (l.filter fun u => decide (u.base < t.base)).length ≤ n := Nat.le_trans (List.length_filter_le _ _) hlen
      refine hYield_of (F19_y0 (rc := rcNext rc0) (R := fun e m' => e = .returned (.bool true) ∧ ∃ s' Hs', Own 34 3 spC (l.filter fun u => decide (u.base < t.base + t.pages)) s' Hs' ∧
        Over (pt lp (.loop (rcNext rc0)) + (pt b3 (.cells #[.int .i64 (-1)] 3 (0, 0)) + (pt b4 (.cells #[.slice s'.a s'.n s'.cap] 46 (0, 0)) + (Hs' + (pt c0 (.cells #[.pointer (some ⟨T.t, 0, none⟩)] 23 (0, 0)) + (spanX T n us (levels k l0) S O + r))))) + pt b16 (.cells #[.int .i64 (t.base : Int), .int .i64 (t.pages : Int), .int .i64 t.tag] 34 (0, 0))) m') hl rfl (by rw [HP.add_left_comm, HP.add_assoc]) ?_) ?_
      · unfold F19_r0
        refine hAll_of fun _ => hNew_of fun b20 => hStore3_0 (hStore3_1 (hStore3_2 (hRec_of ?_)))
        refine hLoad_slice (by rfl) (hLoad_int (by rfl) (hLoad_int (by rfl) (hLoad_int (by rfl) (hNew_of fun b25 => ?_))))
        refine hAppend_Own hown t spC_len (Row.of (c := #[.int .i64 (t.base : Int), .int .i64 (t.pages : Int), .int .i64 t.tag]) (fun j v hj => by rw [Nat.zero_add]; simpa [spC] using hj)) rfl rfl (by omega) (by omega) (fun s2 H2 r2 hO2 hr2 => ?_)
        obtain ⟨g2, rfl⟩ := hr2
        rw [← hstep] at hO2
        have hn2 := hO2.len
        have hl2 : (l.filter fun u => decide (u.base < t.base + t.pages)).length ≤ n := Nat.le_trans (List.length_filter_le _ _) hlen
        refine hStore1_0 (hLoad_slice (by rfl) (hLoad_int (by rfl) ?_))
        dsimp only
        refine hIf_eqF (by omega) (hLoad_slice (by rfl) ?_)
        dsimp only
        refine hIf_neg (by omega) (hRec_of ⟨rfl, s2, H2, hO2, ?_⟩)
        rw [show rcNext (rcNext rc0) = rcNext rc0 from rfl]
        unfold spanX
        exact Over.of _ _
      · rintro e m' ⟨rfl, s', Hs', hO', g3, rfl⟩
        refine ⟨_, Over.refl _, _, rfl, hIf_false rfl (hLoad_int (by rfl) (hInt_i64 (by omega) (by omega) ⟨n - (t.base + t.pages), by omega, t.base + t.pages, s', Hs', by omega, rfl, by rw [show ((t.base : Int) + (t.pages : Int)) = ((t.base + t.pages : Nat) : Int) by omega], hO', fun u hu hh => ?_, by unfold spanX; exact Over.of _ _⟩))⟩
        have hu1 := G.ok.pos u hu
        have : u = t := by
          rcases Nat.le_total t.base u.base with h6 | h6
          · exact G.ok.apart hu ht (p := u.base) ⟨by omega, by omega⟩ ⟨by omega, by omega⟩
          · exact G.ok.apart hu ht (p := t.base) ⟨by omega, by omega⟩ ⟨by omega, by omega⟩
        subst this; omega
    · have hz := G.none_ a ha' fun t ht e => hno ⟨t, ht, e⟩
      rw [hz] at hSa
      simp only [Option.some.injEq] at hSa
      rw [← hSa]
      refine hIf_true rfl (hInt_i64 (by omega) (by omega) ⟨n - (a + 1), by omega, a + 1, s, Hs, by omega, rfl, rfl, ?_, fun t ht hh => ?_, ?_⟩)
      · have e : (l.filter fun t => decide (t.base < a + 1)) = l.filter fun t => decide (t.base < a) := by
          apply List.filter_congr
          intro t ht
          have : t.base ≠ a := fun e => hno ⟨t, ht, e⟩
          simp only [decide_eq_decide]; omega
        rw [e]; exact hown
      · have h6 := hin t ht
        have : t.base ≠ a := fun e => hno ⟨t, ht, e⟩
        omega
      · exact Over.of _ _
  · obtain rfl : a = n := by omega
    refine ⟨⟨_, rfl⟩, s, Hs, ?_, ?_⟩
    · have e : (l.filter fun t => decide (t.base < a)) = l := by
        rw [List.filter_eq_self]; intro t ht; have := G.ok.pos t ht; simp; omega
      rw [e] at hown; exact hown
    · exact Over.of _ _

theorem fn94 : isFn Tryd.prog 94 = true := by kernel_rfl
theorem sall_does {T : TL} {n : Nat} {l : List Sp} {X : HP} (h : SpanAt T n l X) {m r : HP} [hs : Sub X m r] :
    Does Tryd.prog 19 #[.pointer (some ⟨T.t, 0, none⟩), .int .i64 (-1)] m fun e m' => ∃ s Hs, Own 34 3 spC l s Hs ∧ ret (.tuple #[.slice s.a s.n s.cap, .bool true]) (X + (Hs + r)) e m' := by
  rw [hs.eq]
  refine F19_fn (fun ch m' h => by obtain ⟨s, Hs, _, h, _⟩ := h; cases h) ?_
  unfold F19
  refine hNew_of fun b3 => hNew_of fun b4 => ?_
  refine hCall_of (R := fun e m' => ∃ c0, e = .returned (.func (.func 67) #[] #[.pointer (some ⟨c0, 0, none⟩)]) ∧ m' = pt c0 (.cells #[.pointer (some ⟨T.t, 0, none⟩)] 23 (0, 0)) + (pt b4 (.cells #[.slice none 0 0] 46 (0, 0)) + (pt b3 (.cells #[.int .i64 (-1)] 3 (0, 0)) + (X + r))))
    (F45_fn (by unfold F45; exact hNew_of fun c0 => ⟨c0, rfl, rfl⟩)) ?_
  rintro e m' ⟨c0, rfl, rfl⟩
  refine ⟨_, Over.refl _, _, rfl, hCmp_fn fn94 (hIf_false rfl ?_)⟩
  refine hLoad_int (by rfl) ?_
  refine hIf_eqF (by omega) ?_
  refine hRange_of fun lp rr rc0 hl => ?_
  refine ((all67_does h b3 b4 c0 (r := pt rr (.deferred (some [])) + r) lp rc0 hl).from ⟨0, by rw [HP.add_zero]; ac_rfl⟩).up ?_
  rintro e m3 ⟨hv, s, Hs, hO, ho⟩
  refine ⟨_, ho, hv, rcNext rc0, _, rfl, rfl, ?_⟩
  refine hLoad_slice (by rfl) ?_
  exact gone ⟨s, Hs, hO, ret.mk (Over.of _ _)⟩

theorem ssame_does {l : List Sp} {s1 s2 : Sl} {H1 H2 : HP} (h1 : Own 34 3 spC l s1 H1) (h2 : Own 34 3 spC l s2 H2) (hlen : l.length ≤ 4096) {m r r' : HP} [hs1 : Sub H1 m r] [hs2 : Sub H2 m r'] :
    Does Tryd.prog 20 #[.slice s1.a s1.n s1.cap, .slice s2.a s2.n s2.cap] m (ret (.bool true) m) := by
  have e1 := h1.len; have e2 := h2.len
  refine F20_fn (a_1 := s1) (b_2 := s2) ?_
  unfold F20
  refine hIf_neF (by omega) ?_
  refine hLoop_of (fun d x m' => ∃ i : Nat, i ≤ l.length ∧ d = l.length - i ∧ x = ((i : Int), ()) ∧ m' = m) ?_ ?_
  · exact ⟨_, 0, by omega, rfl, rfl, rfl⟩
  rintro d x m' ⟨i, hi, rfl, rfl, rfl⟩
  refine hAll_of fun _ => ?_
  unfold F20_l4
  dsimp only
  refine hIf_dec (fun h => ?_) (fun h => ⟨rfl, Over.refl _⟩)
  have hi' : i < l.length := by omega
  obtain ⟨b, cap, c, rfl, rfl, hc0, hc1, hc2⟩ := ownRow h1 hi'
  obtain ⟨b', cap', c', rfl, rfl, hd0, hd1, hd2⟩ := ownRow h2 hi'
  haveI : Has b m' (.cells c 34 (0, 0)) r := ⟨hs1.eq⟩
  haveI : Has b' m' (.cells c' 34 (0, 0)) r' := ⟨hs2.eq⟩
  have e0 : 0 + (i : Int).toNat * 3 = i * 3 := by omega
  dsimp only
  refine hIdx_of (by omega) (by omega) ?_
  rw [e0]
  refine hLoad_int hc0 ?_
  refine hLoad_add (hLoad_int hc1 ?_)
  refine hLoad_add (hLoad_int hc2 ?_)
  refine hIdx_of (by omega) (by omega) ?_
  rw [e0]
  refine hLoad_int hd0 ?_
  refine hLoad_add (hLoad_int hd1 ?_)
  refine hLoad_add (hLoad_int hd2 ?_)
  refine hEq_of (spEq _ _ _ _ _ _ _ _ _) ?_
  refine hIf_not (hIf_true (by simp [intsEq]) ?_)
  exact hInt_i64 (by omega) (by omega) ⟨l.length - (i + 1), by omega, i + 1, by omega, rfl, rfl, rfl⟩

end Go.Proofs.YtolfcdjbchdkgaaDoor
