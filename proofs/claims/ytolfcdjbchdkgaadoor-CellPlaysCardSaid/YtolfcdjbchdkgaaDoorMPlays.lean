/- CellPlays: the law's function answers true. Own work. -/
import Derived.Test.YtolfcdjbchdkgaaDoorM5
import Derived.SizedLaws
namespace Go.Proofs.YtolfcdjbchdkgaaDoor
open Go Go.Hp
set_option maxRecDepth 100000
attribute [local irreducible] hLoad hStore hNew hInt hQuo hRem hShl hShr hIf hNil hIdx hCut hElem hByte hAppend hMake hCall hYield hGet hPut hDel hNewMap hLoop hLet hAll hRange hRec hEq hCmp bitv W Does HYield

/-- The script's calls stand in memory. -/
structure Script4 (r : HP) (sl : Sl) (L : List (Int × Int × Int × Int)) : Prop where
  len : sl.n = L.length
  at_ : ∀ (i : Nat) (x : Int × Int × Int × Int), L[i]? = some x → ∃ ad, sl.a = some ad ∧ At r (ad.add (i * 4)) (.int .i64 x.1) ∧ At r ((ad.add (i * 4)).add 1) (.int .i64 x.2.1) ∧ At r ((ad.add (i * 4)).add 2) (.int .i64 x.2.2.1) ∧ At r ((ad.add (i * 4)).add 3) (.int .i64 x.2.2.2)
  rng : ∀ x ∈ L, Int64 x.2.1 ∧ Int64 x.2.2.1
  le : L.length * 32 ≤ 140737488351232

def madeC (x : Int) : List Value := [.int .i64 x]
theorem madeC_len (x : Int) : (madeC x).length = 1 := rfl
structure Made (i : Nat) (A : List Int) : Prop where
  le : A.length ≤ i
  rng : ∀ a ∈ A, 0 ≤ a ∧ a ≤ 262144
theorem Made.push {i : Nat} {A : List Int} (h : Made i A) {v : Int} (h0 : 0 ≤ v) (h1 : v ≤ 262144) : Made (i + 1) (A ++ [v]) := by
  refine ⟨by have := h.le; simp; omega, fun a ha => ?_⟩
  rcases List.mem_append.1 ha with ha | ha
  · exact h.rng a ha
  · rw [List.mem_singleton] at ha; subst ha; exact ⟨h0, h1⟩
theorem Made.next {i : Nat} {A : List Int} (h : Made i A) : Made (i + 1) A := ⟨by have := h.le; omega, h.rng⟩

theorem cellplays_does (pages procs : Int) (sl : Sl) (L : List (Int × Int × Int × Int)) {r r2 : HP} {Tt : TypeId} {fr : Nat × Nat} [Has 0 r (.cells deBc Tt fr) r2] (hS : Script4 r sl L) :
    Does Tryd.prog 6 #[.int .i64 pages, .int .i64 procs, .slice sl.a sl.n sl.cap] r (ret (.bool true) r) := by
  refine F6_fn (script_3 := sl) ?_
  unfold F6
  refine hCall_of (cnew_does pages procs) ?_
  rintro e m' (⟨h1, rfl, ho⟩ | ⟨C, X0, h1, hC0, rfl, ho⟩)
  · refine ⟨_, ho, _, _, rfl, hCall_of (rcnew_does pages procs) ?_⟩
    rintro e m' (⟨_, rfl, ho⟩ | ⟨Q, Y0, h2, _⟩)
    · refine ⟨_, ho, _, _, rfl, hCall_ret awake7_does ⟨_, rfl, ?_⟩⟩
      exact hIf_false rfl (hIf_neF rfl (hIf_false rfl (hIf_true rfl (ret.mk (Over.refl _)))))
    · exact absurd h2 h1
  refine ⟨_, ho, _, _, rfl, hCall_of (rcnew_does pages procs) ?_⟩
  rintro e m' (⟨h2, _⟩ | ⟨Q, Y0, _, hQ0, rfl, ho⟩)
  · exact absurd h1 h2
  refine ⟨_, ho, _, _, rfl, hCall_ret awake7_does ⟨_, rfl, ?_⟩⟩
  refine hIf_false rfl (hIf_neF rfl (hIf_false rfl (hIf_false rfl ?_)))
  have hlen := hS.len
  have hle := hS.le
  refine hLoop_of (fun d x m' => ∃ (i : Nat) (A : List Int) (s : Sl) (Hs : HP) (l : List Sp) (bs : List Blk) (X Y : HP), i ≤ L.length ∧ d = L.length - i ∧ x = (s, (i : Int), ()) ∧ Own 3 1 madeC A s Hs ∧ Made i A ∧
    Both C Q pages.toNat procs.toNat l bs X Y ∧ Over (X + (Y + (Hs + r))) m') ?_ ?_
  · exact ⟨_, 0, [], _, 0, [], [], X0, Y0, by omega, rfl, rfl, Own.nil, ⟨by simp, by simp⟩, ⟨hC0, hQ0⟩, by rw [HP.zero_add]; exact Over.of _ _⟩
  rintro d x m' ⟨i, A, s, Hs, l, bs, X, Y, hi, rfl, rfl, hO, hM, hB, g, rfl⟩
  have hsn := hO.len
  have hAi := hM.le
  refine hAll_of fun _ => ?_
  unfold F6_l9
  dsimp only
  refine hIf_dec (fun h3 => ?_) (fun h3 => ret.mk (Over.of _ _))
  have hi' : i < L.length := by omega
  have hL : L[i]? = some L[i] := List.getElem?_eq_getElem hi'
  obtain ⟨ad, hda, hA0, hA1, hA2, hA3⟩ := hS.at_ i _ hL
  obtain ⟨hr1, hr2⟩ := hS.rng _ (List.getElem_mem hi')
  generalize L[i] = op at hA0 hA1 hA2 hA3 hr1 hr2
  obtain ⟨kd, a, b, c⟩ := op
  dsimp only at hA0 hA1 hA2 hA3 hr1 hr2
  have up : ∀ {ad v}, At r ad v → At (X + (Y + (Hs + r)) + g) ad v := fun h => At.sub h
  refine hIdx_any hda (by omega) (by omega) ?_
  rw [Int.toNat_natCast]
  refine hLoad_here (t := .int .i64) (x := kd) (up hA0) (hLoad_here (t := .int .i64) (x := a) (up hA1) (hLoad_here (t := .int .i64) (x := b) (up hA2) (hLoad_here (t := .int .i64) (x := c) (up hA3) ?_)))
  refine hNew_of fun b21 => hStore4_0 (hStore4_1 (hStore4_2 (hStore4_3 ?_)))
  refine hLet_of (fun _ m' => ∃ a' : Int, Int64 a' ∧ Over (X + (Y + (pt b21 (.cells #[.int .i64 kd, .int .i64 a', .int .i64 b, .int .i64 c] 73 (0, 0)) + (Hs + r)))) m') ?_ ?_
  · have stay : ∃ a' : Int, Int64 a' ∧ Over (X + (Y + (pt b21 (.cells #[.int .i64 kd, .int .i64 a', .int .i64 b, .int .i64 c] 73 (0, 0)) + (Hs + r)))) (pt b21 (.cells #[.int .i64 kd, .int .i64 a, .int .i64 b, .int .i64 c] 73 (0, 0)) + (X + (Y + (Hs + r)) + g)) := ⟨a, hr1, Over.of _ _⟩
    have take : ∀ K : Unit → HP → Prop, (∀ m', (∃ a' : Int, Int64 a' ∧ Over (X + (Y + (pt b21 (.cells #[.int .i64 kd, .int .i64 a', .int .i64 b, .int .i64 c] 73 (0, 0)) + (Hs + r)))) m') → K () m') →
        (hLoad (.int .i64) ⟨b21, 3, none⟩ fun (v_24 : Int) =>
          hIf (decide (v_24 ≥ 0)) (hLoad (.int .i64) ⟨b21, 3, none⟩ fun (v_25 : Int) => hIf (decide (v_25 < ((s.n : Nat) : Int)))
            (hLoad (.int .i64) ⟨b21, 3, none⟩ fun (v_26 : Int) => hIdx s.a s.n v_26 1 fun a_27 => hLoad (.int .i64) a_27 fun (v_28 : Int) => hStore (.int .i64 v_28) ⟨b21, 1, none⟩ (K (())))
            (K (()))) (K (()))) (pt b21 (.cells #[.int .i64 kd, .int .i64 a, .int .i64 b, .int .i64 c] 73 (0, 0)) + (X + (Y + (Hs + r)) + g)) := by
      intro K hK
      refine hLoad_int (by rfl) (hIf_dec (fun h4 => ?_) (fun h4 => hK _ stay))
      refine hLoad_int (by rfl) (hIf_dec (fun h5 => ?_) (fun h5 => hK _ stay))
      have hc' : c.toNat < A.length := by omega
      have hAj : A[c.toNat]? = some A[c.toNat] := List.getElem?_eq_getElem hc'
      obtain ⟨h6, h7⟩ := hM.rng _ (List.getElem_mem hc')
      generalize A[c.toNat] = a' at hAj h6 h7
      obtain ⟨bb, cap, cc, rfl, rfl, hc1, hc2, hc3⟩ := hO.get madeC_len hAj
      have hv := hc3 0 (by omega)
      have e0 : 0 + c.toNat * 1 = c.toNat * 1 + 0 := by omega
      refine hLoad_int (by rfl) (hIdx_of (by omega) (by omega) (hLoad_int (x := a') (by rw [e0, hv]; rfl) (hStore4_1 (hK _ ⟨a', ⟨by omega, by omega⟩, Over.of _ _⟩))))
    refine hLoad_int (by rfl) (hIf_eq (fun h4 => ?_) (fun h4 => ?_))
    · exact take (fun _ m' => ∃ a' : Int, Int64 a' ∧ Over (X + (Y + (pt b21 (.cells #[.int .i64 kd, .int .i64 a', .int .i64 b, .int .i64 c] 73 (0, 0)) + (Hs + r)))) m') fun m' h => h
    · refine hLoad_int (by rfl) (hIf_eq (fun h5 => ?_) (fun h5 => ?_))
      · exact take (fun _ m' => ∃ a' : Int, Int64 a' ∧ Over (X + (Y + (pt b21 (.cells #[.int .i64 kd, .int .i64 a', .int .i64 b, .int .i64 c] 73 (0, 0)) + (Hs + r)))) m') fun m' h => h
      · exact stay
  clear hA0 hA1 hA2 hA3 up
  rintro _ m' ⟨a', ha', g1, rfl⟩
  refine hAll_of fun _ => ?_
  unfold F6_j13
  refine hLoad_int (by rfl) (hLoad_int (by rfl) (hLoad_int (by rfl) (hLoad_int (by rfl) (hCall_of (one_does hB kd a' b c ha' hr2) ?_))))
  rintro e m' ⟨l1, bs1, X1, Y1, v, hB1, hv0, hv1, rfl, ho⟩
  refine ⟨_, ho, _, _, rfl, hIf_false rfl ?_⟩
  refine hLet_of (fun st m' => ∃ (A2 : List Int) (s2 : Sl) (H2 : HP), st = (s2, ()) ∧ Own 3 1 madeC A2 s2 H2 ∧ Made (i + 1) A2 ∧
    Over (X1 + (Y1 + (pt b21 (.cells #[.int .i64 kd, .int .i64 a', .int .i64 b, .int .i64 c] 73 (0, 0)) + (H2 + r)))) m') ?_ ?_
  · refine hLoad_int (by rfl) (hIf_eq (fun h4 => ?_) (fun h4 => ?_))
    · refine hNew_of fun b45 => ?_
      refine hAppend_Own hO v madeC_len (Row.of (c := #[.int .i64 v]) (fun j v hj => by rw [Nat.zero_add]; simpa [madeC] using hj)) rfl rfl (by omega) (by omega) (fun s2 H2 r3 hO2 hr3 => ?_)
      obtain ⟨g2, rfl⟩ := hr3
      exact ⟨_, s2, H2, rfl, hO2, hM.push hv0 hv1, Over.of _ _⟩
    · refine hLoad_int (by rfl) (hIf_eq (fun h5 => ?_) (fun h5 => ?_))
      · refine hNew_of fun b48 => ?_
        refine hAppend_Own hO v madeC_len (Row.of (c := #[.int .i64 v]) (fun j v hj => by rw [Nat.zero_add]; simpa [madeC] using hj)) rfl rfl (by omega) (by omega) (fun s2 H2 r3 hO2 hr3 => ?_)
        obtain ⟨g2, rfl⟩ := hr3
        exact ⟨_, s2, H2, rfl, hO2, hM.push hv0 hv1, Over.of _ _⟩
      · exact ⟨A, s, Hs, rfl, hO, hM.next, Over.of _ _⟩
  clear hO hM hB hsn hAi
  rintro _ m' ⟨A2, s2, H2, rfl, hO, hM, g3, rfl⟩
  refine hAll_of fun _ => ?_
  unfold F6_j18
  refine hInt_i64 (by omega) (by omega) (hLoad_int (x := a') (by rfl) (hNew_of fun b54 => ?_))
  refine hLoop_of (fun d x m' => ∃ j : Nat, j ≤ 3 ∧ d = 3 - j ∧ x = ((j : Int), ()) ∧ Over (X1 + (Y1 + (pt b54 (.cells #[.int .i64 v, .int .i64 (v + 1), .int .i64 a'] 3 (0, 0)) + (H2 + r)))) m') ⟨_, 0, by omega, rfl, rfl, Over.of _ _⟩ ?_
  rintro d x m' ⟨j, hj, rfl, rfl, g4, rfl⟩
  obtain ⟨⟨adr, hCM, hlv⟩, hQ⟩ := id hB1
  refine hAll_of fun _ => ?_
  unfold F6_l19
  dsimp only
  refine hIf_dec (fun h4 => ?_) (fun h4 => ?_)
  · obtain ⟨p, hp, hpe⟩ : ∃ p : Int, Int64 p ∧ (#[.int .i64 v, .int .i64 (v + 1), .int .i64 a'] : Array Value)[0 + (j : Int).toNat * 1]? = some (.int .i64 p) := by
      have : j = 0 ∨ j = 1 ∨ j = 2 := by omega
      rcases this with rfl | rfl | rfl
      · exact ⟨v, ⟨by omega, by omega⟩, rfl⟩
      · exact ⟨v + 1, ⟨by omega, by omega⟩, rfl⟩
      · exact ⟨a', ha', rfl⟩
    refine hIdx_of (by omega) (by omega) (hLoad_int hpe ?_)
    refine hCall_of (cFind_does hCM p hp.2) ?_
    rintro e m' (⟨h5, rfl, ho⟩ | ⟨B, k, ht, rfl, ho⟩)
    all_goals
      refine ⟨_, ho, _, _, _, rfl, hCall_of (rcFind_does hQ p hp.2) ?_⟩
      rintro e m' (⟨h7, rfl, ho⟩ | ⟨D, q, hd, rfl, ho⟩)
      all_goals first
        | exact absurd hd (h5 D q)
        | exact absurd ht (h7 B k)
        | (try obtain ⟨rfl, rfl⟩ := ht.uniq hB1.ok hd
           refine ⟨_, ho, _, _, _, rfl, hIf_neF rfl (hIf_neF rfl (hIf_false rfl ?_))⟩
           refine hQuo_64 hp (hCall_ret (cUsed_does hCM _) ⟨_, rfl, hQuo_64 hp (hCall_ret (rcUsed_does hQ _ (tdiv64 hp)) ⟨_, rfl, hIf_false (by simp) ?_⟩)⟩)
           exact hInt_i64 (by omega) (by omega) ⟨3 - (j + 1), by omega, j + 1, by omega, rfl, rfl, Over.of _ _⟩)
  · refine hCall_ret (cCounts_does hCM) ⟨_, _, _, rfl, hCall_ret (rcCounts_does hQ) ⟨_, _, _, rfl, ?_⟩⟩
    refine hIf_neF rfl (hIf_neF rfl (hIf_neF rfl ?_))
    exact hInt_i64 (by omega) (by omega) ⟨L.length - (i + 1), by omega, i + 1, A2, s2, H2, l1, bs1, X1, Y1, by omega, rfl, rfl, hO, hM, hB1, Over.of _ _⟩
end Go.Proofs.YtolfcdjbchdkgaaDoor
/- The row of CellPlays and its card. Own work. -/
namespace Go.Proofs.YtolfcdjbchdkgaaDoor
open Go Go.Hp Go.ChangeShapes Go.WideShapes Go.ChangeAt Go.WideMaps Go.WideElems Go.RowKit
set_option maxRecDepth 100000

theorem u68 : Tryd.prog.underlying 68 = some (.slice 73) := by kernel_rfl
theorem c73 : Tryd.prog.cellsOf 73 = 4 := by kernel_rfl
theorem b73 : Tryd.prog.bytesOf 73 = 32 := by kernel_rfl
noncomputable def f73 : Array Field := (match Tryd.prog.underlying 73 with | some (.struct fs) => fs | _ => #[])
theorem u73 : Tryd.prog.underlying 73 = some (.struct f73) := by kernel_rfl
theorem f73_0 : (f73[0]?).map (fun f => (f.offset, f.type)) = some (0, 3) := by kernel_rfl
theorem f73_1 : (f73[1]?).map (fun f => (f.offset, f.type)) = some (1, 3) := by kernel_rfl
theorem f73_2 : (f73[2]?).map (fun f => (f.offset, f.type)) = some (2, 3) := by kernel_rfl
theorem f73_3 : (f73[3]?).map (fun f => (f.offset, f.type)) = some (3, 3) := by kernel_rfl
theorem f73_get (i : Fin 4) : (f73[i.val]?).map (fun f => (f.offset, f.type)) = some (i.val, 3) := by
  match i with
  | ⟨0, _⟩ => exact f73_0
  | ⟨1, _⟩ => exact f73_1
  | ⟨2, _⟩ => exact f73_2
  | ⟨3, _⟩ => exact f73_3

/-- A struct of four integers, read. -/
theorem op4_of {H : Type} {enc : TypeId × Value → H} {W : World} {n : Nat} {cs : List Value} {x : DataW H × List MemPlace} (h : DataW.trod enc Tryd.prog W 0 (fun _ => true) true n 73 cs = some x) :
    ∃ a b c d : Int, cs = [.int .i64 a, .int .i64 b, .int .i64 c, .int .i64 d] ∧ Int64 b ∧ Int64 c := by
  obtain ⟨xs, m, _, rfl, hl, hlen, hf⟩ := DataW.trod_struct u73 h
  rw [c73] at hl
  have get : ∀ i : Fin 4, ∃ a : Int, cs[i.val]? = some (.int .i64 a) ∧ Int64 a := by
    intro i
    have hg := f73_get i
    cases hfi : f73[i.val]? with
    | none => rw [hfi] at hg; cases hg
    | some f =>
      rw [hfi] at hg
      simp only [Option.map_some, Option.some.injEq, Prod.mk.injEq] at hg
      obtain ⟨ho, ht⟩ := hg
      have h1 := hf i.val f hfi
      have hsz : f73.size = 4 := by kernel_rfl
      have hi : i.val < xs.length := by rw [hlen, hsz]; exact i.isLt
      rw [ht, c3, ho, List.getElem?_eq_getElem hi] at h1
      obtain ⟨k, e1, e2, e3⟩ := DataW.trod_int u3 h1
      refine ⟨k, ?_, ?_⟩
      · have := congrArg (fun l : List Value => l[0]?) e1
        simpa using this
      · simp only [Lit.wf, Bool.and_eq_true, decide_eq_true_eq] at e3
        have h1 : IntKind.min .i64 = -9223372036854775808 := by decide
        have h2 : IntKind.max .i64 = 9223372036854775807 := by decide
        rw [h1, h2] at e3; exact e3
  obtain ⟨a, ha, _⟩ := get ⟨0, by omega⟩
  obtain ⟨b, hb, rb⟩ := get ⟨1, by omega⟩
  obtain ⟨c, hc, rc⟩ := get ⟨2, by omega⟩
  obtain ⟨d, hd, _⟩ := get ⟨3, by omega⟩
  refine ⟨a, b, c, d, ?_, rb, rc⟩
  apply List.ext_getElem?
  intro i
  rcases i with _ | _ | _ | _ | i
  · exact ha
  · exact hb
  · exact hc
  · exact hd
  · rw [List.getElem?_eq_none (by omega)]; rfl

theorem cells4 {W : World} {a : Addr} {cs : List Value} (h : W.cells? 0 a 4 = some cs) : ∀ j, j < 4 → W.cell? (a.add j) = cs[j]? := by
  unfold World.cells? at h
  rw [if_pos (Nat.zero_le _)] at h
  intro j hj
  have := mapM_some_get h j j (by simp [hj])
  rw [this]

/-- The script, opened. -/
theorem script4_of {H : Type} {enc : TypeId × Value → H} {W : World} {v : Value} {d : DataW H} {p : List MemPlace} {b0 : Nat} (hval : Value.okWide Tryd.prog W .any b0 68 v) (h : DataW.Trod enc Tryd.prog W 0 (fun _ => true) true 68 v d p)
    (hw : ∀ elems spare, d = .slice elems spare → (elems.length + spare.length) * Tryd.prog.bytesOf 73 ≤ reachBytes) :
    ∃ (sl : Sl) (L : List (Int × Int × Int × Int)), v = .slice sl.a sl.n sl.cap ∧ Script4 (whole W) sl L := by
  obtain ⟨a, len, cap, rfl⟩ := okWide_slice u68 hval
  obtain ⟨fuel, hf⟩ := h
  rcases Deep.open_slice u68 hf with ⟨h1, _⟩ | ⟨ad, len', cap', m, n, D, Pl, h1, _, hle, hcap, hm, hx, hel⟩
  · simp only [Value.cells, List.cons.injEq, Value.slice.injEq, and_true] at h1
    obtain ⟨rfl, rfl, rfl⟩ := h1
    exact ⟨⟨none, 0, 0⟩, [], rfl, ⟨rfl, by simp, by simp, by simp⟩⟩
  · simp only [Value.cells, List.cons.injEq, Value.slice.injEq, and_true] at h1
    obtain ⟨rfl, rfl, rfl⟩ := h1
    have hmm : m = cap := by rw [hm]; rfl
    have hlen : len * 32 ≤ 140737488351232 := by
      simp only [Prod.mk.injEq] at hx
      have h2 := hw _ _ hx.1
      simp only [List.length_map, List.length_range, b73] at h2
      have h3 : reachBytes = 140737488351232 := by decide
      rw [h3] at h2
      omega
    have key : ∀ i, i < len → ∃ x : Int × Int × Int × Int, (Int64 x.2.1 ∧ Int64 x.2.2.1) ∧ W.cell? ((ad.add (i * 4)).add 0) = some (.int .i64 x.1) ∧ W.cell? ((ad.add (i * 4)).add 1) = some (.int .i64 x.2.1) ∧ W.cell? ((ad.add (i * 4)).add 2) = some (.int .i64 x.2.2.1) ∧ W.cell? ((ad.add (i * 4)).add 3) = some (.int .i64 x.2.2.2) := by
      intro i hi
      obtain ⟨cs', hc1, hc2⟩ := hel i (by omega)
      rw [c73] at hc1
      obtain ⟨x, y, z, w, rfl, h2⟩ := op4_of hc2
      have h3 := cells4 hc1
      exact ⟨(x, y, z, w), h2, h3 0 (by omega), h3 1 (by omega), h3 2 (by omega), h3 3 (by omega)⟩
    obtain ⟨F, hF⟩ : ∃ F : Nat → Int × Int × Int × Int, ∀ i, i < len → (Int64 (F i).2.1 ∧ Int64 (F i).2.2.1) ∧ W.cell? ((ad.add (i * 4)).add 0) = some (.int .i64 (F i).1) ∧ W.cell? ((ad.add (i * 4)).add 1) = some (.int .i64 (F i).2.1) ∧ W.cell? ((ad.add (i * 4)).add 2) = some (.int .i64 (F i).2.2.1) ∧ W.cell? ((ad.add (i * 4)).add 3) = some (.int .i64 (F i).2.2.2) :=
      ⟨fun i => if h : i < len then (key i h).choose else (0, 0, 0, 0), fun i hi => by simp only [hi, dif_pos]; exact (key i hi).choose_spec⟩
    have add0 : ∀ a : Addr, a.add 0 = a := fun a => rfl
    refine ⟨⟨some ad, len, cap⟩, (List.range len).map F, rfl, ⟨by simp, fun i x hx => ?_, fun x hx => ?_, by simpa using hlen⟩⟩
    · rw [List.getElem?_map] at hx
      by_cases hi : i < len
      · rw [List.getElem?_range hi] at hx
        simp only [Option.map_some, Option.some.injEq] at hx
        subst hx
        obtain ⟨_, h2, h3, h4, h5⟩ := hF i hi
        rw [add0] at h2
        exact ⟨ad, rfl, At.whole' h2, At.whole' h3, At.whole' h4, At.whole' h5⟩
      · rw [List.getElem?_eq_none (by simpa using hi)] at hx; cases hx
    · simp only [List.mem_map, List.mem_range] at hx
      obtain ⟨i, hi, rfl⟩ := hx
      exact (hF i hi).1

theorem cellPlays_lifted (os : Os) (started : os.Started) (H : Type) (enc : TypeId × Value → H) :
    ReturnsInHanded {} Tryd.checked os 6 .any (fun w args => (Rows.cellPlaysSpec.pre enc Tryd.prog Tryd.f6 [] false w args ∧ laidMetH Tryd.prog laid1 w) ∧ sizedMet enc Tryd.prog Tryd.f6 (OpenSpec.ofChange Rows.cellPlaysSpec) false w args)
      (Rows.cellPlaysSpec.post enc Tryd.prog Tryd.f6 false true false false) := by
  refine returnsInHanded_of_change_and (C := Tryd.checked) (X := fun w _ => laidMetH Tryd.prog laid1 w) (fun _ _ _ hh h => h.of_heap hh) own started (by kernel_rfl) Tryd.func6
    (ChangeSpec.witness_shaped (enc := enc) (C := Tryd.checked) (os := os) (X := fun w _ => laidMetH Tryd.prog laid1 w) false (World.doorLaid Tryd.prog 400 os) #[.int .i64 0, .int .i64 0, .slice none 0 0] 8 rfl (World.shaped_of_RefB (by kernel_rfl) (by kernel_rfl)) (by kernel_rfl) (by kernel_rfl) (by kernel_rfl) (door_met os _)) ?_
  intro W base args ds gs before hval0 hW _ hwt hL _
  have hval : ∀ (j : Nat) t v, Tryd.f6.params[j]? = some t → args[j]? = some v → Value.okWide Tryd.prog W .any base t v := hval0
  have hW' := hW
  obtain ⟨p, q, hA0, hV, rfl, hfz, hnd⟩ := hW
  have hA : DataW.TrodAll enc Tryd.prog W 0 (fun _ => true) true Tryd.f6.params.toList args.toList ds p := hA0
  rw [Tryd.params6] at hA hval
  obtain ⟨v0, v1, v2, d0, d1, d2, p0, p1, p2, rfl, rfl, rfl, h0, h1, h2⟩ := trodAll_three hA
  obtain ⟨n0, rfl, rfl, rfl, _⟩ := open_int u3 (hval 0 3 v0 rfl rfl) h0
  obtain ⟨n1, rfl, rfl, rfl, _⟩ := open_int u3 (hval 1 3 v1 rfl rfl) h1
  obtain ⟨sl, L, rfl, hS⟩ := script4_of (hval 2 68 v2 rfl rfl) h2 (fun elems spare he => sized_slice (j := 2) (t := 68) hwt (by
    show (Tryd.f6.params.toList ++ _)[2]? = _
    rw [Tryd.params6]; rfl) (by rw [he]; rfl) u68)
  obtain ⟨T, fr, ht⟩ := tab_of_laid hL
  obtain ⟨r, hr⟩ := whole_split ht
  haveI : Has 0 (whole W) (.cells deBc T fr) r := ⟨hr⟩
  refine ((cellplays_does n0 n1 sl L hS).2 W (holds_whole W)).mono ?_
  rintro e W' ⟨m', hm, rfl, ho⟩
  refine ⟨_, rfl, post_true (tb := 4) laidOut hW' (hm.kept ho) rfl rfl ?_ (by kernel_rfl) u4⟩
  rw [Tryd.params6]
  exact fun t ht => by
    have hall : ([3, 3, 68].all fun t => Tryd.prog.readableRec t && decide (t < Tryd.prog.types.size)) = true := by kernel_rfl
    simpa using List.all_eq_true.1 hall t (by simpa using ht)

theorem cellPlays_holds : Rows.CellPlaysSaid :=
  OpenClaim.holds_of_wide 6 Tryd.f6 rfl rfl rfl rfl rfl rfl rfl ⟨rfl, rfl, rfl, rfl, rfl⟩ rfl rfl rfl rfl rfl (by kernel_rfl) Tryd.func6 (by kernel_rfl)
    (of_decide_eq_true (by kernel_rfl)) (by unfold Func.isWrapper; first | (rw [if_pos (by decide +kernel)]; kernel_rfl) | (rw [if_neg (by decide +kernel)]; exact ⟨rfl, rfl⟩))
    (fun os started H enc _ => cellPlays_lifted os started H enc)

theorem cellPlays_card_holds : Rows.CellPlaysCardSaid :=
  Claim7.holds_tied_plain_at .later [] [.data] true (true, "420b7c9b758b7d467ed3fa79469ec42a709c9575e54d241a0f06166ae375ec92") false
    cellPlays_holds (fun _ h => by cases h) (by kernel_rfl) (fun _ h => by cases h) cellPlays_row_tie rfl ⟨rfl, rfl⟩ (by kernel_rfl) rfl
    (fun f fn hf hfn => by
      obtain rfl : f = 6 := Option.some.inj ((show Tryd.prog.funcNamed "treadle/treadlelaw07.CellPlays" = some 6 by kernel_rfl).symm.trans hf) |>.symm
      obtain rfl : fn = Tryd.f6 := (Option.some.inj (Tryd.func6.symm.trans hfn)).symm
      exact ⟨by kernel_rfl, fun j t ht => by
        rw [Tryd.params6] at ht
        have hm : t ∈ [3, 3, 68] := by simpa using Array.mem_of_getElem? ht
        have hall : ([3, 3, 68].all fun u => !Tryd.prog.wantsStandIn u) = true := by kernel_rfl
        exact (show Tryd.prog.wantsStandIn t = false by simpa using List.all_eq_true.1 hall t hm)⟩)
    (by kernel_rfl)
end Go.Proofs.YtolfcdjbchdkgaaDoor
