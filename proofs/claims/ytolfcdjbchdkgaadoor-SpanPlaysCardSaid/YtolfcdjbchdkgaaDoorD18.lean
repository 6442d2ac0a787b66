/- The row: what the laid table gives; the script, opened. Own work. -/
import Derived.Test.YtolfcdjbchdkgaaDoorD17
import Derived.Test.YtolfcdjbchdkgaaDoorH18
import Derived.Test.YtolfcdjbchdkgaaDoorRows
import Derived.LaidMore
import Derived.OpenShut
import Derived.Deep.Slices
import Derived.Deep.Strs
import Derived.Stop.Joined
namespace Go.Proofs.YtolfcdjbchdkgaaDoor
open Go Go.Hp Go.ChangeShapes Go.WideShapes Go.ChangeAt Go.WideMaps Go.WideElems Go.RowKit
set_option maxRecDepth 100000

def laid1 : List (String × DataW Unit) := [("math/bits.deBruijn64tab", Rows.laid_math_bits_deBruijn64tab)]
theorem own : ownKnob Tryd.prog.godebug = none := by kernel_rfl
theorem gTab : Tryd.prog.globalNamed "math/bits.deBruijn64tab" = some 0 := by kernel_rfl
theorem tTab : (Tryd.prog.globals[0]?).map (·.type) = some 136 := by kernel_rfl
theorem u136 : Tryd.prog.underlying 136 = some (.array 64 5) := by kernel_rfl
theorem u5 : Tryd.prog.underlying 5 = some (.int .u8) := by kernel_rfl
theorem u3 : Tryd.prog.underlying 3 = some (.int .i64) := by kernel_rfl
theorem u4 : Tryd.prog.underlying 4 = some .bool := by kernel_rfl
theorem u22 : Tryd.prog.underlying 22 = some (.slice 32) := by kernel_rfl
theorem c5 : Tryd.prog.cellsOf 5 = 1 := by kernel_rfl
theorem c32 : Tryd.prog.cellsOf 32 = 3 := by kernel_rfl
theorem laidOut : laidOutB Tryd.prog = true := by kernel_rfl
theorem laid_vals : Rows.laid_math_bits_deBruijn64tab (H := Unit) = .agg (deB.map fun n : Nat => .lit (.int .u8 (n : Int))) := by rfl

theorem tab_of_laid {W : World} (h : laidMetH Tryd.prog laid1 W) : ∃ T fr, W.heap[0]? = some (.cells deBc T fr) := by
  rw [MakeChecks.laidMetH_plain _ _ _ (by kernel_rfl)] at h
  obtain ⟨ps, ⟨g0, t0, cs0, f0, p0, q0, hg0, ht0, hv0, hd0, _, _⟩, _, _⟩ := h
  obtain rfl := Option.some.inj (gTab.symm.trans hg0)
  obtain rfl := Option.some.inj (tTab.symm.trans ht0)
  obtain ⟨xs, m1, rfl, hx, hlen, hn, hel⟩ := DataW.trod_array u136 hd0
  have c136 : Tryd.prog.cellsOf 136 = 64 := by kernel_rfl
  rw [c136] at hlen
  rw [laid_vals] at hx
  simp only [Prod.mk.injEq, DataW.agg.injEq] at hx
  obtain ⟨hx1, _⟩ := hx
  have hcs : cs0 = deBc := by
    apply Array.ext'
    unfold deBc
    rw [List.toList_toArray]
    apply List.ext_getElem?
    intro i
    by_cases hi : i < 64
    · have h1 := hel i hi
      rw [c5, Nat.mul_one] at h1
      have hxi : xs[i]? = some xs[i] := List.getElem?_eq_getElem (by omega)
      rw [hxi] at h1
      obtain ⟨k, e1, e2, _⟩ := DataW.trod_int u5 h1
      have h2 : (xs.map (·.1))[i]? = some (.lit (.int .u8 k)) := by rw [List.getElem?_map, hxi, e2]; rfl
      rw [← hx1, List.getElem?_map] at h2
      rw [List.getElem?_map]
      have h3 : cs0.toList[i]? = some (.int .u8 k) := by
        have := congrArg (fun l : List Value => l[0]?) e1
        simpa using this
      rw [h3]
      cases hd : deB[i]? with
      | none => rw [hd] at h2; cases h2
      | some v =>
        rw [hd] at h2
        simp only [Option.map_some, Option.some.injEq, DataW.lit.injEq, Lit.int.injEq, true_and] at h2 ⊢
        rw [h2]
    · rw [List.getElem?_eq_none (by omega), List.getElem?_eq_none (by rw [List.length_map]; exact Nat.le_trans (show deB.length ≤ 64 from Nat.le_of_ble_eq_true (by kernel_rfl)) (by omega))]
  unfold World.var? at hv0
  rw [gTab] at hv0
  simp only [Option.bind_some] at hv0
  split at hv0
  · rename_i c T fr hc
    simp only [Option.some.injEq] at hv0
    subst hv0 hcs
    exact ⟨T, fr, hc⟩
  · cases hv0

noncomputable def f32 : Array Field := (match Tryd.prog.underlying 32 with | some (.struct fs) => fs | _ => #[])
theorem u32 : Tryd.prog.underlying 32 = some (.struct f32) := by kernel_rfl
theorem f32_0 : (f32[0]?).map (fun f => (f.offset, f.type)) = some (0, 3) := by kernel_rfl
theorem f32_1 : (f32[1]?).map (fun f => (f.offset, f.type)) = some (1, 3) := by kernel_rfl
theorem f32_2 : (f32[2]?).map (fun f => (f.offset, f.type)) = some (2, 3) := by kernel_rfl
theorem f32_get (i : Fin 3) : (f32[i.val]?).map (fun f => (f.offset, f.type)) = some (i.val, 3) := by
  rcases i with ⟨i, hi⟩
  rcases i with _ | _ | _ | i
  · exact f32_0
  · exact f32_1
  · exact f32_2
  · omega
theorem c3 : Tryd.prog.cellsOf 3 = 1 := by kernel_rfl

/-- A struct of three integers, read. -/
theorem op_of {H : Type} {enc : TypeId × Value → H} {W : World} {n : Nat} {cs : List Value} {x : DataW H × List MemPlace} (h : DataW.trod enc Tryd.prog W 0 (fun _ => true) true n 32 cs = some x) :
    ∃ a b c : Int, cs = [.int .i64 a, .int .i64 b, .int .i64 c] ∧ I64 a ∧ I64 b ∧ I64 c := by
  obtain ⟨xs, m, _, rfl, hl, hlen, hf⟩ := DataW.trod_struct u32 h
  rw [c32] at hl
  have get : ∀ i : Fin 3, ∃ a : Int, cs[i.val]? = some (.int .i64 a) ∧ I64 a := by
    intro i
    have hg := f32_get i
    cases hfi : f32[i.val]? with
    | none => rw [hfi] at hg; cases hg
    | some f =>
      rw [hfi] at hg
      simp only [Option.map_some, Option.some.injEq, Prod.mk.injEq] at hg
      obtain ⟨ho, ht⟩ := hg
      have h1 := hf i.val f hfi
      have hsz : f32.size = 3 := by kernel_rfl
      have hi : i.val < xs.length := by rw [hlen, hsz]; exact i.isLt
      rw [ht, c3, ho, List.getElem?_eq_getElem hi] at h1
      obtain ⟨k, e1, e2, e3⟩ := DataW.trod_int u3 h1
      refine ⟨k, ?_, ?_⟩
      · have := congrArg (fun l : List Value => l[0]?) e1
        simpa using this
      · simp only [Lit.wf, Bool.and_eq_true, decide_eq_true_eq] at e3
        have h1 : IntKind.min .i64 = -9223372036854775808 := by decide
        have h2 : IntKind.max .i64 = 9223372036854775807 := by decide
        rw [h1, h2] at e3; exact e3
  obtain ⟨a, ha, ra⟩ := get ⟨0, by omega⟩
  obtain ⟨b, hb, rb⟩ := get ⟨1, by omega⟩
  obtain ⟨c, hc, rc⟩ := get ⟨2, by omega⟩
  refine ⟨a, b, c, ?_, ra, rb, rc⟩
  apply List.ext_getElem?
  intro i
  rcases i with _ | _ | _ | i
  · exact ha
  · exact hb
  · exact hc
  · rw [List.getElem?_eq_none (by omega)]; rfl

theorem cells3 {W : World} {a : Addr} {cs : List Value} (h : W.cells? 0 a 3 = some cs) : ∀ j, j < 3 → W.cell? (a.add j) = cs[j]? := by
  unfold World.cells? at h
  rw [if_pos (Nat.zero_le _)] at h
  intro j hj
  have := mapM_some_get h j j (by simp [hj])
  rw [this]

/-- The script, opened. -/
theorem script_of {H : Type} {enc : TypeId × Value → H} {W : World} {v : Value} {d : DataW H} {p : List MemPlace} {b0 : Nat} (hval : Value.okWide Tryd.prog W .any b0 22 v) (h : DataW.Trod enc Tryd.prog W 0 (fun _ => true) true 22 v d p) :
    ∃ (sl : Sl) (L : List (Int × Int × Int)), v = .slice sl.a sl.n sl.cap ∧ Script (whole W) sl L := by
  obtain ⟨a, len, cap, rfl⟩ := okWide_slice u22 hval
  obtain ⟨fuel, hf⟩ := h
  rcases Deep.open_slice u22 hf with ⟨h1, _⟩ | ⟨ad, len', cap', m, n, D, Pl, h1, _, hle, hcap, hm, _, hel⟩
  · simp only [Value.cells, List.cons.injEq, Value.slice.injEq, and_true] at h1
    obtain ⟨rfl, rfl, rfl⟩ := h1
    exact ⟨⟨none, 0, 0⟩, [], rfl, ⟨rfl, by simp, by simp, by simp⟩⟩
  · simp only [Value.cells, List.cons.injEq, Value.slice.injEq, and_true] at h1
    obtain ⟨rfl, rfl, rfl⟩ := h1
    have hmm : m = cap := by rw [hm]; rfl
    have key : ∀ i, i < len → ∃ x : Int × Int × Int, (I64 x.1 ∧ I64 x.2.1 ∧ I64 x.2.2) ∧ W.cell? ((ad.add (i * 3)).add 0) = some (.int .i64 x.1) ∧ W.cell? ((ad.add (i * 3)).add 1) = some (.int .i64 x.2.1) ∧ W.cell? ((ad.add (i * 3)).add 2) = some (.int .i64 x.2.2) := by
      intro i hi
      obtain ⟨cs', hc1, hc2⟩ := hel i (by omega)
      rw [c32] at hc1
      obtain ⟨x, y, z, rfl, h2⟩ := op_of hc2
      have h3 := cells3 hc1
      exact ⟨(x, y, z), h2, h3 0 (by omega), h3 1 (by omega), h3 2 (by omega)⟩
    obtain ⟨F, hF⟩ : ∃ F : Nat → Int × Int × Int, ∀ i, i < len → (I64 (F i).1 ∧ I64 (F i).2.1 ∧ I64 (F i).2.2) ∧ W.cell? ((ad.add (i * 3)).add 0) = some (.int .i64 (F i).1) ∧ W.cell? ((ad.add (i * 3)).add 1) = some (.int .i64 (F i).2.1) ∧ W.cell? ((ad.add (i * 3)).add 2) = some (.int .i64 (F i).2.2) :=
      ⟨fun i => if h : i < len then (key i h).choose else (0, 0, 0), fun i hi => by simp only [hi, dif_pos]; exact (key i hi).choose_spec⟩
    have add0 : ∀ a : Addr, a.add 0 = a := fun a => rfl
    have hlen : (len : Int) ≤ 9223372036854775807 := by
      have : (cap : Int) ≤ maxLen := by exact_mod_cast hcap
      have h2 : (maxLen : Int) ≤ 9223372036854775807 := by decide
      omega
    refine ⟨⟨some ad, len, cap⟩, (List.range len).map F, rfl, ⟨by simp, fun i x hx => ?_, fun x hx => ?_, by simpa using hlen⟩⟩
    · rw [List.getElem?_map] at hx
      by_cases hi : i < len
      · rw [List.getElem?_range hi] at hx
        simp only [Option.map_some, Option.some.injEq] at hx
        subst hx
        obtain ⟨_, h2, h3, h4⟩ := hF i hi
        rw [add0] at h2
        exact ⟨ad, rfl, At.whole' h2, At.whole' h3, At.whole' h4⟩
      · rw [List.getElem?_eq_none (by simpa using hi)] at hx; cases hx
    · simp only [List.mem_map, List.mem_range] at hx
      obtain ⟨i, hi, rfl⟩ := hx
      exact (hF i hi).1
end Go.Proofs.YtolfcdjbchdkgaaDoor
