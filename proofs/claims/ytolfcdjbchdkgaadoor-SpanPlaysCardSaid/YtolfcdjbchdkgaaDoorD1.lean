/- Contracts: math/bits. Own work. -/
import Derived.Test.YtolfcdjbchdkgaaDoorP1
import Derived.Test.YtolfcdjbchdkgaaDoorH14
namespace Go.Proofs.YtolfcdjbchdkgaaDoor
open Go Go.Hp
set_option maxRecDepth 100000

/-- What the table holds. -/
def deB : List Nat := [0, 1, 56, 2, 57, 49, 28, 3, 61, 58, 42, 50, 38, 29, 17, 4, 62, 47, 59, 36, 45, 43, 51, 22, 53, 39, 33, 30, 24, 18, 12, 5, 63, 55, 48, 27, 60, 41, 37, 16, 46, 35, 44, 21, 52, 32, 23, 11, 54, 26, 40, 15, 34, 20, 31, 10, 25, 14, 19, 9, 13, 8, 7, 6]
def deBc : Array Value := (deB.map fun n : Nat => Value.int .u8 (n : Int)).toArray

/-- The lowest bit that is set; 64: none. -/
def tz (x : BitVec 64) : Nat := ((List.range 64).find? fun i => x.getLsbD i).getD 64
theorem tz_le (x : BitVec 64) : tz x ≤ 64 := by
  unfold tz
  cases h : (List.range 64).find? fun i => x.getLsbD i with
  | none => simp
  | some i => have := List.mem_of_find?_eq_some h; simp at this ⊢; omega
theorem tz_low {x : BitVec 64} {i : Nat} (h : i < tz x) : x.getLsbD i = false := by
  unfold tz at h
  cases hf : (List.range 64).find? fun i => x.getLsbD i with
  | none =>
    rw [hf] at h; simp at h
    have := List.find?_eq_none.1 hf i (by simpa using h)
    simpa using this
  | some j =>
    rw [hf] at h; simp at h
    rw [List.find?_range_eq_some] at hf
    simpa using hf.2.2 i h
theorem tz_bit {x : BitVec 64} (h : tz x < 64) : x.getLsbD (tz x) = true := by
  unfold tz at h ⊢
  cases hf : (List.range 64).find? fun i => x.getLsbD i with
  | none => rw [hf] at h; simp at h
  | some j => have := List.find?_some hf; simpa using this
theorem tz_zero (x : BitVec 64) : tz x = 64 ↔ x = 0#64 := by
  constructor
  · intro h
    apply BitVec.eq_of_getLsbD_eq
    intro i hi
    rw [tz_low (by omega)]; simp
  · rintro rfl; decide
theorem low_bit {x : BitVec 64} (h : tz x < 64) : x &&& -x = BitVec.twoPow 64 (tz x) := by
  apply BitVec.eq_of_getLsbD_eq
  intro i hi
  rw [BitVec.getLsbD_and, BitVec.getLsbD_neg, BitVec.getLsbD_twoPow]
  rcases Nat.lt_trichotomy i (tz x) with h1 | h1 | h1
  · rw [tz_low h1]; simp; omega
  · subst h1
    rw [tz_bit h]
    have : decide (∃ j, j < tz x ∧ x.getLsbD j = true) = false := by
      rw [decide_eq_false_iff_not]; rintro ⟨j, hj, h2⟩; rw [tz_low hj] at h2; cases h2
    simp [this, h]
  · have : decide (∃ j, j < i ∧ x.getLsbD j = true) = true := by
      rw [decide_eq_true_eq]; exact ⟨tz x, h1, tz_bit h⟩
    simp [this, hi]; omega
theorem deB_all : ((List.range 64).all fun t => deB[2 ^ t * 285870213051353865 % 18446744073709551616 / 288230376151711744]? == some t) = true := by kernel_rfl
theorem deB_ok {t : Nat} (ht : t < 64) : deB[((BitVec.twoPow 64 t * 285870213051353865#64) >>> 58).toNat]? = some t := by
  have := List.all_eq_true.1 deB_all t (by simpa using ht)
  have e : ((BitVec.twoPow 64 t * 285870213051353865#64) >>> 58).toNat = 2 ^ t * 285870213051353865 % 18446744073709551616 / 288230376151711744 := by
    rw [BitVec.toNat_ushiftRight, BitVec.toNat_mul, BitVec.toNat_twoPow, Nat.shiftRight_eq_div_pow]
    simp only [BitVec.toNat_ofNat]
    rw [Nat.mod_eq_of_lt (a := 2 ^ t) (Nat.pow_lt_pow_right (by omega) ht)]
  rw [e]; simpa using this
theorem shr58_lt (x : BitVec 64) : (x >>> 58).toNat < 64 := by
  rw [BitVec.toNat_ushiftRight, Nat.shiftRight_eq_div_pow]; have := x.isLt; omega

theorem deBc_get {i v : Nat} (h : deB[i]? = some v) : deBc[i]? = some (.int .u8 (v : Int)) := by
  unfold deBc; rw [List.getElem?_toArray, List.getElem?_map, h]; rfl
theorem idxW (y : BitVec 64) : 0 + (W y).toNat * 1 = y.toNat := by unfold W; omega
theorem c0 : (0 : Int) = W 0#64 := W_lit 0 (by decide)
theorem cDe : (285870213051353865 : Int) = W 285870213051353865#64 := W_lit 285870213051353865 (by decide)
theorem c58 : (58 : Int).toNat = 58 := rfl

theorem tz_does (x : BitVec 64) {m r : HP} {T : TypeId} {fr : Nat × Nat} [Has 0 m (.cells deBc T fr) r] : Does Tryd.prog 51 #[.int .u64 (W x)] m (ret (.int .i64 (tz x : Nat)) m) := by
  refine F51_fn ?_
  unfold F51
  rw [c0, cDe]
  refine hIf_eqW (fun h => ?_) (fun h => ?_)
  · rw [(tz_zero x).2 h]; exact ⟨rfl, Over.refl _⟩
  · have hlt : tz x < 64 := by have := tz_le x; have := mt (tz_zero x).1 h; omega
    refine hInt_negW ?_
    rw [bitv_and, low_bit hlt]
    refine hInt_mulW ?_
    refine hShr_W (by decide) ?_
    rw [c58]
    have hd := deB_ok hlt
    have hlt2 : W ((BitVec.twoPow 64 (tz x) * 285870213051353865#64) >>> 58) < (64 : Nat) := Int.ofNat_lt.2 (shr58_lt _)
    refine hIdx_of (W_nonneg _) hlt2 ?_
    refine hLoad_int (x := (tz x : Nat)) ?_ ?_
    · rw [idxW]; exact deBc_get hd
    · refine hInt_i64 (by omega) (by omega) ?_
      exact ⟨rfl, Over.refl _⟩

/-! ### Len64, LeadingZeros64 -/
/-- n bits hold v, and no fewer. -/
def IsLen (v n : Nat) : Prop := v < 2 ^ n ∧ (0 < n → 2 ^ (n - 1) ≤ v)
theorem IsLen.pos {v n : Nat} (h : IsLen v n) (hv : 0 < v) : 0 < n := by
  rcases Nat.eq_zero_or_pos n with rfl | h'
  · have := h.1; omega
  · exact h'
theorem IsLen.shift {v n k : Nat} (h : IsLen (v / 2 ^ k) n) (hv : 2 ^ k ≤ v) : IsLen v (k + n) := by
  have hp : 0 < v / 2 ^ k := Nat.div_pos hv (Nat.two_pow_pos k)
  have hn := h.pos hp
  constructor
  · rw [Nat.pow_add, Nat.mul_comm]; exact (Nat.div_lt_iff_lt_mul (Nat.two_pow_pos k)).1 h.1
  · intro _
    rw [show k + n - 1 = (n - 1) + k by omega, Nat.pow_add]
    exact (Nat.le_div_iff_mul_le (Nat.two_pow_pos k)).1 (h.2 hn)
def len8 : ByteArray := {data := #[0, 1, 2, 2, 3, 3, 3, 3, 4, 4, 4, 4, 4, 4, 4, 4, 5, 5, 5, 5, 5, 5, 5, 5, 5, 5, 5, 5, 5, 5, 5, 5, 6, 6, 6, 6, 6, 6, 6, 6, 6, 6, 6, 6, 6, 6, 6, 6, 6, 6, 6, 6, 6, 6, 6, 6, 6, 6, 6, 6, 6, 6, 6, 6, 7, 7, 7, 7, 7, 7, 7, 7, 7, 7, 7, 7, 7, 7, 7, 7, 7, 7, 7, 7, 7, 7, 7, 7, 7, 7, 7, 7, 7, 7, 7, 7, 7, 7, 7, 7, 7, 7, 7, 7, 7, 7, 7, 7, 7, 7, 7, 7, 7, 7, 7, 7, 7, 7, 7, 7, 7, 7, 7, 7, 7, 7, 7, 7, 8, 8, 8, 8, 8, 8, 8, 8, 8, 8, 8, 8, 8, 8, 8, 8, 8, 8, 8, 8, 8, 8, 8, 8, 8, 8, 8, 8, 8, 8, 8, 8, 8, 8, 8, 8, 8, 8, 8, 8, 8, 8, 8, 8, 8, 8, 8, 8, 8, 8, 8, 8, 8, 8, 8, 8, 8, 8, 8, 8, 8, 8, 8, 8, 8, 8, 8, 8, 8, 8, 8, 8, 8, 8, 8, 8, 8, 8, 8, 8, 8, 8, 8, 8, 8, 8, 8, 8, 8, 8, 8, 8, 8, 8, 8, 8, 8, 8, 8, 8, 8, 8, 8, 8, 8, 8, 8, 8, 8, 8, 8, 8, 8, 8, 8, 8, 8, 8, 8, 8, 8, 8, 8, 8, 8, 8, 8, 8]}
def lenOk (v : Nat) : Bool := match len8.data[v]? with | some b => decide (v < 2 ^ b.toNat) && (b.toNat == 0 || decide (2 ^ (b.toNat - 1) ≤ v)) && decide (b.toNat ≤ 8) | none => false
theorem len8_all : ((List.range 256).all lenOk) = true := by kernel_rfl
theorem len8_get {v : Nat} (h : v < 256) : ∃ b, len8[v]? = some b ∧ IsLen v b.toNat ∧ b.toNat ≤ 8 := by
  have := List.all_eq_true.1 len8_all v (by simpa using h)
  unfold lenOk at this
  have hs : 256 ≤ len8.data.size := Nat.le_of_ble_eq_true (by kernel_rfl)
  have hg : len8.data[v]? = some (len8.data[v]'(by omega)) := Array.getElem?_eq_getElem _
  rw [hg] at this
  simp only [Bool.and_eq_true, decide_eq_true_eq, Bool.or_eq_true, beq_iff_eq] at this
  refine ⟨len8.data[v]'(by omega), ?_, ⟨this.1.1, fun h => this.1.2.resolve_left (by omega)⟩, this.2⟩
  rw [getElem?_pos len8 v (by show v < len8.data.size; omega)]
  rfl

theorem wrap_u8 {x : Int} (h0 : 0 ≤ x) (h1 : x < 256) : IntKind.u8.wrap x = x := by
  simp only [IntKind.wrap, IntKind.bits, IntKind.signed]
  have : (2 : Int) ^ 8 = 256 := by decide
  simp [this, Int.emod_eq_of_lt h0 h1]
theorem hInt_u8 {m : HP} {x : Int} {K : Int → HP → Prop} (h0 : 0 ≤ x) (h1 : x < 256) (hk : K x m) : hInt .u8 x K m := by unfold hInt; rw [wrap_u8 h0 h1]; exact hk
theorem hByte_of {m : HP} {s : ByteArray} {i : Int} {b : UInt8} {K : Int → HP → Prop} (h0 : 0 ≤ i) (hb : s[i.toNat]? = some b) (hk : K b.toNat m) : hByte s i K m := ⟨h0, b, hb, hk⟩
theorem shr_nat (y : BitVec 64) (k : Nat) : (y >>> k).toNat = y.toNat / 2 ^ k := by rw [BitVec.toNat_ushiftRight, Nat.shiftRight_eq_div_pow]

theorem len_does (x : BitVec 64) (m : HP) : Does Tryd.prog 89 #[.int .u64 (W x)] m fun e m' => ∃ n : Nat, IsLen x.toNat n ∧ n ≤ 64 ∧ ret (.int .i64 n) m e m' := by
  refine F89_fn ?_
  unfold F89
  have hx := x.isLt
  refine hLet_of (fun s m' => m' = m ∧ ∃ (y : BitVec 64) (n : Nat), s = (W y, (n : Int), ()) ∧ y.toNat < 2 ^ 32 ∧ n ≤ 32 ∧ ∀ l, IsLen y.toNat l → IsLen x.toNat (n + l)) ?_ ?_
  · refine hIf_dec (fun h => ?_) (fun h => ?_)
    · refine hShr_W (by decide) ⟨rfl, x >>> 32, 32, rfl, ?_, by omega, fun l hl => ?_⟩
      · rw [shr_nat]; omega
      · rw [shr_nat] at hl; exact hl.shift (by unfold W at h; omega)
    · exact ⟨rfl, x, 0, rfl, by unfold W at h; omega, by omega, fun l hl => by simpa using hl⟩
  rintro s m' ⟨rfl, y, n, rfl, hy, hn, hl⟩
  refine hAll_of fun _ => ?_
  unfold F89_j4
  dsimp only
  refine hLet_of (fun s m'' => m'' = m' ∧ ∃ (y : BitVec 64) (n : Nat), s = (W y, (n : Int), ()) ∧ y.toNat < 2 ^ 16 ∧ n ≤ 48 ∧ ∀ l, IsLen y.toNat l → IsLen x.toNat (n + l)) ?_ ?_
  · refine hIf_dec (fun h => ?_) (fun h => ?_)
    · refine hShr_W (by decide) (hInt_i64 (by omega) (by omega) ⟨rfl, y >>> 16, n + 16, rfl, ?_, by omega, fun l hl' => ?_⟩)
      · rw [shr_nat]; omega
      · rw [shr_nat] at hl'; have := hl _ (hl'.shift (by unfold W at h; omega)); rwa [Nat.add_assoc]
    · exact ⟨rfl, y, n, rfl, by unfold W at h; omega, by omega, hl⟩
  rintro s m'' ⟨rfl, y, n, rfl, hy, hn, hl⟩
  refine hAll_of fun _ => ?_
  unfold F89_j7
  dsimp only
  refine hLet_of (fun s m' => m' = m'' ∧ ∃ (y : BitVec 64) (n : Nat), s = (W y, (n : Int), ()) ∧ y.toNat < 2 ^ 8 ∧ n ≤ 56 ∧ ∀ l, IsLen y.toNat l → IsLen x.toNat (n + l)) ?_ ?_
  · refine hIf_dec (fun h => ?_) (fun h => ?_)
    · refine hShr_W (by decide) (hInt_i64 (by omega) (by omega) ⟨rfl, y >>> 8, n + 8, rfl, ?_, by omega, fun l hl' => ?_⟩)
      · rw [shr_nat]; omega
      · rw [shr_nat] at hl'; have := hl _ (hl'.shift (by unfold W at h; omega)); rwa [Nat.add_assoc]
    · exact ⟨rfl, y, n, rfl, by unfold W at h; omega, by omega, hl⟩
  rintro s m' ⟨rfl, y, n, rfl, hy, hn, hl⟩
  refine hAll_of fun _ => ?_
  unfold F89_j10
  dsimp only
  obtain ⟨b, hb1, hb2, hb3⟩ := len8_get (v := y.toNat) (by omega)
  refine hInt_u8 (W_nonneg _) (by unfold W; omega) ?_
  refine hByte_of (W_nonneg _) hb1 ?_
  refine hInt_i64 (by omega) (by omega) (hInt_i64 (by omega) (by omega) ?_)
  exact ⟨n + b.toNat, hl _ hb2, by omega, rfl, Over.refl _⟩

/-- How many of the upper bits are not set. -/
def IsLz (x : BitVec 64) (t : Nat) : Prop := t ≤ 64 ∧ (∀ i, 64 - t ≤ i → i < 64 → x.getLsbD i = false) ∧ (t < 64 → x.getLsbD (63 - t) = true)
theorem IsLz.of_len {x : BitVec 64} {n : Nat} (h : IsLen x.toNat n) (hn : n ≤ 64) : IsLz x (64 - n) := by
  refine ⟨by omega, fun i hi _ => ?_, fun ht => ?_⟩
  · rw [BitVec.getLsbD]; exact Nat.testBit_lt_two_pow (Nat.lt_of_lt_of_le h.1 (Nat.pow_le_pow_right (by omega) (by omega)))
  · have hp : 0 < n := by omega
    have := h.2 hp
    rw [BitVec.getLsbD, show 63 - (64 - n) = n - 1 by omega]
    rw [Nat.testBit_eq_decide_div_mod_eq, decide_eq_true_eq]
    have h1 := h.1
    have e : 2 ^ n = 2 * 2 ^ (n - 1) := by rw [← Nat.pow_succ']; congr 1; omega
    have : x.toNat / 2 ^ (n - 1) = 1 := by
      apply Nat.div_eq_of_lt_le <;> omega
    rw [this]
theorem IsLz.uniq {x : BitVec 64} {t t' : Nat} (h : IsLz x t) (h' : IsLz x t') : t = t' := by
  rcases Nat.lt_trichotomy t t' with h1 | h1 | h1
  · have := h.2.2 (by have := h'.1; omega); rw [h'.2.1 _ (by omega) (by omega)] at this; cases this
  · exact h1
  · have := h'.2.2 (by have := h.1; omega); rw [h.2.1 _ (by omega) (by omega)] at this; cases this

theorem lz_does (x : BitVec 64) (m : HP) : Does Tryd.prog 88 #[.int .u64 (W x)] m fun e m' => ∃ t : Nat, IsLz x t ∧ ret (.int .i64 t) m e m' := by
  refine F88_fn ?_
  unfold F88
  refine hCall_of (len_does x m) ?_
  rintro e m' ⟨n, hn, hle, rfl, ho⟩
  refine ⟨m, ho, _, rfl, hInt_i64 (by omega) (by omega) ⟨64 - n, IsLz.of_len hn hle, ?_, Over.refl _⟩⟩
  rw [show (64 : Int) - (n : Int) = ((64 - n : Nat) : Int) by omega]

end Go.Proofs.YtolfcdjbchdkgaaDoor
