/- Operations over heaplets: those that write or make memory, maps, calls. Own work; nothing of any program. -/
import Derived.Test.YtolfcdjbchdkgaaDoorH3
namespace Go.Hp
open Go

/-! ### Calls -/
def HCalls (P : Program) (f : FuncId) (args : Array Value) (m : HP) (R : Ending → HP → Prop) : Prop :=
  ∀ w, Holds w m → Calls P f args w fun e w' => ∃ m', Holds w' m' ∧ R e m'

theorem HCalls.mono {P : Program} {f : FuncId} {args : Array Value} {m : HP} {R R' : Ending → HP → Prop} (h : HCalls P f args m R) (hr : ∀ e m', R e m' → R' e m') : HCalls P f args m R' :=
  fun w hw => (h w hw).mono fun e w' ⟨m', h1, h2⟩ => ⟨m', h1, hr e m' h2⟩

def Callable (P : Program) (f : FuncId) : Prop := ∀ args w, (callFunc f args).run P w = .ok (.enter f args) w

/-- A function of the program, called: from whatever world that holds m. -/
def Does (P : Program) (f : FuncId) (args : Array Value) (m : HP) (R : Ending → HP → Prop) : Prop := Callable P f ∧ HCalls P f args m R

theorem Does.mono {P : Program} {f : FuncId} {args : Array Value} {m : HP} {R R' : Ending → HP → Prop} (h : Does P f args m R) (hr : ∀ e m', R e m' → R' e m') : Does P f args m R' :=
  ⟨h.1, h.2.mono hr⟩

def retX (K : Value → HP → Prop) (X : List PanicEntry → HP → Prop) : Ending → HP → Prop
  | .returned v => K v
  | .panicked c => X c
  | .outgrown => no

/-- What an operation, carried out in the world w, must come to. -/
def OpOK (P : Program) (s : Sem Next) (K : Value → HP → Prop) (X : List PanicEntry → HP → Prop) (w : World) : Prop :=
  match s.run P w with
  | .ok (.value v) w' => ∃ m', Holds w' m' ∧ K v m'
  | .ok .skip w' => ∃ m', Holds w' m' ∧ K undef m'
  | .ok (.enter f args) w' => ∃ m', Holds w' m' ∧ HCalls P f args m' (retX K X)
  | .halt (.panic v) w' => ∃ m', Holds w' m' ∧ X [{ v, recovered := false }] m'
  | _ => False

theorem OpOK.value {P : Program} {s : Sem Value} {K : Value → HP → Prop} {X : List PanicEntry → HP → Prop} {w w' : World} {v : Value} {m' : HP}
    (h : s.run P w = .ok v w') (hw : Holds w' m') (hk : K v m') : OpOK P (do pure (.value (← s))) K X w := by
  unfold OpOK; simp only [Sem.run_bind, h, Result.andThen_ok, Sem.run_pure]; exact ⟨m', hw, hk⟩
theorem OpOK.unit {P : Program} {s : Sem Unit} {K : Value → HP → Prop} {X : List PanicEntry → HP → Prop} {w w' : World} {m' : HP}
    (h : s.run P w = .ok () w') (hw : Holds w' m') (hk : K undef m') : OpOK P (do s; pure .skip) K X w := by
  unfold OpOK; simp only [Sem.run_bind, h, Result.andThen_ok, Sem.run_pure]; exact ⟨m', hw, hk⟩

/-- A value operation that writes: what its run must come to. -/
def Wv (P : Program) (s : Sem Value) (K : Value → HP → Prop) (m : HP) : Prop := ∀ w, Holds w m → ∃ v w' m', s.run P w = .ok v w' ∧ Holds w' m' ∧ K v m'
def Wu (P : Program) (s : Sem Unit) (K : HP → Prop) (m : HP) : Prop := ∀ w, Holds w m → ∃ w' m', s.run P w = .ok () w' ∧ Holds w' m' ∧ K m'

/-! ### store, alloc, box, build, make -/
def okCells (vs : List Value) : Bool := vs.all Value.oneCell'

def lStore (P : Program) (t : TypeId) (p v : Value) (K : HP → Prop) : HP → Prop :=
  match p with
  | .pointer (some ad) => if sizeB P t = some v.cells.size ∧ okCells v.cells.toList = true then hStores v.cells.toList ad 0 K else no
  | _ => no

theorem lStore_sound {P : Program} {t : TypeId} {p v : Value} {K : HP → Prop} {m : HP} (h : lStore P t p v K m) : Wu P (Instr.storeAt t p v) K m := by
  unfold lStore at h
  split at h
  case h_2 => exact h.elim
  case h_1 ad =>
  split at h
  case isFalse => exact h.elim
  case isTrue hc =>
  intro w hw
  have hok : ∀ u ∈ v.cells.toList, u.oneCell' = true := fun u hu => List.all_eq_true.1 hc.2 u hu
  obtain ⟨w', m', h1, h2, h3⟩ := hStores_sound hok h (P := P) hw
  exact ⟨w', m', by simp [Instr.storeAt, Instr.sureAddr, storeVar, run_sizeB w hc.1, h1], h2, h3⟩

def lAlloc (P : Program) (t : TypeId) (K : Value → HP → Prop) : HP → Prop :=
  match zeroB P t with
  | some z => hNew z.cells t fun b => K (.pointer (some ⟨b, 0, none⟩))
  | none => no

theorem lAlloc_sound {P : Program} {t : TypeId} {K : Value → HP → Prop} {m : HP} (h : lAlloc P t K m) : Wv P (Instr.alloc t true (.tuple #[])) K m := by
  unfold lAlloc at h
  generalize hz : zeroB P t = z at h
  split at h
  case h_2 => exact h.elim
  case h_1 z =>
  intro w hw
  obtain ⟨b, w', m', h1, h2, h3⟩ := hNew_sound h (P := P) hw
  exact ⟨_, w', m', by simp [Instr.alloc, run_zeroB w hz, newVar, h1], h2, h3⟩

def lBox (t : TypeId) (v : Value) (K : Value → HP → Prop) : HP → Prop := hNew v.cells t fun b => K (.pointer (some ⟨b, 0, none⟩))
theorem lBox_sound {P : Program} {t : TypeId} {v : Value} {K : Value → HP → Prop} {m : HP} (h : lBox t v K m) : Wv P (Instr.box t v) K m := by
  intro w hw
  obtain ⟨b, w', m', h1, h2, h3⟩ := hNew_sound h (P := P) hw
  exact ⟨_, w', m', by simp [Instr.box, newVar, h1], h2, h3⟩

/-- The cells of a composite value. -/
def buildCells (P : Program) (t : TypeId) (parts : List (Nat × Value)) : Option (Array Value) :=
  match zeroB P t, P.underlying t with
  | some z, some (.struct fs) =>
    if fs.toList.all (fun f => (sizeB P f.type).isSome) then
      Instr.fill (fun i => (fs[i]?).map fun f => (f.offset, (sizeB P f.type).getD 0)) z.cells parts
    else none
  | some z, some (.array _ e) => match sizeB P e with | some s => Instr.fill (fun i => some (i * s, s)) z.cells parts | none => none
  | _, _ => none

theorem run_mapM_list {α β : Type} {P : Program} {w : World} (f : α → Sem β) (g : α → β) : ∀ l : List α, (∀ x ∈ l, (f x).run P w = .ok (g x) w) → (l.mapM f).run P w = .ok (l.map g) w := by
  intro l
  induction l with
  | nil => intro _; simp
  | cons x l ih =>
    intro h
    simp [List.mapM_cons, h x (by simp), ih (fun y hy => h y (by simp [hy]))]

theorem buildCells_sound {P : Program} {t : TypeId} {parts : Array (Nat × Value)} {cs : Array Value} (h : buildCells P t parts.toList = some cs) (w : World) :
    (Instr.build t parts).run P w = .ok (.agg cs) w := by
  unfold buildCells at h
  generalize hz : zeroB P t = z at h
  generalize hu : P.underlying t = u at h
  split at h
  case h_1 z fs =>
    split at h
    case isFalse => cases h
    case isTrue hall =>
    have h1 : (fs.mapM fun f => do pure (f.offset, ← sizeOf f.type) : Sem (Array (Nat × Nat))).run P w = .ok (fs.map fun f => (f.offset, (sizeB P f.type).getD 0)) w := by
      rw [Array.mapM_eq_mapM_toList]
      have := run_mapM_list (P := P) (w := w) (fun f : Field => (do pure (f.offset, ← sizeOf f.type) : Sem (Nat × Nat))) (fun f => (f.offset, (sizeB P f.type).getD 0)) fs.toList (fun f hf => by
        have := List.all_eq_true.1 hall f hf
        obtain ⟨n, hn⟩ := Option.isSome_iff_exists.1 this
        simp [run_sizeB w hn, hn])
      simp only [Sem.run_map, this, Result.andThen_ok]
      congr 1
      apply Array.ext'
      simp
    have h2 : (fun i : Nat => (fs.map fun f : Field => (f.offset, (sizeB P f.type).getD 0))[i]?) = (fun i => (fs[i]?).map fun f : Field => (f.offset, (sizeB P f.type).getD 0)) := by
      funext i; simp
    simp only [Instr.build, Sem.run_bind, run_zeroB w hz, run_underlying hu, Result.andThen_ok, h1, h2, h, Sem.run_pure]
  case h_2 z n e =>
    generalize hs : sizeB P e = s at h
    split at h
    case h_2 => cases h
    case h_1 s =>
    simp only [Instr.build, Sem.run_bind, run_zeroB w hz, run_underlying hu, Result.andThen_ok, run_sizeB w hs, h, Sem.run_pure]
  case h_3 => cases h

def qBuild (P : Program) (t : TypeId) (parts : Array (Nat × Value)) (K : Value → HP → Prop) : HP → Prop :=
  match buildCells P t parts.toList with
  | some cs => K (.agg cs)
  | none => no
theorem qBuild_sound {P : Program} {t : TypeId} {parts : Array (Nat × Value)} {K : Value → HP → Prop} {m : HP} (h : qBuild P t parts K m) : ∃ v, Yv P (Instr.build t parts) m v ∧ K v m := by
  unfold qBuild at h
  generalize hb : buildCells P t parts.toList = c at h
  split at h
  case h_2 => exact h.elim
  case h_1 cs => exact ⟨_, fun w _ => buildCells_sound hb w, h⟩

def makeCells (zero : Array Value) (n : Nat) : Array Value := (Array.range n).map fun i => zero[i % zero.size]!

def sliceCells (P : Program) (t : TypeId) (len : Nat) (parts : List (Nat × Value)) : Option (TypeId × Array Value) :=
  match P.underlying t with
  | some (.slice e) =>
    match sizeB P e, zeroB P e with
    | some s, some z => if len * s > 2 ^ 24 then none else (Instr.fill (fun i => some (i * s, s)) (makeCells z.cells (len * s)) parts).map fun c => (e, c)
    | _, _ => none
  | _ => none

def lBuildSlice (P : Program) (t : TypeId) (len : Nat) (parts : Array (Nat × Value)) (K : Value → HP → Prop) : HP → Prop :=
  match sliceCells P t len parts.toList with
  | some (e, cs) => hNew cs e fun b => K (.slice (some ⟨b, 0, none⟩) len len)
  | none => no

theorem makeCells_zero (z : Array Value) : makeCells z 0 = #[] := by simp [makeCells]

theorem lBuildSlice_sound {P : Program} {t : TypeId} {len : Nat} {parts : Array (Nat × Value)} {K : Value → HP → Prop} {m : HP} (h : lBuildSlice P t len parts K m) :
    Wv P (Instr.buildSlice t len parts) K m := by
  unfold lBuildSlice at h
  generalize hc : sliceCells P t len parts.toList = c at h
  split at h
  case h_2 => exact h.elim
  case h_1 e cs =>
  unfold sliceCells at hc
  generalize hu : P.underlying t = u at hc
  split at hc
  case h_2 => cases hc
  case h_1 e' =>
  generalize hs : sizeB P e' = s at hc
  generalize hz : zeroB P e' = z at hc
  split at hc
  case h_2 => cases hc
  case h_1 s z =>
  split at hc
  case isTrue => cases hc
  case isFalse hle =>
  simp only [Option.map_eq_some_iff] at hc
  obtain ⟨cs', hf, he⟩ := hc
  obtain ⟨rfl, rfl⟩ := Prod.mk.inj he
  intro w hw
  obtain ⟨b, w', m', h1, h2, h3⟩ := hNew_sound h (P := P) hw
  refine ⟨_, w', m', ?_, h2, h3⟩
  by_cases h0 : len * s = 0
  · rw [h0, makeCells_zero] at hf
    simp only [Instr.buildSlice, Sem.run_bind, run_underlying hu, Result.andThen_ok, run_sizeB w hs]
    simp only [h0] at hle ⊢
    simp [hf, h1, Array.range_zero']
  · simp only [makeCells] at hf
    simp [Instr.buildSlice, run_underlying hu, run_sizeB w hs, h0, run_zeroB w hz, show ¬ 16777216 < len * s by omega, hf, h1]

def hMake (size bytes : Nat) (zero : Array Value) (e : TypeId) (l c : Int) (K : Nat → HP → Prop) : HP → Prop := fun m =>
  0 ≤ l ∧ l ≤ c ∧ c ≤ 2 ^ 48 ∧ bytes * c ≤ 2 ^ 48 ∧ ∀ b, K b (pt b (.cells (makeCells zero (c.toNat * size)) e (0, 0)) + m)

def lMake (P : Program) (t : TypeId) (l c : Value) (K : Value → HP → Prop) : HP → Prop :=
  match P.underlying t, l, c with
  | some (.slice e), .int _ ln, .int _ cn =>
    match sizeB P e, bytesB P e, zeroB P e with
    | some s, some by_, some z => hMake s by_ z.cells e ln cn fun b => K (.slice (some ⟨b, 0, none⟩) ln.toNat cn.toNat)
    | _, _, _ => no
  | _, _, _ => no

theorem wrap_i64 {x : Int} (h0 : -9223372036854775808 ≤ x) (h1 : x ≤ 9223372036854775807) : IntKind.i64.wrap x = x := by
  simp only [IntKind.wrap, IntKind.bits, IntKind.signed]
  have : (2 : Int) ^ 64 = 18446744073709551616 := by decide
  have : (2 : Int) ^ (64 - 1) = 9223372036854775808 := by decide
  simp only [*, Bool.true_and, decide_eq_true_eq]
  split <;> omega

theorem lMake_sound {P : Program} {t : TypeId} {l c : Value} {K : Value → HP → Prop} {m : HP} (h : lMake P t l c K m) : Wv P (Instr.makeSlice t l c) K m := by
  unfold lMake at h
  generalize hu : P.underlying t = u at h
  split at h
  case h_2 => exact h.elim
  case h_1 e k1 ln k2 cn =>
  generalize hs : sizeB P e = s at h
  generalize hb : bytesB P e = bb at h
  generalize hz : zeroB P e = z at h
  split at h
  case h_2 => exact h.elim
  case h_1 s by_ z =>
  obtain ⟨h0, h1, h2, h3, hk⟩ := h
  intro w hw
  have p48 : (2 : Int) ^ 48 = 281474976710656 := by decide
  rw [p48] at h2 h3
  have wl : IntKind.i64.wrap ln = ln := wrap_i64 (by omega) (by omega)
  have wc : IntKind.i64.wrap cn = cn := wrap_i64 (by omega) (by omega)
  simp only [bytesB, Option.map_eq_some_iff] at hb
  obtain ⟨i, hi, rfl⟩ := hb
  refine ⟨_, { w with heap := w.heap.push (.cells (makeCells z.cells (cn.toNat * s)) e) }, _, ?_, hw.push _, hk w.heap.size⟩
  have hc0 : ¬ cn < 0 := by omega
  have hl0 : ¬ ln < 0 := by omega
  have hlc : ¬ ln > cn := by omega
  have hbig : ¬ ((i.bytes : Int) * cn > 281474976710656) := by omega
  have ht : (typeInfo e).run P w = .ok i w := by simp [typeInfo, hi]
  have hcond : ((decide (cn < 0) || decide (↑i.bytes * cn > 2 ^ 48)) || decide (ln < 0) || decide (ln > cn)) = false := by
    rw [p48]; simp [hc0, hl0, hlc, hbig]
  by_cases h0' : cn.toNat * s = 0
  · have hz0 : (Array.range 0).map (fun i => (#[] : Array Value)[i % (#[] : Array Value).size]!) = makeCells z.cells (cn.toNat * s) := by rw [h0']; simp [makeCells]
    simp only [Instr.makeSlice, Sem.run_bind, run_underlying hu, Result.andThen_ok, asInt, asIntOf, Sem.run_pure, ht, wl, wc, hcond, Bool.false_eq_true, if_false, run_askRoom, run_sizeB w hs]
    rw [← hz0]
    simp [h0', newRow]
  · simp only [Instr.makeSlice, Sem.run_bind, run_underlying hu, Result.andThen_ok, asInt, asIntOf, Sem.run_pure, ht, wl, wc, hcond, Bool.false_eq_true, if_false, run_askRoom, run_sizeB w hs]
    simp [h0', run_zeroB w hz, newRow, makeCells]

/-! ### append -/
theorem run_firstCells {P : Program} {w : World} {m : HP} (hw : Holds w m) {size : Nat} {x : Sl} {xs : List Value} (hl : xs.length = x.n * size) (hr : Row m x.a xs) :
    (Builtin.firstCells size x.n (.slice x.a x.n x.cap)).run P w = .ok xs.toArray w := by
  obtain ⟨a, n, cap⟩ := x
  cases a with
  | none =>
    rcases hr with rfl | ⟨ad, h, _⟩
    · simp [Builtin.firstCells]
    · cases h
  | some ad =>
    have := run_loadCells_list (P := P) w ad xs (fun j v hj => (hr.at j v hj).cell hw)
    simp only at hl
    rw [hl] at this
    simpa [Builtin.firstCells] using this

def lAppend (P : Program) (ts : Array TypeId) (args : List Value) (K : Value → HP → Prop) : HP → Prop :=
  match ts[0]?, ts[1]?, args with
  | some st, some xt, [.slice sa sn sc, .slice xa xn xc] =>
    match P.underlying st, P.underlying xt with
    | some (.slice e), some (.slice _) =>
      match sizeB P e, bytesB P e, zeroB P e with
      | some size, some bytes, some z => hAppend size bytes z.cells e ⟨sa, sn, sc⟩ ⟨xa, xn, xc⟩ fun s => K (.slice s.a s.n s.cap)
      | _, _, _ => no
    | _, _ => no
  | _, _, _ => no

theorem lAppend_sound {P : Program} {ts : Array TypeId} {ty : TypeId} {args : Array Value} {K : Value → HP → Prop} {m : HP} (h : lAppend P ts args.toList K m) :
    Wv P (Builtin.append_ ts ty args) K m := by
  unfold lAppend at h
  generalize h0 : ts[0]? = o0 at h
  generalize h1 : ts[1]? = o1 at h
  generalize ha : args.toList = l at h
  split at h
  case h_2 => exact h.elim
  case h_1 st xt sa sn sc xa xn xc =>
  generalize hu : P.underlying st = u at h
  generalize hx : P.underlying xt = ux at h
  split at h
  case h_2 => exact h.elim
  case h_1 e e' =>
  generalize hs : sizeB P e = s at h
  generalize hb : bytesB P e = bb at h
  generalize hz : zeroB P e = z at h
  split at h
  case h_2 => exact h.elim
  case h_1 size bytes z =>
  intro w hw
  have ha0 : args[0]? = some (.slice sa sn sc) := by rw [← Array.getElem?_toList, ha]; rfl
  have ha1 : args[1]? = some (.slice xa xn xc) := by rw [← Array.getElem?_toList, ha]; rfl
  simp only [bytesB, Option.map_eq_some_iff] at hb
  obtain ⟨i, hi, rfl⟩ := hb
  obtain ⟨xs, hxl, hxr, hxo, hfit, hgrow⟩ := h
  have ht : ∀ w, (typeInfo e).run P w = .ok i w := fun w => by simp [typeInfo, hi]
  have hfx := run_firstCells (P := P) hw (x := ⟨xa, xn, xc⟩) hxl hxr
  simp only at hfx
  by_cases hle : sn + xn ≤ sc
  · have hfit := hfit hle
    cases sa with
    | none =>
      have hK : K (.slice none (sn + xn) sc) m := by
        rcases hfit with ⟨_, hk⟩ | ⟨ad, h, _⟩
        · exact hk
        · simp at h
      refine ⟨_, w, m, ?_, hw, hK⟩
      simp [Builtin.append_, h0, ha0, ha1, h1, run_underlying hu, run_underlying hx, run_sizeB w hs, Builtin.lenOf, hle, hfx]
    | some ad =>
      obtain ⟨w', m', g1, g2, g3⟩ := hBlit_sound hxo (by simpa using hfit) (P := P) hw
      refine ⟨_, w', m', ?_, g2, g3⟩
      simp [Builtin.append_, h0, ha0, ha1, h1, run_underlying hu, run_underlying hx, run_sizeB w hs, Builtin.lenOf, hle, hfx, g1]
  · obtain ⟨ys, hyl, hyr, hb0, hcap, hk⟩ := hgrow (by simp only; omega)
    simp only at hcap hk hyl
    have hw1 : Holds { w with drawn := w.drawn + 1 } m := hw.of_heap rfl
    have hfx1 := run_firstCells (P := P) hw1 (x := ⟨xa, xn, xc⟩) hxl hxr
    have hfy1 := run_firstCells (P := P) hw1 (x := ⟨sa, sn, sc⟩) hyl hyr
    simp only at hfx1 hfy1
    let newCap := (sn + xn) + w.tape w.drawn (.appendCap (sn + xn) sc e) % (2 ^ 63 - (sn + xn))
    refine ⟨_, _, _, ?_, hw1.push (.cells ((ys ++ xs).toArray ++ Builtin.zeroCells z.cells (newCap - (sn + xn))) e), hk newCap _ (by simp only [newCap]; omega)⟩
    have hcap' : ¬ (Builtin.nextslicecap (sn + xn) sc * i.bytes > 2 ^ 48) := by omega
    simp only [Builtin.append_, h0, ha0, ha1, h1, Sem.run_bind, run_underlying hu, run_underlying hx, Result.andThen_ok, run_sizeB w hs, Sem.run_pure, Builtin.lenOf, Bool.false_eq_true, if_false, hle, ht, false_or, hb0, and_false, Bool.not_false, hcap']
    simp only [run_choose, Question.forced, Bool.false_eq_true, if_false, Result.andThen_ok, Question.cut, run_askRoom, hfy1, hfx1, if_true]
    simp only [run_zeroB _ hz, Result.andThen_ok, newRow, Sem.run_bind, run_newObj, Sem.run_pure]
    simp [newCap]

/-! ### Maps of whole-number keys -/
def intKeys (k : IntKind) (es : Array MapEntry) : Prop := ∀ e ∈ es.toList, ∃ n, e.key = .int k n
def isKey (n : Int) : Value → Bool | .int _ x => decide (x = n) | _ => false
def mfind (es : Array MapEntry) (n : Int) : Option Value := (es.toList.find? fun e => isKey n e.key).map (·.val)
def midx (es : Array MapEntry) (n : Int) : Option Nat := es.toList.findIdx? fun e => isKey n e.key
def mput (es : Array MapEntry) (clock : Nat) (k : IntKind) (n : Int) (v : Value) : Array MapEntry × Nat :=
  match midx es n with
  | some i => (es.modify i fun e => { e with key := .int k n, val := v }, clock)
  | none => (es.push { key := .int k n, val := v, born := clock }, clock + 1)
def mdel (es : Array MapEntry) (n : Int) : Array MapEntry :=
  match midx es n with
  | some i => es.eraseIdxIfInBounds i
  | none => es

theorem findNow_int (k : IntKind) (n : Int) : ∀ (es : List MapEntry) (i : Nat), (∀ e ∈ es, ∃ x, e.key = .int k x) →
    Instr.findNow (.int k) (.int k n) es i = some ((es.findIdx? fun e => isKey n e.key).bind fun j => (es.find? fun e => isKey n e.key).map fun e => (i + j, e.val)) := by
  intro es
  induction es with
  | nil => intro i _; rfl
  | cons e es ih =>
    intro i h
    obtain ⟨x, hx⟩ := h e (by simp)
    have hk : isKey n e.key = decide (x = n) := by rw [hx]; rfl
    simp only [Instr.findNow, hx, Instr.sameNow, if_true, List.findIdx?_cons, List.find?_cons]
    rw [← hx, hk]
    by_cases hxn : x = n
    · subst hxn; simp
    · have : ¬ n = x := fun h => hxn h.symm
      have e1 : (n == x) = false := by simp [this]
      simp only [e1, hxn, decide_false, Bool.false_eq_true, if_false]
      rw [ih (i + 1) (fun e he => h e (by simp [he]))]
      cases es.findIdx? fun e => isKey n e.key with
      | none => rfl
      | some j => simp [Nat.add_assoc, Nat.add_comm 1 j]

section
variable {P : Program} (w : World)
theorem run_checkKey_int {key : TypeId} {k : IntKind} (h : P.underlying key = some (.int k)) (e : Bool) (n : Int) : (Instr.checkKey e 10000 key (.int k n)).run P w = .ok () w := by
  show (Instr.checkKey e (9999 + 1) key (.int k n)).run P w = .ok () w
  generalize (9999 : Nat) = d
  simp only [Instr.checkKey, Sem.run_bind, run_underlying h, Result.andThen_ok, Sem.run_pure]
theorem run_findKey_int {key : TypeId} {k : IntKind} (h : P.underlying key = some (.int k)) (n : Int) {es : Array MapEntry} (hi : intKeys k es) :
    (Instr.findKey key (.int k n) es.toList).run P w = .ok ((midx es n).bind fun j => (mfind es n).map fun v => (j, v)) w := by
  simp only [Instr.findKey, Sem.run_bind, run_underlying h, Result.andThen_ok, findNow_int k n es.toList 0 hi, Sem.run_pure, midx, mfind, Nat.zero_add, Option.map_map]
  rfl
end

theorem idx_find (p : MapEntry → Bool) : ∀ l : List MapEntry, (l.findIdx? p).isSome = (l.find? p).isSome := by
  intro l
  induction l with
  | nil => rfl
  | cons e l ih =>
    simp only [List.findIdx?_cons, List.find?_cons]
    cases p e <;> simp [ih]
theorem midx_mfind (es : Array MapEntry) (n : Int) : (midx es n).isSome = (mfind es n).isSome := by
  simp only [midx, mfind, Option.isSome_map]
  exact idx_find _ _

def hGet (k : IntKind) (r : Option Nat) (n : Int) (K : Option Value → HP → Prop) : HP → Prop := fun m =>
  (r = none ∧ K none m) ∨ ∃ b es clock rr, r = some b ∧ m = pt b (.map es clock) + rr ∧ intKeys k es ∧ K (mfind es n) m

def qLookup (P : Program) (t : TypeId) (x i : Value) (ok : Bool) (K : Value → HP → Prop) : HP → Prop :=
  match P.underlying t, x, i with
  | some (.map key elem), .map r, .int k n =>
    match P.underlying key, aggB P elem, P.underlying elem, zeroB P elem, ok with
    | some (.int k'), false, some d, some z, false => if k = k' then hGet k r n fun o m => ∃ u, o.getD z = (tyScalar d).val u ∧ K ((tyScalar d).val u) m else no
    | some (.int k'), false, some d, some z, true => if k = k' then hGet k r n fun o m => ∃ u, o.getD z = (tyScalar d).val u ∧ K (.tuple #[(tyScalar d).val u, .bool o.isSome]) m else no
    | _, _, _, _, _ => no
  | _, _, _ => no

theorem qLookup_sound {P : Program} {t : TypeId} {x i : Value} {ok : Bool} {K : Value → HP → Prop} {m : HP} (h : qLookup P t x i ok K m) : ∃ v, Yv P (Instr.lookup t x i ok) m v ∧ K v m := by
  unfold qLookup at h
  generalize hu : P.underlying t = u at h
  split at h
  case h_2 => exact h.elim
  case h_1 key elem r k n =>
  generalize hk : P.underlying key = uk at h
  generalize hag : aggB P elem = g at h
  generalize hel : P.underlying elem = ue at h
  generalize hz : zeroB P elem = z at h
  have key : ∀ (z : Value) (k' : IntKind) (hk : P.underlying key = some (.int k')) (hz : zeroB P elem = some z), k = k' → ∀ (K' : Option Value → HP → Prop), hGet k r n K' m →
      ∃ o : Option Value, (∀ w, Holds w m → (Instr.lookup t (.map r) (.int k n) ok).run P w = .ok (if ok then .tuple #[o.getD z, .bool o.isSome] else o.getD z) w) ∧ K' o m := by
    intro z k' hk hz hkk K' hg
    subst hkk
    rcases hg with ⟨rfl, hK⟩ | ⟨b, es, clock, rr, rfl, rfl, hi, hK⟩
    · refine ⟨none, fun w _ => ?_, hK⟩
      have hf : (Instr.findKey key (.int k n) ([] : List MapEntry)).run P w = .ok none w := by
        simpa [midx] using run_findKey_int (P := P) w hk n (es := #[]) (by intro e he; simp at he)
      simp [Instr.lookup, run_underlying hu, run_checkKey_int w hk, hf, run_zeroB w hz]
    · refine ⟨mfind es n, fun w hw => ?_, hK⟩
      have hg := hw.get.1
      have hget : (getObj b).run P w = .ok (.map es clock) w := by simp [getObj, Sem.run, hg]
      have hf := run_findKey_int (P := P) w hk n hi
      simp only [Instr.lookup, Sem.run_bind, run_underlying hu, Result.andThen_ok, hget, Sem.run_pure, run_checkKey_int w hk, hf]
      have hmm := midx_mfind es n
      cases h1 : midx es n with
      | none =>
        rw [h1] at hmm
        have h2 : mfind es n = none := by simpa using hmm.symm
        cases ok <;> simp [h2, run_zeroB w hz]
      | some j =>
        rw [h1] at hmm
        obtain ⟨v, h2⟩ := Option.isSome_iff_exists.1 (by simpa using hmm.symm : (mfind es n).isSome = true)
        cases ok <;> simp [h2]
  split at h
  case h_3 => exact h.elim
  case h_1 k' d z =>
    split at h
    case isFalse => exact h.elim
    case isTrue hkk =>
    obtain ⟨o, h1, u, h2, h3⟩ := key z k' hk hz hkk _ h
    exact ⟨_, fun w hw => by have := h1 w hw; simpa [h2] using this, h3⟩
  case h_2 k' d z =>
    split at h
    case isFalse => exact h.elim
    case isTrue hkk =>
    obtain ⟨o, h1, u, h2, h3⟩ := key z k' hk hz hkk _ h
    exact ⟨_, fun w hw => by have := h1 w hw; simpa [h2] using this, h3⟩

def hNewMap (K : Nat → HP → Prop) : HP → Prop := fun m => ∀ b, K b (pt b (.map #[] 0) + m)
def lMakeMap (K : Value → HP → Prop) : HP → Prop := hNewMap fun b => K (.map (some b))
theorem lMakeMap_sound {P : Program} {t : TypeId} {K : Value → HP → Prop} {m : HP} (h : lMakeMap K m) : Wv P (Instr.makeMap t none) K m := by
  intro w hw
  exact ⟨_, _, _, by simp [Instr.makeMap], hw.push _, h w.heap.size⟩

def hPut (k : IntKind) (r : Option Nat) (n : Int) (v : Value) (K : HP → Prop) : HP → Prop := fun m =>
  ∃ b es clock rr, r = some b ∧ m = pt b (.map es clock) + rr ∧ intKeys k es ∧ K (pt b (.map (mput es clock k n v).1 (mput es clock k n v).2) + rr)

def lMapUpdate (P : Program) (t : TypeId) (x i v : Value) (K : HP → Prop) : HP → Prop :=
  match P.underlying t, x, i with
  | some (.map key _), .map r, .int k n =>
    match P.underlying key with
    | some (.int k') => if k = k' then hPut k r n v K else no
    | _ => no
  | _, _, _ => no

theorem mfind_key {k : IntKind} {es : Array MapEntry} (hi : intKeys k es) {n : Int} {i : Nat} (h : midx es n = some i) : ∃ e, es[i]? = some e ∧ e.key = .int k n := by
  simp only [midx, List.findIdx?_eq_some_iff_getElem] at h
  obtain ⟨hlt, hp, _⟩ := h
  obtain ⟨x, hx⟩ := hi es.toList[i] (List.getElem_mem _)
  rw [hx] at hp
  simp only [isKey, decide_eq_true_eq] at hp
  subst hp
  exact ⟨es.toList[i], by simp at hlt; simp [hlt], hx⟩

theorem lMapUpdate_sound {P : Program} {t : TypeId} {x i v : Value} {K : HP → Prop} {m : HP} (h : lMapUpdate P t x i v K m) : Wu P (Instr.mapUpdate t x i v) K m := by
  unfold lMapUpdate at h
  generalize hu : P.underlying t = u at h
  split at h
  case h_2 => exact h.elim
  case h_1 key elem r k n =>
  generalize hk : P.underlying key = uk at h
  split at h
  case h_2 => exact h.elim
  case h_1 k' =>
  split at h
  case isFalse => exact h.elim
  case isTrue hkk =>
  subst hkk
  obtain ⟨b, es, clock, rr, rfl, rfl, hi, hK⟩ := h
  intro w hw
  have hg := hw.get.1
  have hget : (getObj b).run P w = .ok (.map es clock) w := by simp [getObj, Sem.run, hg]
  have hset : ∀ o, (setObj b o).run P w = .ok () { w with heap := w.heap.setIfInBounds b o } := fun o => by simp [setObj, Sem.run, hg]
  have hf := run_findKey_int (P := P) w hk n hi
  have hmm := midx_mfind es n
  cases h1 : midx es n with
  | none =>
    rw [h1] at hmm
    have h2 : mfind es n = none := by simpa using hmm.symm
    refine ⟨_, _, ?_, hw.setObj, hK⟩
    simp [Instr.mapUpdate, run_underlying hu, hget, run_checkKey_int w hk, hf, h1, hset, mput]
  | some j =>
    rw [h1] at hmm
    obtain ⟨v', h2⟩ := Option.isSome_iff_exists.1 (by simpa using hmm.symm : (mfind es n).isSome = true)
    obtain ⟨e, he, hek⟩ := mfind_key hi h1
    have hstay : (Instr.keyThatStays (.int k n) (.int k n)).run P w = .ok (.int k n) w := by
      show (Instr.keyThatStays (.int k n) (.int k n)).run P w = _
      simp [Instr.keyThatStays, Instr.sameBits]
    refine ⟨_, _, ?_, hw.setObj, hK⟩
    simp [Instr.mapUpdate, run_underlying hu, hget, run_checkKey_int w hk, hf, h1, h2, hset, mput, he, hek, hstay]

def hDel (k : IntKind) (r : Option Nat) (n : Int) (K : HP → Prop) : HP → Prop := fun m =>
  ∃ b es clock rr, r = some b ∧ m = pt b (.map es clock) + rr ∧ intKeys k es ∧ K (pt b (.map (mdel es n) clock) + rr)

def lDelete (P : Program) (ts : Array TypeId) (args : List Value) (K : Value → HP → Prop) : HP → Prop :=
  match ts[0]?, args with
  | some t, [.map r, .int k n] =>
    match P.underlying t with
    | some (.map key _) =>
      match P.underlying key with
      | some (.int k') => if k = k' then hDel k r n (K (.tuple #[])) else no
      | _ => no
    | _ => no
  | _, _ => no

theorem lDelete_sound {P : Program} {ts : Array TypeId} {ty : TypeId} {args : Array Value} {K : Value → HP → Prop} {m : HP} (h : lDelete P ts args.toList K m) :
    Wv P (Builtin.delete_ ts ty args) K m := by
  unfold lDelete at h
  generalize h0 : ts[0]? = o0 at h
  generalize ha : args.toList = l at h
  split at h
  case h_2 => exact h.elim
  case h_1 t r k n =>
  generalize hu : P.underlying t = u at h
  split at h
  case h_2 => exact h.elim
  case h_1 key elem =>
  generalize hk : P.underlying key = uk at h
  split at h
  case h_2 => exact h.elim
  case h_1 k' =>
  split at h
  case isFalse => exact h.elim
  case isTrue hkk =>
  subst hkk
  obtain ⟨b, es, clock, rr, rfl, rfl, hi, hK⟩ := h
  intro w hw
  have ha0 : args[0]? = some (.map (some b)) := by rw [← Array.getElem?_toList, ha]; rfl
  have ha1 : args[1]? = some (.int k n) := by rw [← Array.getElem?_toList, ha]; rfl
  have hg := hw.get.1
  have hget : (getObj b).run P w = .ok (.map es clock) w := by simp [getObj, Sem.run, hg]
  have hset : ∀ o, (setObj b o).run P w = .ok () { w with heap := w.heap.setIfInBounds b o } := fun o => by simp [setObj, Sem.run, hg]
  have hf := run_findKey_int (P := P) w hk n hi
  have hmm := midx_mfind es n
  refine ⟨_, _, _, ?_, hw.setObj, hK⟩
  cases h1 : midx es n with
  | none => simp [Builtin.delete_, h0, ha0, ha1, run_underlying hu, hget, run_checkKey_int w hk, hf, h1, hset, mdel]
  | some j =>
    rw [h1] at hmm
    obtain ⟨v', h2⟩ := Option.isSome_iff_exists.1 (by simpa using hmm.symm : (mfind es n).isSome = true)
    simp [Builtin.delete_, h0, ha0, ha1, run_underlying hu, hget, run_checkKey_int w hk, hf, h1, h2, hset, mdel]

end Go.Hp
