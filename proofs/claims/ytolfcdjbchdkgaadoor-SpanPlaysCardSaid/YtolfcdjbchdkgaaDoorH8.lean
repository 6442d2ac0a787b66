/- A region that draws its order: one predicate serves every order. Own work; nothing of any program. -/
import Derived.Test.YtolfcdjbchdkgaaDoorH7
namespace Go.Hp
open Go

/-! ### Which operation waits for which -/
def ancRow (tab : List Nat) (o : Oper) : Nat := o.after.toList.foldl (fun s e => if Region.binds .any e then s ||| 2 ^ e.on ||| tab.getD e.on 0 else s) 0
def ancTab (ops : Array Oper) : Nat → List Nat
  | 0 => []
  | j + 1 => ancTab ops j ++ [match ops[j]? with | some o => ancRow (ancTab ops j) o | none => 0]
/-- i is ahead of j. -/
def isAnc (tab : List Nat) (i j : Nat) : Bool := (tab.getD j 0).testBit i

theorem ancTab_length (ops : Array Oper) : ∀ n, (ancTab ops n).length = n := by
  intro n; induction n with
  | zero => rfl
  | succ n ih => simp [ancTab, ih]

theorem ancTab_get (ops : Array Oper) : ∀ n j, j < n → (ancTab ops n).getD j 0 = match ops[j]? with | some o => ancRow (ancTab ops j) o | none => 0 := by
  intro n
  induction n with
  | zero => intro j h; omega
  | succ n ih =>
    intro j h
    have hl := ancTab_length ops n
    by_cases e : j = n
    · subst e
      simp only [ancTab, List.getD_eq_getElem?_getD]
      rw [List.getElem?_append_right (by omega)]
      simp [hl]
    · simp only [ancTab, List.getD_eq_getElem?_getD]
      rw [List.getElem?_append_left (by omega), ← List.getD_eq_getElem?_getD]
      exact ih j (by omega)

theorem ancTab_out (ops : Array Oper) (n j : Nat) (h : n ≤ j) : (ancTab ops n).getD j 0 = 0 := by
  rw [List.getD_eq_getElem?_getD, List.getElem?_eq_none (by rw [ancTab_length]; exact h)]
  rfl

theorem fold_bits (tab : List Nat) (i : Nat) : ∀ (l : List Edge) (s : Nat), ((l.foldl (fun s e => if Region.binds .any e then s ||| 2 ^ e.on ||| tab.getD e.on 0 else s) s).testBit i = true ↔
    s.testBit i = true ∨ ∃ e ∈ l, Region.binds .any e = true ∧ (e.on = i ∨ (tab.getD e.on 0).testBit i = true)) := by
  intro l
  induction l with
  | nil => intro s; simp
  | cons e l ih =>
    intro s
    simp only [List.foldl_cons]
    rw [ih]
    by_cases hb : Region.binds .any e = true
    · simp only [hb, if_true, Nat.testBit_or, Bool.or_eq_true, List.mem_cons, Nat.testBit_two_pow, decide_eq_true_eq]
      constructor
      · rintro (((h | h) | h) | ⟨x, hx, h⟩)
        · exact .inl h
        · exact .inr ⟨e, .inl rfl, hb, .inl h⟩
        · exact .inr ⟨e, .inl rfl, hb, .inr h⟩
        · exact .inr ⟨x, .inr hx, h⟩
      · rintro (h | ⟨x, rfl | hx, h1, h2⟩)
        · exact .inl (.inl (.inl h))
        · rcases h2 with h2 | h2
          · exact .inl (.inl (.inr h2))
          · exact .inl (.inr h2)
        · exact .inr ⟨x, hx, h1, h2⟩
    · simp only [hb, if_false, Bool.false_eq_true, List.mem_cons]
      constructor
      · rintro (h | ⟨x, hx, h⟩)
        · exact .inl h
        · exact .inr ⟨x, .inr hx, h⟩
      · rintro (h | ⟨x, rfl | hx, h1, h2⟩)
        · exact .inl h
        · exact absurd h1 hb
        · exact .inr ⟨x, hx, h1, h2⟩

/-- What is ahead of an operation whose own edges are all listed is listed. -/
theorem anc_listed {ops : Array Oper} {n : Nat} {L : Nat → Prop} (hcl : ∀ j oj, ops[j]? = some oj → L j → ∀ e ∈ oj.after, Region.binds .any e = true → L e.on) :
    ∀ (j : Nat) (oj : Oper), ops[j]? = some oj → j < n → (∀ e ∈ oj.after, Region.binds .any e = true → L e.on) → ∀ i, isAnc (ancTab ops n) i j = true → L i := by
  intro j
  induction j using Nat.strongRecOn with
  | _ j ih =>
    intro oj hoj hjn hed i hi
    unfold isAnc at hi
    rw [ancTab_get ops n j hjn, hoj] at hi
    simp only [ancRow] at hi
    rw [fold_bits] at hi
    rcases hi with hi | ⟨e, he, hb, hi⟩
    · simp at hi
    · have hL := hed e (by simpa using he) hb
      rcases hi with rfl | hi
      · exact hL
      · by_cases hlt : e.on < j
        · cases ho : ops[e.on]? with
          | none =>
            rw [ancTab_get ops j e.on hlt, ho] at hi
            simp at hi
          | some oe =>
            refine ih e.on hlt oe ho (by omega) (fun e' he' hb' => hcl _ _ ho hL e' he' hb') i ?_
            unfold isAnc
            rw [ancTab_get ops n e.on (by omega), ← ancTab_get ops j e.on hlt]
            exact hi
        · rw [ancTab_out ops j e.on (by omega)] at hi
          simp at hi

/-! ### The stages -/
def tmpsOf (l : List Operand) : List Nat := l.filterMap fun | .tmp t => some t | _ => none
/-- The temporaries that an operation looks at. -/
def readsOf (ops : Array Oper) (o : Oper) : List Nat :=
  tmpsOf o.op.operands.toList ++ (match o.guard with | some (g, _) => (dstAt ops g).toList | none => [])
def quietAt (ops : Array Oper) (j : Nat) : Bool := match ops[j]? with | some o => isQuiet o.op | none => true
def heapyAt (P : Program) (ops : Array Oper) (j : Nat) : Bool := match ops[j]? with | some o => isHeapy P o.op | none => false
def loudsOf (ops : Array Oper) : List Nat := (List.range ops.size).filter fun i => !quietAt ops i
def quietsOf (ops : Array Oper) : List Nat := (List.range ops.size).filter fun i => quietAt ops i

def readsOk (ops : Array Oper) (Kn : List Nat) (j : Nat) : Bool :=
  match ops[j]? with
  | some o => (readsOf ops o).all fun t => match lastW ops j t with | some k => Kn.contains k | none => true
  | none => false

def decided (V : Nat → EV) (o : Oper) : Option Bool :=
  match o.guard with
  | none => some true
  | some (g, want) => match (V g).lit with
    | some b => some (b == want)
    | none => match (V g).v with
      | .tuple ⟨[]⟩ => some false
      | _ => none

/-- Values that were had are had again. -/
def denRe (P : Program) (ops : Array Oper) (σ : Nat → EV) (X : List PanicEntry → HP → Prop) : List Nat → (Nat → EV) → (HP → Prop) → HP → Prop
  | [], _, k => k
  | j :: js, V, k =>
    match ops[j]? with
    | none => no
    | some o =>
      match decided V o with
      | none => no
      | some true => denOne P o.type o.op (envAt ops V σ j) (fun ev m => ev.v = (V j).v ∧ denRe P ops σ X js V k m) X
      | some false => denRe P ops σ X js V k

/-- Operations in this order; 'Kn': those whose values are known. -/
def denRv (P : Program) (ops : Array Oper) (σ : Nat → EV) (X : List PanicEntry → HP → Prop) : List Nat → List Nat → (Nat → EV) → ((Nat → EV) → HP → Prop) → HP → Prop
  | [], _, V, K => K V
  | j :: js, Kn, V, K =>
    match ops[j]? with
    | none => no
    | some o =>
      match readsOk ops Kn j && !Kn.contains j with
      | false => no
      | true => guarded ops V o j (fun V' => denOne P o.type o.op (envAt ops V' σ j) (fun ev => denRv P ops σ X js (j :: Kn) (upd V' j ev) K) X)
          (fun V' => denRv P ops σ X js (j :: Kn) (upd V' j ⟨undef, none⟩) K)

def rechecks (P : Program) (ops : Array Oper) (tab : List Nat) (E R : List Nat) : List Nat := R.filter fun j => quietAt ops j && heapyAt P ops j && !(E.any fun l => isAnc tab j l)
def reveals (ops : Array Oper) (tab : List Nat) (E R : List Nat) : List Nat :=
  (quietsOf ops).filter fun j => !R.contains j && (loudsOf ops).all fun l => !isAnc tab l j || E.contains l
def nexts (ops : Array Oper) (tab : List Nat) (E : List Nat) : List Nat :=
  (loudsOf ops).filter fun l => !E.contains l && (loudsOf ops).all fun l' => !isAnc tab l' l || E.contains l'

def allOf (f : Nat → HP → Prop) : List Nat → HP → Prop
  | [] => fun _ => True
  | [l] => f l
  | l :: ls => fun m => f l m ∧ allOf f ls m
theorem allOf_mem {f : Nat → HP → Prop} {m : HP} : ∀ {ls : List Nat}, allOf f ls m → ∀ l ∈ ls, f l m := by
  intro ls
  induction ls with
  | nil => intro _ l hl; cases hl
  | cons a ls ih =>
    intro h l hl
    cases ls with
    | nil => simp only [List.mem_singleton] at hl; subst hl; exact h
    | cons b ls =>
      rcases List.mem_cons.1 hl with rfl | hl
      · exact h.1
      · exact ih h.2 l hl

/-- The stages: E: the loud operations that are over; R: the quiet ones whose values are known. -/
def denDraw (P : Program) (ops : Array Oper) (tab : List Nat) (σ : Nat → EV) (X : List PanicEntry → HP → Prop) (K : (Nat → EV) → HP → Prop) : Nat → List Nat → List Nat → (Nat → EV) → HP → Prop
  | 0, _, _, _ => no
  | n + 1, E, R, V =>
    denRe P ops σ X (rechecks P ops tab E R) V
      (denRv P ops σ X (reveals ops tab E R) (R ++ E) V fun V' =>
        match nexts ops tab E with
        | [] => K V'
        | ls => allOf (fun l => denRv P ops σ X [l] ((R ++ reveals ops tab E R) ++ E) V' fun V'' => denDraw P ops tab σ X K n (l :: E) (R ++ reveals ops tab E R) V'') ls)

/-- What is asked of a region that draws, by looking alone. -/
def drawOk (ops : Array Oper) : Bool :=
  let n := ops.size
  let tab := ancTab ops n
  ops.toList.zipIdx.all fun (o, j) =>
    (o.after.toList.all fun e => !Region.binds .any e || decide (e.on < j)) &&
    (List.range j).all fun i =>
      match ops[i]? with
      | none => true
      | some oi =>
        isAnc tab i j ||
        !((match oi.dst with | some d => (readsOf ops o).contains d || o.dst == some d | none => false) ||
          (match o.dst with | some d => (readsOf ops oi).contains d | none => false))

/-! ### Sound -/
theorem drawOk_edges {ops : Array Oper} (h : drawOk ops = true) {j : Nat} {o : Oper} (ho : ops[j]? = some o) : ∀ e ∈ o.after, Region.binds .any e = true → e.on < j := by
  intro e he hb
  unfold drawOk at h
  have hm : (o, j) ∈ ops.toList.zipIdx := by
    rw [List.mem_zipIdx_iff_getElem?]; simpa using ho
  have := List.all_eq_true.1 h _ hm
  simp only [Bool.and_eq_true] at this
  have := List.all_eq_true.1 this.1 e (by simpa using he)
  simpa [hb] using this

theorem drawOk_pair {ops : Array Oper} (h : drawOk ops = true) {i j : Nat} {oi oj : Oper} (hi : ops[i]? = some oi) (hj : ops[j]? = some oj) (hij : i < j)
    (hc : (∃ d, oi.dst = some d ∧ (d ∈ readsOf ops oj ∨ oj.dst = some d)) ∨ (∃ d, oj.dst = some d ∧ d ∈ readsOf ops oi)) : isAnc (ancTab ops ops.size) i j = true := by
  unfold drawOk at h
  have hm : (oj, j) ∈ ops.toList.zipIdx := by
    rw [List.mem_zipIdx_iff_getElem?]; simpa using hj
  have := List.all_eq_true.1 h _ hm
  simp only [Bool.and_eq_true] at this
  have := List.all_eq_true.1 this.2 i (List.mem_range.2 hij)
  rw [hi] at this
  simp only [Bool.or_eq_true] at this
  rcases this with this | this
  · exact this
  · exfalso
    simp only [Bool.not_eq_true', Bool.or_eq_false_iff] at this
    obtain ⟨h1, h2⟩ := this
    rcases hc with ⟨d, hd, hx⟩ | ⟨d, hd, hx⟩
    · rw [hd] at h1
      simp only [Bool.or_eq_false_iff] at h1
      rcases hx with hx | hx
      · have := h1.1; simp [hx] at this
      · have := h1.2; simp [hx] at this
    · rw [hd] at h2
      simp [hx] at h2

/-- The value that an operation yields, whenever it is carried out now. -/
def ValidAt (P : Program) (ops : Array Oper) (σ V : Nat → EV) (C : World → Prop) (j : Nat) : Prop :=
  ∃ o b, ops[j]? = some o ∧ Wanted ops V o j b ∧ (b = true → (∀ c, o.op ≠ .defer c) ∧ (∀ cs b, o.op ≠ .select cs b) ∧ ∀ w, C w → (execOp (fun x => (evE (envAt ops V σ j) x).v) o).run P w = .ok (.value (V j).v) w) ∧
    (b = false → (V j).v = undef)

theorem decided_wanted {ops : Array Oper} {V : Nat → EV} (hV : ∀ i, (V i).ok) {o : Oper} {j : Nat} {b b' : Bool} (h : decided V o = some b) (hw : Wanted ops V o j b') : b' = b := by
  unfold decided at h
  unfold Wanted at hw
  cases hg : o.guard with
  | none => rw [hg] at h hw; simp at h; rw [hw, h]
  | some gw =>
    obtain ⟨g, want⟩ := gw
    rw [hg] at h hw
    simp only at h
    obtain ⟨d, _, _, ⟨c', hv, rfl⟩ | ⟨hv, rfl⟩⟩ := hw
    · cases hl : (V g).lit with
      | some c => rw [hl] at h; simp only [Option.some.injEq] at h; subst h; have := hV g c hl; rw [hv] at this; simp at this; rw [this]
      | none => rw [hl, hv] at h; simp at h
    · cases hl : (V g).lit with
      | some c => have := hV g c hl; rw [hv] at this; cases this
      | none => rw [hl, hv] at h; simpa [undef] using h

/-- The operands and the guard alone count. -/
theorem env_reads {ops : Array Oper} {V V' σ : Nat → EV} {o : Oper} {j : Nat} (h : ∀ t ∈ readsOf ops o, (envAt ops V' σ j t).v = (envAt ops V σ j t).v) (hs : ∀ cs b, o.op ≠ .select cs b) :
    execOp (fun x => (evE (envAt ops V' σ j) x).v) o = execOp (fun x => (evE (envAt ops V σ j) x).v) o := by
  refine execOp_congr o hs fun x hx => ?_
  cases x with
  | tmp t =>
    refine h t ?_
    unfold readsOf tmpsOf
    refine List.mem_append.2 (.inl (List.mem_filterMap.2 ⟨.tmp t, by simpa using hx, rfl⟩))
  | _ => rfl

theorem wanted_mono {ops : Array Oper} {V V' : Nat → EV} {o : Oper} {j : Nat} {b : Bool} (h : Wanted ops V o j b) (hv : ∀ g want d, o.guard = some (g, want) → dstAt ops g = some d → lastW ops j d = some g → (V' g).v = (V g).v) :
    Wanted ops V' o j b := by
  unfold Wanted at *
  cases hg : o.guard with
  | none => rw [hg] at h; exact h
  | some gw =>
    obtain ⟨g, want⟩ := gw
    rw [hg] at h
    obtain ⟨d, h1, h2, h3⟩ := h
    exact ⟨d, h1, h2, by rw [hv g want d hg h1 h2]; exact h3⟩

theorem guard_reads {ops : Array Oper} {o : Oper} {g d : Nat} {want : Bool} (hg : o.guard = some (g, want)) (hd : dstAt ops g = some d) : d ∈ readsOf ops o := by
  unfold readsOf; rw [hg]; simp [hd]

/-- A value that is known stays, when another operation's becomes known. -/
theorem ValidAt.change {P : Program} {ops : Array Oper} {σ V V' : Nat → EV} {C C' : World → Prop} {j : Nat} {Kn : List Nat} (h : ValidAt P ops σ V C j) (hj : readsOk ops Kn j = true) (hjk : (V' j).v = (V j).v)
    (hV : ∀ k, Kn.contains k = true → (V' k).v = (V k).v) (hC : ∀ w, C' w → C w) : ValidAt P ops σ V' C' j := by
  obtain ⟨o, b, ho, hw, h1, h2⟩ := h
  unfold readsOk at hj
  rw [ho] at hj
  have hrd : ∀ t ∈ readsOf ops o, ∀ k, lastW ops j t = some k → (V' k).v = (V k).v := by
    intro t ht k hk
    have := List.all_eq_true.1 hj t ht
    rw [hk] at this
    exact hV k this
  have henv : ∀ t ∈ readsOf ops o, (envAt ops V' σ j t).v = (envAt ops V σ j t).v := by
    intro t ht
    simp only [envAt]
    split
    · rename_i k hk; exact hrd t ht k hk
    · rfl
  refine ⟨o, b, ho, wanted_mono hw fun g want d hg hd hl => hrd d (guard_reads hg hd) g hl, fun hb => ?_, fun hb => by rw [hjk]; exact h2 hb⟩
  obtain ⟨g1, g2, g3⟩ := h1 hb
  refine ⟨g1, g2, fun w hw' => ?_⟩
  rw [env_reads henv g2, hjk]
  exact g3 w (hC w hw')

/-- A value is known, in the way that its kind allows. -/
def Known (P : Program) (ops : Array Oper) (σ V : Nat → EV) (m : HP) (j : Nat) : Prop :=
  ValidAt P ops σ V (fun w => Holds w m) j ∧ (heapyAt P ops j = false → ValidAt P ops σ V (fun _ => True) j)

theorem denRe_sound {P : Program} {ops : Array Oper} {σ : Nat → EV} {X : List PanicEntry → HP → Prop} (hσ : ∀ t, (σ t).ok) {V : Nat → EV} (hV : ∀ i, (V i).ok) {k : HP → Prop} {m : HP} :
    ∀ {js : List Nat}, (∀ j ∈ js, quietAt ops j = true) → (∀ j ∈ js, ∃ m0, ValidAt P ops σ V (fun w => Holds w m0) j) → denRe P ops σ X js V k m → (∀ j ∈ js, ValidAt P ops σ V (fun w => Holds w m) j) ∧ k m := by
  intro js
  induction js with
  | nil => intro _ _ h; exact ⟨fun j hj => (by cases hj), h⟩
  | cons j js ih =>
    intro hq hold h
    simp only [denRe] at h
    obtain ⟨m0, o, b, ho, hw, h1, h2⟩ := hold j (by simp)
    rw [ho] at h
    simp only at h
    generalize hd : decided V o = dd at h
    have hq' := fun i hi => hq i (List.mem_cons_of_mem _ hi)
    have hold' := fun i hi => hold i (List.mem_cons_of_mem _ hi)
    split at h
    · exact h.elim
    · have hbt := decided_wanted hV hd hw
      subst hbt
      have hqo : isQuiet o.op = true := by have := hq j (by simp); unfold quietAt at this; rw [ho] at this; exact this
      obtain ⟨ev, g1, g2, g3, g4⟩ := denOne_quiet (o := o) hqo (envAt_ok hV hσ j) h
      obtain ⟨r1, r2⟩ := ih hq' hold' g4
      refine ⟨fun i hi => ?_, r2⟩
      rcases List.mem_cons.1 hi with rfl | hi
      · exact ⟨o, true, ho, hw, fun _ => ⟨(h1 rfl).1, (h1 rfl).2.1, fun w hw' => by rw [g2 w hw', g3]⟩, by simp⟩
      · exact r1 i hi
    · have hbt := decided_wanted hV hd hw
      subst hbt
      obtain ⟨r1, r2⟩ := ih hq' hold' h
      refine ⟨fun i hi => ?_, r2⟩
      rcases List.mem_cons.1 hi with rfl | hi
      · exact ⟨o, false, ho, hw, by simp, h2⟩
      · exact r1 i hi

theorem readsOk_more {ops : Array Oper} {Kn Kn' : List Nat} {j : Nat} (h : readsOk ops Kn j = true) (hs : ∀ k, Kn.contains k = true → Kn'.contains k = true) : readsOk ops Kn' j = true := by
  unfold readsOk at *
  split at h
  · refine List.all_eq_true.2 fun t ht => ?_
    have := List.all_eq_true.1 h t ht
    split at this
    · exact hs _ this
    · rfl
  · cases h

structure KnownAll (P : Program) (ops : Array Oper) (σ V : Nat → EV) (m : HP) (Kn : List Nat) (S : Nat → Prop) : Prop where
  ok : ∀ i, (V i).ok
  reads : ∀ j, Kn.contains j = true → readsOk ops Kn j = true
  known : ∀ j, S j → Kn.contains j = true ∧ quietAt ops j = true ∧ Known P ops σ V m j

theorem KnownAll.values {P : Program} {ops : Array Oper} {σ V V' : Nat → EV} {m : HP} {Kn : List Nat} {S : Nat → Prop} (h : KnownAll P ops σ V m Kn S) (hv : ∀ i, (V' i).v = (V i).v) (hok : ∀ i, (V' i).ok) :
    KnownAll P ops σ V' m Kn S :=
  ⟨hok, h.reads, fun j hj => by
    obtain ⟨a, b, c, d⟩ := h.known j hj
    exact ⟨a, b, c.change (h.reads j a) (hv j) (fun k _ => hv k) (fun _ hw => hw), fun hh => (d hh).change (h.reads j a) (hv j) (fun k _ => hv k) (fun _ hw => hw)⟩⟩

theorem KnownAll.add {P : Program} {ops : Array Oper} {σ V : Nat → EV} {m : HP} {Kn : List Nat} {S : Nat → Prop} (h : KnownAll P ops σ V m Kn S) {j : Nat} {ev : EV} (hj : Kn.contains j = false) (hr : readsOk ops Kn j = true) (he : ev.ok) :
    KnownAll P ops σ (upd V j ev) m (j :: Kn) S := by
  have hne : ∀ k, Kn.contains k = true → (upd V j ev k).v = (V k).v := fun k hk => by
    have : k ≠ j := fun e => by subst e; rw [hj] at hk; cases hk
    simp [upd, this]
  have hmore : ∀ k, Kn.contains k = true → (j :: Kn).contains k = true := fun k hk => by
    rw [List.contains_cons, hk]; simp
  refine ⟨upd_ok h.ok he, fun i hi => ?_, fun i hi => ?_⟩
  · rw [List.contains_cons, Bool.or_eq_true] at hi
    rcases hi with hi | hi
    · have : i = j := by simpa using hi
      subst this; exact readsOk_more hr hmore
    · exact readsOk_more (h.reads i hi) hmore
  · obtain ⟨a, b, c, d⟩ := h.known i hi
    exact ⟨hmore i a, b, c.change (h.reads i a) (hne i a) hne (fun _ hw => hw), fun hh => (d hh).change (h.reads i a) (hne i a) hne (fun _ hw => hw)⟩

theorem denRv_sound {P : Program} {ops : Array Oper} {σ : Nat → EV} {X : List PanicEntry → HP → Prop} (hσ : ∀ t, (σ t).ok) {K : (Nat → EV) → HP → Prop} {m : HP} :
    ∀ {js Kn : List Nat} {V : Nat → EV} {S : Nat → Prop}, (∀ j ∈ js, quietAt ops j = true) → KnownAll P ops σ V m Kn S → denRv P ops σ X js Kn V K m →
      ∃ V', KnownAll P ops σ V' m (js.reverse ++ Kn) (fun i => S i ∨ i ∈ js) ∧ (∀ k, Kn.contains k = true → (V' k).v = (V k).v) ∧ K V' m := by
  intro js
  induction js with
  | nil => intro Kn V S _ hK h; exact ⟨V, by simpa using hK, fun _ _ => rfl, h⟩
  | cons j js ih =>
    intro Kn V S hq hK h
    simp only [denRv] at h
    cases ho : ops[j]? with
    | none => rw [ho] at h; exact h.elim
    | some o =>
      rw [ho] at h
      simp only at h
      generalize hr : (readsOk ops Kn j && !Kn.contains j) = rr at h
      split at h
      · exact h.elim
      · simp only [Bool.and_eq_true, Bool.not_eq_true'] at hr
        obtain ⟨hr1, hr2⟩ := hr
        obtain ⟨V1, hv1, ho1, hw⟩ := guarded_sound hK.ok h
        have hK1 := hK.values hv1 ho1
        have hqj := hq j (by simp)
        have hqo : isQuiet o.op = true := by unfold quietAt at hqj; rw [ho] at hqj; exact hqj
        have fin : ∀ (ev : EV), ev.ok → (ValidAt P ops σ (upd V1 j ev) (fun w => Holds w m) j ∧ (heapyAt P ops j = false → ValidAt P ops σ (upd V1 j ev) (fun _ => True) j)) →
            denRv P ops σ X js (j :: Kn) (upd V1 j ev) K m →
            ∃ V', KnownAll P ops σ V' m ((j :: js).reverse ++ Kn) (fun i => S i ∨ i ∈ j :: js) ∧ (∀ k, Kn.contains k = true → (V' k).v = (V k).v) ∧ K V' m := by
          intro ev he hkn hd
          have hK2 := hK1.add hr2 hr1 he
          have hK3 : KnownAll P ops σ (upd V1 j ev) m (j :: Kn) (fun i => S i ∨ i = j) := ⟨hK2.ok, hK2.reads, fun i hi => by
            rcases hi with hi | rfl
            · exact hK2.known i hi
            · exact ⟨by rw [List.contains_cons]; simp, hqj, hkn⟩⟩
          obtain ⟨V', r1, r2, r3⟩ := ih (fun i hi => hq i (List.mem_cons_of_mem _ hi)) hK3 hd
          refine ⟨V', ?_, fun k hk => ?_, r3⟩
          · have e : (j :: js).reverse ++ Kn = js.reverse ++ (j :: Kn) := by simp
            rw [e]
            exact ⟨r1.ok, r1.reads, fun i hi => r1.known i (by
              rcases hi with hi | hi
              · exact .inl (.inl hi)
              · rcases List.mem_cons.1 hi with rfl | hi
                · exact .inl (.inr rfl)
                · exact .inr hi)⟩
          · rw [r2 k (by rw [List.contains_cons, hk]; simp)]
            have : k ≠ j := fun e => by subst e; rw [hr2] at hk; cases hk
            simp only [upd, if_neg this]
            exact hv1 k
        have henvj : ∀ (ev : EV), envAt ops (upd V1 j ev) σ j = envAt ops V1 σ j := fun ev => funext fun t => envAt_upd (Nat.le_refl _) t
        have hwj : ∀ (ev : EV) b, Wanted ops V1 o j b → Wanted ops (upd V1 j ev) o j b := fun ev b hb => wanted_mono hb fun g want d _ _ hl => by
          have := (lastW_lt hl).1
          simp [upd, show g ≠ j by omega]
        rcases hw with ⟨hw, hr⟩ | ⟨hw, hr⟩
        · obtain ⟨hnd, hns⟩ := denOne_not hr
          by_cases hh : isHeapy P o.op = false
          · obtain ⟨ev, g1, g2, g3⟩ := denOne_pure (o := o) hqo hh (envAt_ok ho1 hσ j) hr
            refine fin ev g1 ⟨⟨o, true, ho, hwj ev _ hw, fun _ => ⟨hnd, hns, fun w _ => ?_⟩, (fun h => by cases h)⟩, fun _ => ⟨o, true, ho, hwj ev _ hw, fun _ => ⟨hnd, hns, fun w _ => ?_⟩, (fun h => by cases h)⟩⟩ g3
            · rw [henvj, g2 w]; simp [upd]
            · rw [henvj, g2 w]; simp [upd]
          · obtain ⟨ev, g1, g2, g3⟩ := denOne_quiet (o := o) hqo (envAt_ok ho1 hσ j) hr
            refine fin ev g1 ⟨⟨o, true, ho, hwj ev _ hw, fun _ => ⟨hnd, hns, fun w hw' => ?_⟩, (fun h => by cases h)⟩, fun hf => ?_⟩ g3
            · rw [henvj, g2 w hw']; simp [upd]
            · unfold heapyAt at hf; rw [ho] at hf; exact absurd hf hh
        · exact fin ⟨undef, none⟩ (EV.ok_none _) ⟨⟨o, false, ho, hwj _ _ hw, (fun h => by cases h), fun _ => by simp [upd]⟩, fun _ => ⟨o, false, ho, hwj _ _ hw, (fun h => by cases h), fun _ => by simp [upd]⟩⟩ hr

end Go.Hp
