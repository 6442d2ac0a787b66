/- A round of a range over a function: the contract of yield, out of the predicate of the loop's body. Own work; nothing of any program. -/
import Derived.Test.YtolfcdjbchdkgaaDoorH11
import Derived.RangeFuncRecord
namespace Go.Hp
open Go

/-- The ranges of a code, in the order of the text. -/
def ranges : Code → List Code
  | .seq a b => ranges a ++ ranges b
  | .cond _ a b => ranges a ++ ranges b
  | .block _ b | .loop b | .scope b => ranges b
  | .rangeFunc g ps a b => [.rangeFunc g ps a b]
  | _ => []
def rangeAt (k : Nat) (c : Code) : Code := (ranges c).getD k .skip

def pset : List (Nat × Value) → (Nat → EV) → (Nat → EV)
  | [], σ => σ
  | (t, v) :: l, σ => pset l (upd σ t ⟨v, none⟩)
def valEnv : List (Nat × Value) → (Nat → EV) → (Nat → EV)
  | [], s => s
  | (t, v) :: l, s => fun i => match i == t with | true => ⟨v, none⟩ | false => valEnv l s i

/-- The loop's record turns. -/
def hRec (l : Nat) (rc rc' : Loop) (K : HP → Prop) : HP → Prop := fun m => ∃ m1, m = pt l (.loop rc) + m1 ∧ K (pt l (.loop rc') + m1)
def rcBusy (rc : Loop) : Loop := { rc with state := .busy }
def rcNext (rc : Loop) : Loop := { rc with state := .ready, pending := none }
def rcDone (rc : Loop) (c : Code) : Loop := { rc with state := .done, pending := some c }

def roundQ (l : Nat) (rc : Loop) (R : Ending → HP → Prop) : Exit → (Nat → EV) → List Nat → HP → Prop
  | .normal, _, _ => hRec l (rcBusy rc) (rcNext rc) (R (.returned (.bool true)))
  | .ret, _, _ => hRec l (rcBusy rc) (rcDone rc .ret) (R (.returned (.bool false)))
  | .exit id, _, _ => hRec l (rcBusy rc) (rcDone rc (.exit id)) (R (.returned (.bool false)))
  | _, _, _ => no

def denRound (P : Program) (ann : Ann) (N : Nat) (vals : List (Nat × Value)) (c : Code) (l : Nat) (rc : Loop) (args : List Value) (R : Ending → HP → Prop) : HP → Prop :=
  match c with
  | .rangeFunc _ ps assign body => hAll fun s =>
    den P ann N false assign (pset (ps.toList.zip args) (valEnv vals s)) []
      (fun e σ mk => match e with | .normal => hRec l rc (rcBusy rc) (den P ann N false body σ mk (roundQ l rc R) fun _ => no) | _ => no) fun _ => no
  | _ => no

def roundOk (N : Nat) (n : Nat) : Code → Bool
  | .rangeFunc _ ps assign body => codeOk N assign && codeOk N body && noRange assign && noRange body && ps.size == n && ps.toList.all fun t => decide (t < N)
  | _ => false

theorem pset_spec {N : Nat} : ∀ (l : List (Nat × Value)) {tm : Array Value} {σ : Nat → EV}, tm.size = N → (l.all fun p => decide (p.1 < N)) = true → (∀ t, tm.getD t undef = (σ t).v) → (∀ t, (σ t).ok) →
    (l.foldl (fun tm (p : Nat × Value) => tm.setIfInBounds p.1 p.2) tm).size = N ∧ (∀ t, (l.foldl (fun tm (p : Nat × Value) => tm.setIfInBounds p.1 p.2) tm).getD t undef = (pset l σ t).v) ∧ ∀ t, (pset l σ t).ok := by
  intro l
  induction l with
  | nil => intro tm σ h1 _ h2 h3; exact ⟨h1, h2, h3⟩
  | cons p l ih =>
    obtain ⟨t, v⟩ := p
    intro tm σ h1 hl h2 h3
    simp only [List.all_cons, Bool.and_eq_true, decide_eq_true_eq] at hl
    simp only [List.foldl_cons, pset]
    refine ih (by simp [h1]) hl.2 (fun i => ?_) (fun i => ?_)
    · simp only [upd, Array.getD_eq_getD_getElem?, Array.getElem?_setIfInBounds]
      by_cases hi : t = i
      · subst hi; simp [h1, hl.1]
      · have := h2 i
        rw [Array.getD_eq_getD_getElem?] at this
        simp [hi, Ne.symm hi, this]
    · simp only [upd]; split
      · exact EV.ok_none _
      · exact h3 i

theorem valEnv_spec {tm : Array Value} : ∀ {vals : List (Nat × Value)}, (∀ p ∈ vals, tm.getD p.1 undef = p.2) → ∀ t, tm.getD t undef = (valEnv vals (fun i => ⟨tm.getD i undef, none⟩) t).v ∧ (valEnv vals (fun i => ⟨tm.getD i undef, none⟩) t).ok := by
  intro vals
  induction vals with
  | nil => intro _ t; exact ⟨rfl, EV.ok_none _⟩
  | cons p l ih =>
    obtain ⟨i, v⟩ := p
    intro h t
    simp only [valEnv]
    split
    · rename_i he
      have : t = i := by simpa using he
      subst this
      exact ⟨h (t, v) (by simp), EV.ok_none _⟩
    · exact ih (fun p hp => h p (by simp [hp])) t

/-- **The contract of yield.** -/
theorem yield_of_den {P : Program} (hm : P.follows .mixedOrders = true) {ann : Ann} {N : Nat} {vals : List (Nat × Value)} {c : Code} {l : Nat} {rc rc0 : Loop} {args : List Value} {R : Ending → HP → Prop}
    (hl : IsLoop N vals c rc0) (hrc : rc = { rc0 with state := .ready, pending := none }) (hok : roundOk N args.length c = true) {m m0 : HP} (hmm : m = pt l (.loop rc) + m0) (h : denRound P ann N vals c l rc args R m) : HYield P l ⟨args⟩ m R := by
  intro w hw
  obtain ⟨_, _, hsz, ⟨g, rfl⟩, hvals⟩ := hl
  simp only [roundOk, Bool.and_eq_true, beq_iff_eq, List.all_eq_true, decide_eq_true_eq] at hok
  obtain ⟨⟨⟨⟨⟨ho1, ho2⟩, ho3⟩, ho4⟩, ho5⟩, ho6⟩ := hok
  have hp : rc.params = rc0.params ∧ rc.assign = rc0.assign ∧ rc.body = rc0.body ∧ rc.tmps = rc0.tmps ∧ rc.state = .ready := by subst hrc; exact ⟨rfl, rfl, rfl, rfl, rfl⟩
  obtain ⟨hp1, hp2, hp3, hp4, hp5⟩ := hp
  have hget : w.heap[l]? = some (.loop rc) := by rw [hmm] at hw; exact hw.get.1
  have hy := run_yield (P := P) (args := ⟨args⟩) hget (by rw [hp1]; exact ho5.symm)
  refine ⟨_, _, _, _, hy, fun n => ?_⟩
  have hF : (FW none).fn rc.fn := trivial
  refine roundIn_of_wpIn hF ?_
  rw [hp1, hp2, hp3, hp4]
  have efold : ((rc0.params.zip (⟨args⟩ : Array Value)).foldl (fun tmps (p : Nat × Value) => tmps.setIfInBounds p.1 p.2) rc0.tmps) =
      ((rc0.params.toList.zip args).foldl (fun tm (p : Nat × Value) => tm.setIfInBounds p.1 p.2) rc0.tmps) := by
    rw [← Array.foldl_toList, Array.toList_zip]
  obtain ⟨t1, t2, t3⟩ := pset_spec (N := N) (rc0.params.toList.zip args) (tm := rc0.tmps) (σ := valEnv vals fun i => ⟨rc0.tmps.getD i undef, none⟩) hsz (by
    rw [List.all_eq_true]; intro p hp; rw [decide_eq_true_eq]; exact ho6 p.1 (List.of_mem_zip hp).1) (fun t => (valEnv_spec hvals t).1) (fun t => (valEnv_spec hvals t).2)
  have h := h (fun i => ⟨rc0.tmps.getD i undef, none⟩) (fun t => EV.ok_none _)
  have hact : Reg N (dsOf []) { tmps := (rc0.params.zip (⟨args⟩ : Array Value)).foldl (fun tmps (p : Nat × Value) => tmps.setIfInBounds p.1 p.2) rc0.tmps, defers := [] } (pset (rc0.params.toList.zip args) (valEnv vals fun i => ⟨rc0.tmps.getD i undef, none⟩)) := by
    rw [efold]; exact ⟨t1, t2, t3, rfl⟩
  refine wpIn_mono (den_sound hm (top := false) (ro := some l) (n := n) (fun e => by cases e) rc0.assign _ [] _ m _ w ho1 h hact hw) ?_
  intro e a w1 hpost
  have no_elim : ∀ {σ' : Nat → EV} {m' : HP}, (no : HP → Prop) m' → False := fun h => h
  cases e with
  | normal =>
    obtain ⟨σ', mk', m', g1, g2, g3, _, g5⟩ := hpost
    have := g5 ho3; subst this
    obtain ⟨m1, rfl, g6⟩ := g3
    have hb := run_beginRound (P := P) g2.get.1 hp5
    refine ⟨_, hb, ?_⟩
    have hw2 : Holds (w1.putObj l (.loop (rcBusy rc))) (pt l (.loop (rcBusy rc)) + m1) := g2.setObj
    refine wpIn_mono (den_sound hm (top := false) (ro := some l) (n := n) (fun e => by cases e) rc0.body _ [] _ _ _ _ ho2 g6 g1 hw2) ?_
    intro e a w3 hpost
    cases e with
    | normal =>
      obtain ⟨σ', mk', m', k1, k2, ⟨m3, rfl, k4⟩, _, _⟩ := hpost
      exact ⟨_, _, run_endRound none k2.get.1, _, k2.setObj, k4⟩
    | ret =>
      obtain ⟨σ', mk', m', k1, k2, ⟨m3, rfl, k4⟩, _, _⟩ := hpost
      exact ⟨_, _, run_endRound (some .ret) k2.get.1, _, k2.setObj, k4⟩
    | exit id =>
      obtain ⟨σ', mk', m', k1, k2, ⟨m3, rfl, k4⟩, _, _⟩ := hpost
      exact ⟨_, _, run_endRound (some (.exit id)) k2.get.1, _, k2.setObj, k4⟩
    | goto t => exact hpost.elim
    | panic ch => obtain ⟨m', mk', k1, k2, _⟩ := hpost; exact k2.elim
    | outgrown => exact hpost.elim
  | ret => obtain ⟨σ', mk', m', g1, g2, g3, _⟩ := hpost; exact g3.elim
  | exit id => obtain ⟨σ', mk', m', g1, g2, g3, _⟩ := hpost; exact g3.elim
  | goto t => exact hpost.elim
  | panic ch => obtain ⟨m', mk', k1, k2, _⟩ := hpost; exact k2.elim
  | outgrown => exact hpost.elim

end Go.Hp
