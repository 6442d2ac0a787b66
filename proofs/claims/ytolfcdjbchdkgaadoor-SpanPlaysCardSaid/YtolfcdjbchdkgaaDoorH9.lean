/- A region that draws its order: the stages serve every order. Own work; nothing of any program. -/
import Derived.Test.YtolfcdjbchdkgaaDoorH8
namespace Go.Hp
open Go

def Lst (listed : Array Bool) (i : Nat) : Prop := listed.getD i false = true

theorem Lst_lt {listed : Array Bool} {i : Nat} (h : Lst listed i) : i < listed.size := by
  unfold Lst at h
  rcases Nat.lt_or_ge i listed.size with h' | h'
  · exact h'
  · rw [Array.getD_eq_getD_getElem?, Array.getElem?_eq_none h'] at h; simp at h

theorem not_Lst {listed : Array Bool} {i : Nat} (h : listed.getD i true = false) : ¬ Lst listed i := by
  intro hl
  have := Lst_lt hl
  unfold Lst at hl
  rw [Array.getD_eq_getD_getElem?] at h hl
  simp [this] at h hl
  rw [h] at hl; cases hl

theorem Lst_of {listed : Array Bool} {i : Nat} (hi : i < listed.size) (h : ¬ listed.getD i true = false) : Lst listed i := by
  unfold Lst
  rw [Array.getD_eq_getD_getElem?] at h ⊢
  simp [hi] at h ⊢; exact h

theorem Lst_set {listed : Array Bool} {i j : Nat} (hi : i < listed.size) : Lst (listed.setIfInBounds i true) j ↔ (j = i ∨ Lst listed j) := by
  unfold Lst
  simp only [Array.getD_eq_getD_getElem?, Array.getElem?_setIfInBounds]
  by_cases e : i = j
  · subst e; simp [hi]
  · simp [e, Ne.symm e]

/-- The last listed operation before n that writes t. -/
noncomputable def curW (listed : Array Bool) (ops : Array Oper) : Nat → Nat → Option Nat
  | 0, _ => none
  | k + 1, t => open Classical in if Lst listed k ∧ dstAt ops k = some t then some k else curW listed ops k t

theorem curW_eq {listed : Array Bool} {ops : Array Oper} {t : Nat} : ∀ (n j : Nat), j ≤ n → (∀ i, i < j → dstAt ops i = some t → Lst listed i) → (∀ i, j ≤ i → i < n → dstAt ops i = some t → ¬ Lst listed i) →
    curW listed ops n t = lastW ops j t := by
  intro n
  induction n with
  | zero =>
    intro j hj _ _
    have : j = 0 := by omega
    subst this; rfl
  | succ n ih =>
    intro j hj h1 h2
    by_cases e : j = n + 1
    · subst e
      simp only [curW, lastW]
      by_cases hd : dstAt ops n = some t
      · rw [if_pos ⟨h1 n (by omega) hd, hd⟩, if_pos hd]
      · rw [if_neg (fun h => hd h.2), if_neg hd]
        exact ih n (Nat.le_refl _) (fun i hi => h1 i (by omega)) (fun i hi hi' => by omega)
    · simp only [curW]
      rw [if_neg (fun h => h2 n (by omega) (by omega) h.2 h.1)]
      exact ih j (by omega) h1 (fun i hi hi' => h2 i hi (by omega))

theorem curW_lst {listed : Array Bool} {ops : Array Oper} {t : Nat} : ∀ {n i : Nat}, curW listed ops n t = some i → Lst listed i ∧ i < n := by
  intro n
  induction n with
  | zero => intro i h; cases h
  | succ n ih =>
    intro i h
    simp only [curW] at h
    split at h
    · rename_i hc; cases h; exact ⟨hc.1, by omega⟩
    · have := ih h; exact ⟨this.1, by omega⟩

/-- One more is listed. -/
theorem curW_set {listed : Array Bool} {ops : Array Oper} {i : Nat} (hi : i < listed.size) (hun : ¬ Lst listed i) {t : Nat} : ∀ (n : Nat),
    (dstAt ops i = some t → ∀ k, i < k → k < n → dstAt ops k = some t → ¬ Lst listed k) →
    curW (listed.setIfInBounds i true) ops n t = if i < n ∧ dstAt ops i = some t then some i else curW listed ops n t := by
  intro n
  induction n with
  | zero => intro _; simp [curW]
  | succ n ih =>
    intro h
    have ih' := ih (fun hd k h1 h2 => h hd k h1 (by omega))
    have hs := Lst_set (listed := listed) (i := i) (j := n) hi
    simp only [curW]
    by_cases e : n = i
    · by_cases hd : dstAt ops i = some t
      · rw [if_pos ⟨hs.2 (.inl e), by rw [e]; exact hd⟩, if_pos ⟨by omega, hd⟩, e]
      · have hdn : ¬ dstAt ops n = some t := by rw [e]; exact hd
        rw [if_neg (fun h => hdn h.2), if_neg (fun h => hd h.2), if_neg (fun h => hdn h.2), ih', if_neg (fun h => hd h.2)]
    · have hs' : Lst (listed.setIfInBounds i true) n ↔ Lst listed n := hs.trans ⟨fun h => h.resolve_left e, .inr⟩
      by_cases hc : Lst listed n ∧ dstAt ops n = some t
      · rw [if_pos ⟨hs'.2 hc.1, hc.2⟩, if_pos hc]
        by_cases hd : i < n + 1 ∧ dstAt ops i = some t
        · exact absurd hc.1 (h hd.2 n (by omega) (by omega) hc.2)
        · rw [if_neg hd]
      · rw [if_neg (fun h => hc ⟨hs'.1 h.1, h.2⟩), if_neg hc, ih']
        by_cases hd : i < n ∧ dstAt ops i = some t
        · rw [if_pos hd, if_pos ⟨by omega, hd.2⟩]
        · rw [if_neg hd, if_neg (fun h => hd ⟨by omega, h.2⟩)]

theorem countP_lt {p q : Nat → Bool} : ∀ {l : List Nat}, (∀ x ∈ l, q x = true → p x = true) → (∃ x ∈ l, p x = true ∧ q x = false) → l.countP q < l.countP p := by
  intro l
  induction l with
  | nil => rintro _ ⟨x, hx, _⟩; cases hx
  | cons a l ih =>
    intro h1 h2
    have hle : l.countP q ≤ l.countP p := List.countP_mono_left (fun x hx hq => h1 x (List.mem_cons_of_mem _ hx) hq)
    obtain ⟨x, hx, hp, hq⟩ := h2
    rcases List.mem_cons.1 hx with rfl | hx
    · simp only [List.countP_cons, hp, hq, if_true, Bool.false_eq_true, if_false]; omega
    · have hlt := ih (fun y hy => h1 y (List.mem_cons_of_mem _ hy)) ⟨x, hx, hp, hq⟩
      have ha := h1 a (by simp)
      simp only [List.countP_cons]
      cases hqa : q a <;> cases hpa : p a <;> simp_all <;> omega

def unl (n : Nat) (listed : Array Bool) : Nat := (List.range n).countP fun i => !listed.getD i true

theorem unl_set {n i : Nat} {listed : Array Bool} (hs : listed.size = n) (hi : i < n) (hun : listed.getD i true = false) : unl n (listed.setIfInBounds i true) < unl n listed := by
  refine countP_lt (fun x _ hx => ?_) ⟨i, List.mem_range.2 hi, by rw [hun]; rfl, ?_⟩
  · by_cases e : i = x
    · subst e; rw [hun]; rfl
    · rwa [getD_set_ne true e] at hx
  · simp only [Array.getD_eq_getD_getElem?, Array.getElem?_setIfInBounds]
    simp [hs, hi]

theorem unl_zero {n : Nat} {listed : Array Bool} (h : unl n listed = 0) : ∀ i, i < n → ¬ listed.getD i true = false := by
  intro i hi hun
  have := List.countP_eq_zero.1 h i (List.mem_range.2 hi)
  rw [hun] at this; simp at this

theorem quietAt_oper {ops : Array Oper} {i : Nat} {o : Oper} (ho : ops[i]? = some o) : quietAt ops i = isQuiet o.op := by simp [quietAt, ho]

theorem mem_louds {ops : Array Oper} {l : Nat} : l ∈ loudsOf ops ↔ l < ops.size ∧ quietAt ops l = false := by simp [loudsOf]
theorem mem_quiets {ops : Array Oper} {l : Nat} : l ∈ quietsOf ops ↔ l < ops.size ∧ quietAt ops l = true := by simp [quietsOf]

theorem getD_replicate_false' (m j : Nat) : (Array.replicate m false).getD j false = false := by
  rcases Nat.lt_or_ge j m with h | h
  · simp [h]
  · simp [h]

structure GInv (P : Program) (ops : Array Oper) (σ : Nat → EV) (N : Nat) (ds : List Deferred) (listed : Array Bool) (a : Act) (V : Nat → EV) (m : HP) (E R : List Nat) : Prop where
  size : listed.size = ops.size
  closed : ∀ j oj, ops[j]? = some oj → Lst listed j → ∀ e ∈ oj.after, Region.binds .any e = true → Lst listed e.on
  louds : ∀ l, quietAt ops l = false → Lst listed l → E.contains l = true
  inE : ∀ l, E.contains l = true → Lst listed l
  asize : a.tmps.size = N
  ads : a.defers = ds
  act : ∀ t, a.tmps.getD t undef = (match curW listed ops ops.size t with | some i => V i | none => σ t).v
  all : KnownAll P ops σ V m (R ++ E) (fun j => R.contains j = true ∧ ¬ Lst listed j)
  ever : ∀ j, R.contains j = true → ∃ m0, ValidAt P ops σ V (fun w => Holds w m0) j
  full : ∀ j, j < ops.size → quietAt ops j = true → (∀ l, l < ops.size → quietAt ops l = false → isAnc (ancTab ops ops.size) l j = true → E.contains l = true) → R.contains j = true

section
variable {P : Program} {ops : Array Oper} {σ : Nat → EV} {N : Nat} {ds : List Deferred} {listed : Array Bool} {a : Act} {V : Nat → EV} {m : HP} {E R : List Nat}

theorem contains_app {x y : List Nat} {k : Nat} : (x ++ y).contains k = true ↔ x.contains k = true ∨ y.contains k = true := by simp

theorem GInv.listed_known (h : GInv P ops σ N ds listed a V m E R) {j : Nat} (hj : Lst listed j) : (R ++ E).contains j = true := by
  have hlt : j < ops.size := by rw [← h.size]; exact Lst_lt hj
  by_cases hq : quietAt ops j = true
  · refine contains_app.2 (.inl (h.full j hlt hq fun l hl hlq hal => ?_))
    have ho : ops[j]? = some ops[j] := by simp [hlt]
    exact h.louds l hlq (anc_listed (L := Lst listed) h.closed j _ ho hlt (h.closed j _ ho hj) l hal)
  · exact contains_app.2 (.inr (h.louds j (by simpa using hq) hj))

/-- What an operation that may come up now looks at. -/
theorem GInv.looks (h : GInv P ops σ N ds listed a V m E R) (hd : drawOk ops = true) {i : Nat} {oi : Oper} (ho : ops[i]? = some oi) (hun : listed.getD i true = false)
    (hed : ∀ e ∈ oi.after, Region.binds .any e = true → Lst listed e.on) {t : Nat} (ht : t ∈ readsOf ops oi) : a.tmps.getD t undef = (envAt ops V σ i t).v := by
  have hlt : i < ops.size := (Array.getElem?_eq_some_iff.1 ho).1
  have hc : curW listed ops ops.size t = lastW ops i t := by
    refine curW_eq ops.size i (Nat.le_of_lt hlt) (fun k hk hdk => ?_) (fun k hk hk' hdk hl => ?_)
    · obtain ⟨ok, hok⟩ : ∃ ok, ops[k]? = some ok := by
        cases e : ops[k]? with
        | none => simp [dstAt, e] at hdk
        | some ok => exact ⟨ok, rfl⟩
      have hdk' : ok.dst = some t := by simpa [dstAt, hok] using hdk
      exact anc_listed (L := Lst listed) h.closed i oi ho hlt hed k (drawOk_pair hd hok ho hk (.inl ⟨t, hdk', .inl ht⟩))
    · obtain ⟨ok, hok⟩ : ∃ ok, ops[k]? = some ok := by
        cases e : ops[k]? with
        | none => simp [dstAt, e] at hdk
        | some ok => exact ⟨ok, rfl⟩
      have hdk' : ok.dst = some t := by simpa [dstAt, hok] using hdk
      by_cases e : k = i
      · subst e; exact not_Lst hun hl
      · have := drawOk_pair hd ho hok (by omega) (.inr ⟨t, hdk', ht⟩)
        exact not_Lst hun (anc_listed (L := Lst listed) h.closed k ok hok hk' (h.closed k ok hok hl) i this)
  rw [h.act t, hc]
  rfl

/-- The state behind an operation that has left v in its temporary. -/
theorem GInv.put_act (h : GInv P ops σ N ds listed a V m E R) (hd : drawOk ops = true) (hN : dstOk N ops = true) {i : Nat} {oi : Oper} (ho : ops[i]? = some oi) (hun : listed.getD i true = false) {V' : Nat → EV}
    (hV : ∀ k, Lst listed k → (V' k).v = (V k).v) (t : Nat) :
    (a.put oi.dst (V' i).v).tmps.getD t undef = (match curW (listed.setIfInBounds i true) ops ops.size t with | some k => V' k | none => σ t).v := by
  have hlt : i < ops.size := (Array.getElem?_eq_some_iff.1 ho).1
  have hdst : ∀ d, oi.dst = some d → d < a.tmps.size := fun d hd' => by rw [h.asize]; exact dstOk_spec hN ho d hd'
  have hdi : dstAt ops i = oi.dst := by simp [dstAt, ho]
  rw [getD_put hdst, curW_set (by rw [h.size]; exact hlt) (not_Lst hun) ops.size (fun hdt k hik hk hdk hl => by
    obtain ⟨ok, hok⟩ : ∃ ok, ops[k]? = some ok := by
      cases e : ops[k]? with
      | none => simp [dstAt, e] at hdk
      | some ok => exact ⟨ok, rfl⟩
    have hdk' : ok.dst = some t := by simpa [dstAt, hok] using hdk
    have hdt' : oi.dst = some t := by rw [← hdi]; exact hdt
    have := drawOk_pair hd ho hok hik (.inl ⟨t, hdt', .inr hdk'⟩)
    exact not_Lst hun (anc_listed (L := Lst listed) h.closed k ok hok hk (h.closed k ok hok hl) i this))]
  rw [hdi]
  by_cases e : oi.dst = some t
  · rw [if_pos e, if_pos ⟨hlt, e⟩]
  · rw [if_neg e, if_neg (fun h => e h.2), h.act t]
    cases hc : curW listed ops ops.size t with
    | none => rfl
    | some k => exact (hV k (curW_lst hc).1).symm

theorem GInv.closed_set (h : GInv P ops σ N ds listed a V m E R) {i : Nat} {oi : Oper} (ho : ops[i]? = some oi) (hed : ∀ e ∈ oi.after, Region.binds .any e = true → Lst listed e.on) :
    ∀ j oj, ops[j]? = some oj → Lst (listed.setIfInBounds i true) j → ∀ e ∈ oj.after, Region.binds .any e = true → Lst (listed.setIfInBounds i true) e.on := by
  have hlt : i < listed.size := by rw [h.size]; exact (Array.getElem?_eq_some_iff.1 ho).1
  intro j oj hoj hl e he hb
  rw [Lst_set hlt] at hl ⊢
  rcases hl with rfl | hl
  · obtain rfl : oi = oj := by rw [ho] at hoj; exact Option.some.inj hoj
    exact .inr (hed e he hb)
  · exact .inr (h.closed j oj hoj hl e he hb)

end

theorem KnownAll.perm {P : Program} {ops : Array Oper} {σ V : Nat → EV} {m : HP} {Kn Kn' : List Nat} {S S' : Nat → Prop} (h : KnownAll P ops σ V m Kn S) (hk : ∀ k, Kn.contains k = true ↔ Kn'.contains k = true) (hS : ∀ k, S' k → S k) :
    KnownAll P ops σ V m Kn' S' :=
  ⟨h.ok, fun j hj => readsOk_more (h.reads j ((hk j).2 hj)) (fun k hk' => (hk k).1 hk'), fun j hj => by
    obtain ⟨a, b, c⟩ := h.known j (hS j hj)
    exact ⟨(hk j).1 a, b, c⟩⟩

theorem game {P : Program} {ops : Array Oper} {σ : Nat → EV} (hσ : ∀ t, (σ t).ok) {X : List PanicEntry → HP → Prop} {K : (Nat → EV) → HP → Prop} {N : Nat} {ds : List Deferred} {ro : Option Nat} {nn : Nat}
    {Q : Exit → Act → World → Prop} (hd : drawOk ops = true) (hN : dstOk N ops = true)
    (hX : ∀ c a w m, a.tmps.size = N → a.defers = ds → Holds w m → X c m → Q (.panic c) a w)
    (hQ : ∀ V m a w, Reg N ds a (envAt ops V σ ops.size) → (∀ i, (V i).ok) → Holds w m → K V m → Q .normal a w) :
    ∀ (fuel sf : Nat) (listed : Array Bool) (a : Act) (w : World) (V : Nat → EV) (m : HP) (E R : List Nat), GInv P ops σ N ds listed a V m E R → unl ops.size listed ≤ fuel → Holds w m →
      (match nexts ops (ancTab ops ops.size) E with
        | [] => K V
        | ls => allOf (fun l => denRv P ops σ X [l] (R ++ E) V fun V'' => denDraw P ops (ancTab ops ops.size) σ X K sf (l :: E) R V'') ls) m →
      wpAnyIn (FW ro) nn P .any ops Q fuel listed a w := by
  have fin : ∀ {sf : Nat} {listed : Array Bool} {a : Act} {w : World} {V : Nat → EV} {m : HP} {E R : List Nat}, GInv P ops σ N ds listed a V m E R → Holds w m →
      (match nexts ops (ancTab ops ops.size) E with
        | [] => K V
        | ls => allOf (fun l => denRv P ops σ X [l] (R ++ E) V fun V'' => denDraw P ops (ancTab ops ops.size) σ X K sf (l :: E) R V'') ls) m →
      (∀ i, i < ops.size → Lst listed i) → Q .normal a w := by
    intro sf listed a w V m E R inv hw hst hL
    have hnx : nexts ops (ancTab ops ops.size) E = [] := by
      unfold nexts
      refine List.filter_eq_nil_iff.2 fun l hl => ?_
      obtain ⟨h1, h2⟩ := mem_louds.1 hl
      have := inv.louds l h2 (hL l h1)
      rw [this]; simp
    rw [hnx] at hst
    refine hQ V m a w ⟨inv.asize, fun t => ?_, envAt_ok inv.all.ok hσ _, inv.ads⟩ inv.all.ok hw hst
    rw [inv.act t, curW_eq ops.size ops.size (Nat.le_refl _) (fun i hi _ => hL i hi) (fun i hi hi' => by omega)]
    rfl
  intro fuel
  induction fuel with
  | zero =>
    intro sf listed a w V m E R inv hun hw hst
    have hall : ∀ i, i < ops.size → ¬ listed.getD i true = false := unl_zero (by omega)
    have hready : Region.ready .any ops listed = [] := by
      cases hr : Region.ready .any ops listed with
      | nil => rfl
      | cons i rs =>
        have hi : i ∈ Region.ready .any ops listed := by rw [hr]; simp
        obtain ⟨h1, oi, h2, _⟩ := mem_ready.1 hi
        exact absurd h1 (hall i (Array.getElem?_eq_some_iff.1 h2).1)
    exact ⟨hready, fin inv hw hst fun i hi => Lst_of (by rw [inv.size]; exact hi) (hall i hi)⟩
  | succ fuel ih =>
    intro sf listed a w V m E R inv hun hw hst
    refine ⟨fun hready => fin inv hw hst ?_, fun i hi => ?_⟩
    · intro i
      induction i using Nat.strongRecOn with
      | _ i ihi =>
        intro hi
        refine Lst_of (by rw [inv.size]; exact hi) fun hun => ?_
        have ho : ops[i]? = some ops[i] := by simp [hi]
        have : i ∈ Region.ready .any ops listed := mem_ready.2 ⟨hun, _, ho, fun e he hb => ihi e.on (drawOk_edges hd ho e he hb) (by have := drawOk_edges hd ho e he hb; omega)⟩
        rw [hready] at this; cases this
    · obtain ⟨hiun, oi, ho, hed⟩ := mem_ready.1 hi
      have hlt : i < ops.size := (Array.getElem?_eq_some_iff.1 ho).1
      have hlt' : i < listed.size := by rw [inv.size]; exact hlt
      have hanc : ∀ k, isAnc (ancTab ops ops.size) k i = true → Lst listed k := anc_listed (L := Lst listed) inv.closed i oi ho hlt hed
      have hun' : unl ops.size (listed.setIfInBounds i true) ≤ fuel := by have := unl_set inv.size hlt hiun; omega
      have hlook := fun t ht => inv.looks (t := t) hd ho hiun hed ht
      have habout : ∀ f, oi.about P w a.eval = some f → (FW ro).fn f := fun _ _ => trivial
      unfold wpOpIn
      rw [ho]
      simp only
      have hwant : ∀ (V1 : Nat → EV) b, (∀ k, (V1 k).v = (V k).v) → Wanted ops V1 oi i b → Region.wanted oi (yielded ops a.tmps) = b := fun V1 b hv hb => wanted_eq hb fun g want d hg hdg hl => by
        rw [hlook d (guard_reads hg hdg), hv]; simp [envAt, hl]
      by_cases hq : quietAt ops i = true
      · -- a quiet operation: its value is known
        have hR : R.contains i = true := inv.full i hlt hq fun l hl hlq hal => inv.louds l hlq (hanc l hal)
        obtain ⟨_, _, ⟨o', b, ho', hwb, h1, h2⟩, hpure⟩ := inv.all.known i ⟨hR, not_Lst hiun⟩
        obtain rfl : oi = o' := by rw [ho] at ho'; exact Option.some.inj ho'
        have hgo : wpAnyIn (FW ro) nn P .any ops Q fuel (listed.setIfInBounds i true) (a.put oi.dst (V i).v) w := by
          refine ih sf _ _ w V m E R ⟨by simp [inv.size], inv.closed_set ho hed, ?_, ?_, by rw [put_size, inv.asize], by rw [put_defers, inv.ads], inv.put_act hd hN ho hiun (fun _ _ => rfl), ?_, inv.ever, inv.full⟩ hun' hw hst
          · intro l hl hll
            rcases (Lst_set hlt').1 hll with rfl | hll
            · rw [hq] at hl; cases hl
            · exact inv.louds l hl hll
          · exact fun l hl => (Lst_set hlt').2 (.inr (inv.inE l hl))
          · exact inv.all.perm (fun _ => Iff.rfl) fun k hk => ⟨hk.1, fun hl => hk.2 ((Lst_set hlt').2 (.inr hl))⟩
        rw [hwant V b (fun _ => rfl) hwb]
        cases b with
        | true =>
          obtain ⟨g1, g2, g3⟩ := h1 rfl
          simp only [if_true]
          refine ⟨habout, ?_⟩
          have he : execOp a.eval oi = execOp (fun x => (evE (envAt ops V σ i) x).v) oi := execOp_congr oi g2 fun x hx => by
            cases x with
            | tmp t => exact hlook t (by unfold readsOf tmpsOf; exact List.mem_append.2 (.inl (List.mem_filterMap.2 ⟨.tmp t, by simpa using hx, rfl⟩)))
            | _ => rfl
          rw [Oper.semAt_eq _ _ _ g1, he, g3 w hw]
          exact hgo
        | false =>
          simp only [Bool.false_eq_true, if_false]
          rw [h2 rfl] at hgo
          exact ⟨habout, hgo⟩
      · -- a loud one
        have hq' : quietAt ops i = false := by simpa using hq
        have hiE : E.contains i = false := by
          cases hc : E.contains i with
          | false => rfl
          | true => exact absurd (inv.inE i hc) (not_Lst hiun)
        have hmem : i ∈ nexts ops (ancTab ops ops.size) E := by
          unfold nexts
          refine List.mem_filter.2 ⟨mem_louds.2 ⟨hlt, hq'⟩, ?_⟩
          rw [hiE]
          simp only [Bool.not_false, Bool.true_and, List.all_eq_true, Bool.or_eq_true, Bool.not_eq_true']
          intro l hl
          cases hal : isAnc (ancTab ops ops.size) l i with
          | false => exact .inl rfl
          | true => exact .inr (inv.louds l (mem_louds.1 hl).2 (hanc l hal))
        have hstage : denRv P ops σ X [i] (R ++ E) V (fun V'' => denDraw P ops (ancTab ops ops.size) σ X K sf (i :: E) R V'') m := by
          generalize hnx : nexts ops (ancTab ops ops.size) E = ls at hst hmem
          cases ls with
          | nil => cases hmem
          | cons l ls => exact allOf_mem hst i hmem
        simp only [denRv, ho] at hstage
        generalize hrr : (readsOk ops (R ++ E) i && !(R ++ E).contains i) = rr at hstage
        split at hstage
        · exact hstage.elim
        · simp only [Bool.and_eq_true, Bool.not_eq_true'] at hrr
          obtain ⟨hr1, hr2⟩ := hrr
          obtain ⟨V1, hv1, ho1, hgw⟩ := guarded_sound inv.all.ok hstage
          have hK1 := inv.all.values hv1 ho1
          -- the next stage
          have hgo : ∀ (ev : EV) (m' : HP) (w' : World), ev.ok → Holds w' m' → denDraw P ops (ancTab ops ops.size) σ X K sf (i :: E) R (upd V1 i ev) m' →
              wpAnyIn (FW ro) nn P .any ops Q fuel (listed.setIfInBounds i true) (a.put oi.dst ev.v) w' := by
            intro ev m' w' hev hw' hdd
            cases sf with
            | zero => exact hdd.elim
            | succ sf =>
              simp only [denDraw] at hdd
              have hK2 := hK1.add hr2 hr1 hev
              have hne : ∀ k, (R ++ E).contains k = true → (upd V1 i ev k).v = (V k).v := fun k hk => by
                have : k ≠ i := fun e => by subst e; rw [hr2] at hk; cases hk
                simp only [upd, if_neg this]; exact hv1 k
              have hever : ∀ j, R.contains j = true → ∃ m0, ValidAt P ops σ (upd V1 i ev) (fun w => Holds w m0) j := fun j hj => by
                obtain ⟨m0, hv⟩ := inv.ever j hj
                have hjk := contains_app.2 (.inl hj : R.contains j = true ∨ E.contains j = true)
                exact ⟨m0, hv.change (inv.all.reads j hjk) (hne j hjk) hne (fun _ h => h)⟩
              have hrq : ∀ j ∈ rechecks P ops (ancTab ops ops.size) (i :: E) R, quietAt ops j = true := fun j hj => by
                have := (List.mem_filter.1 hj).2
                simp only [Bool.and_eq_true] at this
                exact this.1.1
              obtain ⟨hre, hrest⟩ := denRe_sound hσ (upd_ok ho1 hev) hrq (fun j hj => hever j (by have := (List.mem_filter.1 hj).1; simpa using this)) hdd
              have hS : KnownAll P ops σ (upd V1 i ev) m' (R ++ (i :: E)) (fun j => R.contains j = true ∧ ¬ Lst (listed.setIfInBounds i true) j) := by
                have hperm : ∀ k, (i :: (R ++ E)).contains k = true ↔ (R ++ (i :: E)).contains k = true := fun k => by
                  simp only [List.contains_cons, List.contains_append, Bool.or_eq_true]
                  constructor
                  · rintro (h | h | h)
                    · exact .inr (.inl h)
                    · exact .inl h
                    · exact .inr (.inr h)
                  · rintro (h | h | h)
                    · exact .inr (.inl h)
                    · exact .inl h
                    · exact .inr (.inr h)
                refine ⟨hK2.ok, fun j hj => readsOk_more (hK2.reads j ((hperm j).2 hj)) (fun k hk => (hperm k).1 hk), fun j hj => ?_⟩
                have hjl : ¬ Lst listed j := fun hl => hj.2 ((Lst_set hlt').2 (.inr hl))
                obtain ⟨a1, a2, a3, a4⟩ := hK2.known j ⟨hj.1, hjl⟩
                refine ⟨(hperm j).1 a1, a2, ?_, a4⟩
                by_cases hh : heapyAt P ops j = true
                · refine hre j (List.mem_filter.2 ⟨by simpa using hj.1, ?_⟩)
                  rw [a2, hh]
                  simp only [Bool.and_self, Bool.true_and, Bool.not_eq_true', List.any_eq_false]
                  intro l hl hal
                  have hl' : Lst (listed.setIfInBounds i true) l := by
                    rcases List.mem_cons.1 hl with rfl | hl
                    · exact (Lst_set hlt').2 (.inl rfl)
                    · exact (Lst_set hlt').2 (.inr (inv.inE l (by simpa using hl)))
                  have hll : l < ops.size := by have := Lst_lt hl'; simpa [inv.size] using this
                  have hol : ops[l]? = some ops[l] := by simp [hll]
                  exact hj.2 (anc_listed (L := Lst (listed.setIfInBounds i true)) (inv.closed_set ho hed) l _ hol hll (inv.closed_set ho hed l _ hol hl') j hal)
                · obtain ⟨o2, b2, q1, q2, q3, q4⟩ := a4 (by simpa using hh)
                  exact ⟨o2, b2, q1, q2, fun hb => ⟨(q3 hb).1, (q3 hb).2.1, fun w _ => (q3 hb).2.2 w trivial⟩, q4⟩
              have hvq : ∀ j ∈ reveals ops (ancTab ops ops.size) (i :: E) R, quietAt ops j = true := fun j hj => (mem_quiets.1 (List.mem_filter.1 hj).1).2
              obtain ⟨V3, hK3, hv3, hst3⟩ := denRv_sound hσ hvq hS hrest
              have hlk : ∀ k, Lst (listed.setIfInBounds i true) k → (R ++ (i :: E)).contains k = true := fun k hk => by
                rcases (Lst_set hlt').1 hk with rfl | hk
                · simp
                · have := contains_app.1 (inv.listed_known hk)
                  rcases this with h | h
                  · exact contains_app.2 (.inl h)
                  · exact contains_app.2 (.inr (by rw [List.contains_cons, h]; simp))
              have hVi : (V3 i).v = ev.v := by rw [hv3 i (by simp)]; simp [upd]
              have hact := inv.put_act (V' := V3) hd hN ho hiun (fun k hk => by
                have hk' := inv.listed_known hk
                have hk2 := hlk k ((Lst_set hlt').2 (.inr hk))
                rw [hv3 k hk2, hne k hk'])
              rw [hVi] at hact
              refine ih sf _ _ w' V3 m' (i :: E) (R ++ reveals ops (ancTab ops ops.size) (i :: E) R) ⟨by simp [inv.size], inv.closed_set ho hed, ?_, ?_, by rw [put_size, inv.asize], by rw [put_defers, inv.ads], hact, ?_, ?_, ?_⟩ hun' hw' hst3
              · intro l hl hll
                rcases (Lst_set hlt').1 hll with rfl | hll
                · simp
                · rw [List.contains_cons, inv.louds l hl hll]; simp
              · intro l hl
                rw [List.contains_cons, Bool.or_eq_true] at hl
                rcases hl with hl | hl
                · exact (Lst_set hlt').2 (.inl (by simpa using hl))
                · exact (Lst_set hlt').2 (.inr (inv.inE l hl))
              · refine hK3.perm (fun k => ?_) fun k hk => ?_
                · simp only [List.contains_append, List.contains_cons, Bool.or_eq_true, List.contains_reverse]
                  constructor
                  · rintro (h | h | h | h)
                    · exact .inl (.inr h)
                    · exact .inl (.inl h)
                    · exact .inr (.inl h)
                    · exact .inr (.inr h)
                  · rintro ((h | h) | h | h)
                    · exact .inr (.inl h)
                    · exact .inl h
                    · exact .inr (.inr (.inl h))
                    · exact .inr (.inr (.inr h))
                · rcases contains_app.1 hk.1 with h | h
                  · exact .inl ⟨h, hk.2⟩
                  · exact .inr (by simpa using h)
              · intro j hj
                rcases contains_app.1 hj with h | h
                · obtain ⟨m0, hv⟩ := hever j h
                  have hjk : (R ++ (i :: E)).contains j = true := contains_app.2 (.inl h)
                  exact ⟨m0, hv.change (hS.reads j hjk) (hv3 j hjk) hv3 (fun _ h => h)⟩
                · exact ⟨m', (hK3.known j (.inr (by simpa using h))).2.2.1⟩
              · intro j hj hjq hja
                by_cases hjR : R.contains j = true
                · exact contains_app.2 (.inl hjR)
                · refine contains_app.2 (.inr ?_)
                  have : j ∈ reveals ops (ancTab ops ops.size) (i :: E) R := by
                    unfold reveals
                    refine List.mem_filter.2 ⟨mem_quiets.2 ⟨hj, hjq⟩, ?_⟩
                    have hjR' : R.contains j = false := by simpa using hjR
                    rw [hjR']
                    simp only [Bool.not_false, Bool.true_and, List.all_eq_true, Bool.or_eq_true, Bool.not_eq_true']
                    intro l hl
                    obtain ⟨l1, l2⟩ := mem_louds.1 hl
                    cases hal : isAnc (ancTab ops ops.size) l j with
                    | false => exact .inl rfl
                    | true => exact .inr (hja l l1 l2 hal)
                  simpa using this
          rcases hgw with ⟨hwb, hr⟩ | ⟨hwb, hr⟩
          · rw [hwant V1 _ hv1 hwb]
            simp only [if_true]
            obtain ⟨hnd, hns⟩ := denOne_not hr
            refine ⟨habout, ?_⟩
            have he : execOp a.eval oi = execOp (fun x => (evE (envAt ops V1 σ i) x).v) oi := execOp_congr oi hns fun x hx => by
              cases x with
              | tmp t =>
                have h1 := hlook t (by unfold readsOf tmpsOf; exact List.mem_append.2 (.inl (List.mem_filterMap.2 ⟨.tmp t, by simpa using hx, rfl⟩)))
                refine h1.trans ?_
                simp only [evE, envAt]; split <;> simp [hv1]
              | _ => rfl
            rw [Oper.semAt_eq _ _ _ hnd, he]
            refine (denOne_in (envAt_ok ho1 hσ i) hr hw).upon ?_ ?_
            · rintro v w' m' hw' ⟨ev, rfl, hev, hk⟩
              exact hgo ev m' w' hev hw' hk
            · intro c w' m' hw' hx
              exact hX c a w' m' inv.asize inv.ads hw' hx
          · rw [hwant V1 _ hv1 hwb]
            simp only [Bool.false_eq_true, if_false]
            exact ⟨habout, hgo ⟨undef, none⟩ m w (EV.ok_none _) hw hr⟩

/-- **A region that draws.** -/
theorem draw_sound {P : Program} {ops : Array Oper} {σ : Nat → EV} (hσ : ∀ t, (σ t).ok) {X : List PanicEntry → HP → Prop} {K : (Nat → EV) → HP → Prop} {N : Nat} {ds : List Deferred} {ro : Option Nat} {nn : Nat}
    {Q : Exit → Act → World → Prop} (hd : drawOk ops = true) (hN : dstOk N ops = true)
    (hX : ∀ c a w m, a.tmps.size = N → a.defers = ds → Holds w m → X c m → Q (.panic c) a w)
    (hQ : ∀ V m a w, Reg N ds a (envAt ops V σ ops.size) → (∀ i, (V i).ok) → Holds w m → K V m → Q .normal a w) {id n : Nat} {a : Act} {w : World} {m : HP}
    (hm : P.follows .mixedOrders = true) (ha : Reg N ds a σ) (hw : Holds w m) (h : denDraw P ops (ancTab ops ops.size) σ X K n [] [] (fun _ => ⟨undef, none⟩) m) :
    (Code.region id ops true).wpIn (FW ro) nn P Q a w := by
  refine wpIn_region_any hm ?_
  cases n with
  | zero => exact h.elim
  | succ n =>
    simp only [denDraw, rechecks, List.filter_nil, denRe, List.append_nil, List.nil_append] at h
    have hun0 : ∀ i, ¬ Lst (Array.replicate ops.size false) i := fun i hl => by
      unfold Lst at hl
      rw [getD_replicate_false'] at hl
      cases hl
    have hK0 : KnownAll P ops σ (fun _ => ⟨undef, none⟩) m [] (fun _ => False) := ⟨fun _ => EV.ok_none _, fun j hj => by simp at hj, fun j hj => hj.elim⟩
    have hvq : ∀ j ∈ reveals ops (ancTab ops ops.size) [] [], quietAt ops j = true := fun j hj => (mem_quiets.1 (List.mem_filter.1 hj).1).2
    obtain ⟨V, hK, _, hst⟩ := denRv_sound hσ hvq hK0 h
    refine game hσ hd hN hX hQ ops.size n _ a { w with drawn := w.drawn + 1 } V m [] (reveals ops (ancTab ops ops.size) [] []) ⟨by simp, fun j _ _ hl => absurd hl (hun0 j), fun l _ hl => absurd hl (hun0 l), fun l hl => by simp at hl, ha.size, ha.ds, fun t => ?_, ?_, ?_, ?_⟩ ?_ (hw.of_heap rfl) (by simp only [List.append_nil]; exact hst)
    · rw [ha.eq t, curW_eq ops.size 0 (Nat.zero_le _) (fun i hi => by omega) (fun i _ _ _ => hun0 i)]; rfl
    · refine hK.perm (fun k => by simp) fun k hk => .inr (by simpa using hk.1)
    · exact fun j hj => ⟨m, (hK.known j (.inr (by simpa using hj))).2.2.1⟩
    · intro j hj hjq hja
      have : j ∈ reveals ops (ancTab ops ops.size) [] [] := by
        unfold reveals
        refine List.mem_filter.2 ⟨mem_quiets.2 ⟨hj, hjq⟩, ?_⟩
        simp only [List.contains_nil, Bool.not_false, Bool.true_and, List.all_eq_true, Bool.or_eq_true, Bool.not_eq_true']
        intro l hl
        obtain ⟨l1, l2⟩ := mem_louds.1 hl
        cases hal : isAnc (ancTab ops ops.size) l j with
        | false => exact .inl rfl
        | true => have := hja l l1 l2 hal; simp at this
      simpa using this
    · unfold unl
      exact Nat.le_trans List.countP_le_length (by simp)

end Go.Hp
