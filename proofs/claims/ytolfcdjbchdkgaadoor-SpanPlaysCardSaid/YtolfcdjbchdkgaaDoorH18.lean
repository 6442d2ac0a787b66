/- A law's end: a function that answers true, and keeps every block there was. Own work; nothing of any program. -/
import Derived.Test.YtolfcdjbchdkgaaDoorH17
import Derived.ChangeSame
import Derived.Carry
import Derived.ProofKit
namespace Go.Hp
open Go Go.RowKit Go.ChangeShapes

variable {H : Type} {enc : TypeId × Value → H} {P : Program}

/-- What a world that holds the whole of an earlier one shares with it. -/
structure Kept (W W' : World) : Prop where
  os : W'.os = W.os
  output : W'.output = W.output
  block : ∀ b, b < W.heap.size → W'.heap[b]? = W.heap[b]?
theorem Holds.kept {W W' : World} {m : HP} (h : Holds W' m) (ho : Over (whole W) m) : Kept W W' := by
  obtain ⟨g, rfl⟩ := ho
  refine ⟨h.same.1, h.same.2, fun b hb => ?_⟩
  have e : W.heap[b]? = some W.heap[b] := Array.getElem?_eq_getElem hb
  rw [e]; exact h.of_whole e
theorem Kept.sameAt {W W' : World} (h : Kept W W') {p : MemPlace} (hp : p.block < W.heap.size) : W.sameAt W' p := by
  cases p with
  | cell b o => exact World.cell?_of_block (w := W) (h.block b hp)
  | map b => exact h.block b hp
theorem Kept.keptBut {W W' : World} (h : Kept W W') (may : MemPlace → Prop) : W.keptBut W' may := by
  refine ⟨h.os, h.output, fun i hi => ?_⟩
  rw [h.block i hi]
  cases ho : W.heap[i]? with
  | none => rfl
  | some o => cases o <;> simp
theorem Kept.frozen {W W' : World} (h : Kept W W') {a : Addr} (ha : a.block < W.heap.size) : W'.frozen? a = W.frozen? a := by
  simp only [World.frozen?, h.block _ ha]

theorem Kept.trodAll (hl : laidOutB P = true) {W W' : World} (h : Kept W W') {sp' : Nat → Bool} : ∀ {ts : List TypeId} {vs : List Value} {ds : List (DataW H)} {ps : List MemPlace},
    (∀ t ∈ ts, P.readableRec t = true ∧ t < P.types.size) → DataW.TrodAll enc P W 0 (fun _ => true) true ts vs ds ps → (∀ p ∈ ps, sp' p.block = true) → (∀ p ∈ ps, p.block < W.heap.size) → DataW.TrodAll enc P W' 0 sp' true ts vs ds ps
  | [], [], [], _, _, h0, _, _ => h0
  | t :: ts, v :: vs, d :: ds, ps, hts, h0, hsp, hlt => by
    obtain ⟨p, q, h1, h2, rfl⟩ := h0
    have ht := hts t (by simp)
    refine ⟨p, q, WideElems.Trod_stays hl ht.1 ht.2 h1 (fun x hx => h.sameAt (hlt x (by simp [hx]))) (fun x hx => hsp x (by simp [hx])), ?_, rfl⟩
    exact Kept.trodAll hl h (fun t ht => hts t (by simp [ht])) h2 (fun x hx => hsp x (by simp [hx])) (fun x hx => hlt x (by simp [hx]))
  | [], _ :: _, _, _, _, h0, _, _ => h0.elim
  | [], [], _ :: _, _, _, h0, _, _ => h0.elim
  | _ :: _, [], _, _, _, h0, _, _ => h0.elim
  | _ :: _, _ :: _, [], _, _, h0, _, _ => h0.elim

/-- **A law answers true, and nothing that there was is turned.** -/
theorem post_true (hl : laidOutB P = true) {f : Func} {s : ChangeSpec} {apart fresh handsOn again : Bool} {W W' : World} {args : Array Value} {ds gs : List (DataW H)} {before : List MemPlace} {tb : TypeId}
    (hW : DataW.Whole enc P f.params.toList s.vars apart W args.toList ds gs before) (hk : Kept W W') (hv : s.vars = []) (hs : s.fn H ds = { results := [.lit (.bool true)], args := ds })
    (hts : ∀ t ∈ f.params.toList, P.readableRec t = true ∧ t < P.types.size) (hr : f.resultTypes = #[tb]) (hb : P.underlying tb = some .bool) : s.post enc P f apart fresh handsOn again W args (.bool true) W' := by
  have hlt := hW.lt
  obtain ⟨p, q, hA, hV, hpq, hz, hn⟩ := hW
  have hgs : gs = [] ∧ q = [] := by
    rw [hv] at hV
    cases gs with
    | nil => exact ⟨rfl, hV⟩
    | cons g gs => exact hV.elim
  obtain ⟨rfl, rfl⟩ := hgs
  rw [List.append_nil] at hpq
  subst hpq
  have hlt' : ∀ x ∈ before, x.block < W.heap.size := fun x hx => by simpa using hlt x hx
  have hargs : ∀ sp : Nat → Bool, (∀ x ∈ before, sp x.block = true) → DataW.TrodAll enc P W' 0 sp true f.params.toList args.toList ds before := fun sp hsp => hk.trodAll hl hts hA hsp hlt'
  have hres : ∀ (b : Nat) (sp : Nat → Bool) (hd : Bool), DataW.TrodAll enc P W' b sp hd f.resultTypes.toList ((Value.bool true).resultList f.resultTypes.size) [.lit (.bool true)] [] := fun b sp hd => by
    rw [hr]; exact trodAll_mk1 (shut_bool hb true)
  refine ⟨ds, [], before, [], before, [], ⟨before, [], hA, hV, by simp, hz, hn⟩, ?_, ?_, ?_, hk.keptBut _, fun _ => ?_⟩
  · rw [List.append_nil, hs]; exact hres _ _ _
  · rw [List.append_nil, hs]; exact hargs _ fun x hx => by simpa using hlt' x hx
  · rw [List.append_nil, hs, hv]; rfl
  · refine ⟨ok_one hr rfl (okWide_bool_mk hb true), _, ([] : List (DataW H)), ([] ++ before) ++ [], ⟨[] ++ before, [], trodAll_append (hargs _ fun _ _ => rfl) (hres _ _ _), ?_, rfl, ?_, ?_⟩, ?_⟩
    · rw [hv]; rfl
    · intro b off hp
      have hp : MemPlace.cell b off ∈ before := by simpa using hp
      rw [hk.frozen (a := ⟨b, off, none⟩) (hlt' _ hp)]
      exact hz b off hp
    · intro ha; simpa using hn ha
    · intro x hx _; simpa using hx
theorem whole_split {w : World} {b : Nat} {o : Obj} (h : w.heap[b]? = some o) : ∃ r, whole w = pt b o + r := by
  refine ⟨⟨fun i => if i = b then .none else whole w i, (whole w).tk⟩, HP.ext (fun i => ?_) rfl⟩
  rw [HP.add_app]
  by_cases e : i = b
  · subst e
    rw [pt_same]
    simp only [whole, h, if_true]; rfl
  · rw [pt_other _ e]
    simp only [if_neg e]; rfl
theorem At.whole {w : World} {a : Addr} {v : Value} (h : w.cell? a = some v) (hs : a.spot = none) : At (whole w) a v := by
  unfold World.cell? at h
  cases ho : w.heap[a.block]? with
  | none => rw [ho] at h; cases h
  | some o =>
    rw [ho] at h
    cases o with
    | cells c T fr =>
      simp only [hs, Option.isSome_none, Bool.false_eq_true, if_false] at h
      obtain ⟨r, hr⟩ := whole_split ho
      exact ⟨c, T, fr, r, hr, hs, h⟩
    | _ => cases h
theorem At.whole' {w : World} {a : Addr} {v : Value} (h : w.cell? a = some v) : At (Hp.whole w) a v := by
  refine At.whole h ?_
  unfold World.cell? at h
  split at h
  · cases hs : a.spot with
    | none => rfl
    | some s => rw [hs] at h; simp at h
  · cases h
end Go.Hp
