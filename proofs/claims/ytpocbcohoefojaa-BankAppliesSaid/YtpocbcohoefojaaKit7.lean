/- Regions that draw their order: some calls leave the world a later one and hand back the same in every world of a class (they may come at any time); others move the world on, in one order; what is shown holds in all later worlds. -/
import Derived.Test.YtpocbcohoefojaaKit6
import Derived.Barred
namespace Pg
open Go Go.RowKit Go.Sort
theorem kept_ext1 (w : World) (p : Regrown) : Kept w (ext w p) := below_ext w p
theorem calls_same {P : Program} {f : FuncId} {args : Array Value} {w : World} {v v' : Value} {R R' : World → Prop} (h : Calls P f args w fun e w2 => e = .returned v ∧ R w2) (h' : Calls P f args w fun e w2 => e = .returned v' ∧ R' w2) (hi : P.inits.idxOf? f = none) : v = v' := by
  obtain ⟨n, u, w1, e1, r1⟩ := (h.mono (R' := fun | .returned u, _ => u = v | _, _ => False) fun e w2 ⟨he, _⟩ => by subst he; rfl).done hi
  obtain ⟨m, u', w2, e2, r2⟩ := (h'.mono (R' := fun | .returned u, _ => u = v' | _, _ => False) fun e w2 ⟨he, _⟩ => by subst he; rfl).done hi
  have a := runN_ended e1 m
  have b := runN_ended e2 n
  rw [Nat.add_comm, a] at b
  injection b with ho hw
  injection ho with hv
  rw [← r1, ← r2, hv]
section
variable {pb : Oper → Bool} {P : Program} {ops : Array Oper} {md : Region.Mode} {C : World → Prop}
def quietU (pb : Oper → Bool) (P : Program) (ops : Array Oper) (C : World → Prop) (o : Oper) (v : Value) (a : Act) : Prop :=
  (Region.wanted o (yielded ops a.tmps) = false ∧ v = undef) ∨
  (Region.wanted o (yielded ops a.tmps) = true ∧ pb o = true ∧ ∀ w, C w → ((execOp a.eval o).run P w = .ok (.value v) w ∨ ((execOp a.eval o).run P w = .ok .skip w ∧ v = undef))) ∨
  (Region.wanted o (yielded ops a.tmps) = true ∧ pb o = true ∧ ∃ f args, P.inits.idxOf? f = none ∧ (∀ w, (execOp a.eval o).run P w = .ok (.enter f args) w) ∧ ∀ w, C w → Calls P f args w fun e w2 => e = .returned v ∧ C w2 ∧ Kept w w2)
theorem quietU_uniq {o : Oper} {v v' : Value} {a : Act} {w : World} (hw : C w) (h : quietU pb P ops C o v a) (h' : quietU pb P ops C o v' a) : v = v' := by
  rcases h with ⟨h1, rfl⟩ | ⟨h1, _, h2⟩ | ⟨h1, _, f, args, hi, h2, h3⟩ <;> rcases h' with ⟨h1', rfl⟩ | ⟨h1', _, h2'⟩ | ⟨h1', _, f', args', hi', h2', h3'⟩
  · rfl
  · rw [h1] at h1'; cases h1'
  · rw [h1] at h1'; cases h1'
  · rw [h1] at h1'; cases h1'
  · rcases h2 w hw with e | ⟨e, rfl⟩ <;> rcases h2' w hw with e' | ⟨e', rfl⟩
    · rw [e] at e'; injection e' with e' _; injection e'
    · rw [e] at e'; injection e' with e' _; cases e'
    · rw [e] at e'; injection e' with e' _; cases e'
    · rfl
  · have e' := h2' w
    rcases h2 w hw with e | ⟨e, _⟩ <;> (rw [e] at e'; injection e' with e' _; cases e')
  · rw [h1] at h1'; cases h1'
  · have e := h2 w
    rcases h2' w hw with e' | ⟨e', _⟩ <;> (rw [e] at e'; injection e' with e' _; cases e')
  · have e := h2 w
    rw [h2' w] at e
    injection e with e _
    injection e with e1 e2
    subst e1 e2
    exact calls_same (h3 w hw) (h3' w hw) hi
theorem quietU_same {o : Oper} {v : Value} {a a' : Act} (he : execOp a'.eval o = execOp a.eval o) (hw : Region.wanted o (yielded ops a'.tmps) = Region.wanted o (yielded ops a.tmps)) (h : quietU pb P ops C o v a) : quietU pb P ops C o v a' := by
  unfold quietU at *; rw [he, hw]; exact h
def stepU (pb : Oper → Bool) (P : Program) (ops : Array Oper) (C : World → Prop) (o : Oper) (K : Act → World → Prop) (a : Act) (w : World) : Prop :=
  (∃ v, quietU pb P ops C o v a ∧ K (a.put o.dst v) w) ∨
  (Region.wanted o (yielded ops a.tmps) = true ∧ pb o = false ∧ ∀ w', C w' → Kept w w' → callUpon P C (fun v w2 => K (a.put o.dst v) w2) ((execOp a.eval o).run P w'))
def anyU (pb : Oper → Bool) (P : Program) (md : Region.Mode) (ops : Array Oper) (C : World → Prop) (Q : Act → World → Prop) : Nat → Array Bool → Act → World → Prop
  | 0, listed, a, w => Region.ready md ops listed = [] ∧ ∀ w', C w' → Kept w w' → Q a w'
  | n + 1, listed, a, w => (Region.ready md ops listed = [] → ∀ w', C w' → Kept w w' → Q a w') ∧ ∀ i ∈ Region.ready md ops listed, ∀ o, ops[i]? = some o → stepU pb P ops C o (anyU pb P md ops C Q n (listed.setIfInBounds i true)) a w
theorem stepU_up {o : Oper} {a : Act} {w w2 : World} {K : Act → World → Prop} (hk : Kept w w2) (hK : ∀ a w w2, Kept w w2 → K a w → K a w2) (h : stepU pb P ops C o K a w) : stepU pb P ops C o K a w2 := by
  rcases h with ⟨v, hv, h⟩ | ⟨h1, h2, h⟩
  · exact .inl ⟨v, hv, hK _ _ _ hk h⟩
  · exact .inr ⟨h1, h2, fun w' hc hk' => h w' hc (hk.trans hk')⟩
theorem anyU_up {Q : Act → World → Prop} : ∀ (n : Nat) (listed : Array Bool) (a : Act) (w w2 : World), Kept w w2 → anyU pb P md ops C Q n listed a w → anyU pb P md ops C Q n listed a w2
  | 0, _, _, _, _, hk, h => ⟨h.1, fun w' hc hk' => h.2 w' hc (hk.trans hk')⟩
  | n + 1, _, _, _, _, hk, h => ⟨fun h0 w' hc hk' => h.1 h0 w' hc (hk.trans hk'), fun i hi o ho => stepU_up hk (fun a w w2 => anyU_up n _ a w w2) (h.2 i hi o ho)⟩
theorem stepU_mono {o : Oper} {a : Act} {w : World} {K K' : Act → World → Prop} (hw : C w) (h : ∀ a w, C w → K a w → K' a w) (hs : stepU pb P ops C o K a w) : stepU pb P ops C o K' a w := by
  rcases hs with ⟨v, h1, h2⟩ | ⟨h1, h2, hm⟩
  · exact .inl ⟨v, h1, h _ _ hw h2⟩
  · exact .inr ⟨h1, h2, fun w' hc hk => callUpon_mono (P := P) (C := C) (fun v w2 hc2 hk2 => h _ _ hc2 hk2) (hm w' hc hk)⟩
theorem anyU_first {Q : Act → World → Prop} {i : Nat} {oi : Oper} (hi : ops[i]? = some oi) (hsel : ∀ (j : Nat) (o : Oper) cs b, ops[j]? = some o → o.op ≠ .select cs b) (hch : Chain6 pb md ops) :
    ∀ (n : Nat) (listed : Array Bool) (a : Act) (w : World), C w → HeadInv md ops ops.size listed → (∀ m, m < i → listed.getD m false = true) →
      (∀ j oj, ops[j]? = some oj → j ≠ i → listed.getD j true = false → (∀ e ∈ oj.after, Region.binds md e = true → e.on ≠ i) → oi.apart ops oj = true) →
      i ∈ Region.ready md ops listed → stepU pb P ops C oi (anyU pb P md ops C Q n (listed.setIfInBounds i true)) a w → anyU pb P md ops C Q (n + 1) listed a w := by
  intro n
  induction n with
  | zero =>
    intro listed a w hw inv hlow hfree hr H
    refine ⟨fun h => (by rw [h] at hr; cases hr), fun j hj oj hoj => ?_⟩
    by_cases hji : j = i
    · subst hji; rw [hoj] at hi; cases hi; exact H
    · exfalso
      have hnil : Region.ready md ops (listed.setIfInBounds i true) = [] := by
        rcases H with ⟨v, _, h⟩ | ⟨_, _, hm⟩
        · exact h.1
        · obtain ⟨v, w', _, h⟩ := callUpon_some (hm w hw (Kept.refl w))
          exact h.1
      have := ready_mono hj hji
      rw [hnil] at this
      cases this
  | succ n ih =>
    intro listed a w hw inv hlow hfree hr H
    refine ⟨fun h => (by rw [h] at hr; cases hr), fun j hj oj hoj => ?_⟩
    by_cases hji : j = i
    · subst hji; rw [hoj] at hi; cases hi; exact H
    have hun := (mem_ready.1 hr).1
    obtain ⟨hjun, oj', hoj', hall⟩ := mem_ready.1 hj
    rw [hoj] at hoj'; cases hoj'
    have hisz : i < ops.size := (Array.getElem?_eq_some_iff.1 hi).1
    have hjsz : j < ops.size := (Array.getElem?_eq_some_iff.1 hoj).1
    have hij : i < j := by
      rcases Nat.lt_or_ge i j with h | h
      · exact h
      · have h1 := hlow j (by omega)
        rw [getD_both hjun] at h1; cases h1
    have hnot : ∀ e ∈ oj.after, Region.binds md e = true → e.on ≠ i := fun e he hb heq => by
      have h1 := hall e he hb
      rw [heq, getD_both hun] at h1; cases h1
    have hap := hfree j oj hoj hji hjun hnot
    obtain ⟨h1, h2, h3⟩ := Oper.apart_spec hap
    have ej : ∀ v, execOp (a.put oi.dst v).eval oj = execOp a.eval oj := fun v => execOp_put oj (fun cs b => hsel j oj cs b hoj) a oi.dst v h1
    have wj : ∀ v, Region.wanted oj (yielded ops (a.put oi.dst v).tmps) = Region.wanted oj (yielded ops a.tmps) := fun v => wanted_put oj a oi.dst v h1
    have ei : ∀ u, execOp (a.put oj.dst u).eval oi = execOp a.eval oi := fun u => execOp_put oi (fun cs b => hsel i oi cs b hi) a oj.dst u h3
    have wi : ∀ u, Region.wanted oi (yielded ops (a.put oj.dst u).tmps) = Region.wanted oi (yielded ops a.tmps) := fun u => wanted_put oi a oj.dst u h3
    have inv' : HeadInv md ops ops.size (listed.setIfInBounds j true) := inv.set hj hjsz
    have hlow' : ∀ m, m < i → (listed.setIfInBounds j true).getD m false = true := fun m hm => getD_set_true (hlow m hm)
    have hfree' : ∀ k ok, ops[k]? = some ok → k ≠ i → (listed.setIfInBounds j true).getD k true = false → (∀ e ∈ ok.after, Region.binds md e = true → e.on ≠ i) → oi.apart ops ok = true := fun k ok hk hki hun hno => by
      refine hfree k ok hk hki ?_ hno
      by_cases hjk : j = k
      · subst hjk; exact hjun
      · rwa [getD_set_ne true hjk] at hun
    have hr' : i ∈ Region.ready md ops (listed.setIfInBounds j true) := ready_mono hr (Ne.symm hji)
    have hcomm : (listed.setIfInBounds i true).setIfInBounds j true = (listed.setIfInBounds j true).setIfInBounds i true := Array.setIfInBounds_comm _ _ (Ne.symm hji)
    have next : ∀ {v : Value} {w' : World}, anyU pb P md ops C Q (n + 1) (listed.setIfInBounds i true) (a.put oi.dst v) w' → stepU pb P ops C oj (anyU pb P md ops C Q n ((listed.setIfInBounds j true).setIfInBounds i true)) (a.put oi.dst v) w' := fun h => by
      have := h.2 j (ready_mono hj hji) oj hoj
      rwa [hcomm] at this
    rcases H with ⟨v, hv, hK⟩ | ⟨hwi, hpi, hm⟩
    · rcases next hK with ⟨u, hu, hK'⟩ | ⟨hwj, hpj, hm'⟩
      · refine .inl ⟨u, quietU_same (ej v).symm (wj v).symm hu, ih _ _ _ hw inv' hlow' hfree' hr' (.inl ⟨v, quietU_same (ei u) (wi u) hv, ?_⟩)⟩
        rw [Act.put_comm a v u h2] at hK'
        exact hK'
      · refine .inr ⟨by rw [← wj v]; exact hwj, hpj, fun w' hc hk => ?_⟩
        have h5 := hm' w' hc hk
        rw [ej v] at h5
        refine callUpon_mono (P := P) (C := C) (fun u w2 hc2 hk2 => ih _ _ _ hc2 inv' hlow' hfree' hr' (.inl ⟨v, quietU_same (ei u) (wi u) hv, ?_⟩)) h5
        rw [Act.put_comm a v u h2] at hk2
        exact hk2
    · have still : ∀ {v : Value} {w' : World}, anyU pb P md ops C Q (n + 1) (listed.setIfInBounds i true) (a.put oi.dst v) w' → ∃ u, quietU pb P ops C oj u a ∧ anyU pb P md ops C Q n ((listed.setIfInBounds j true).setIfInBounds i true) ((a.put oi.dst v).put oj.dst u) w' := fun {v w'} h => by
        rcases next h with ⟨u, hu, hK'⟩ | ⟨_, hpj, _⟩
        · exact ⟨u, quietU_same (ej v).symm (wj v).symm hu, hK'⟩
        · exact absurd hj (hch i j oi oj hij hi hoj hpi hpj listed inv hun)
      obtain ⟨v0, w0, hc0, hK0⟩ := callUpon_some (hm w hw (Kept.refl w))
      obtain ⟨u, hu, _⟩ := still hK0
      refine .inl ⟨u, hu, ih _ _ _ hw inv' hlow' hfree' hr' (.inr ⟨by rw [wi u]; exact hwi, hpi, fun w' hc hk => ?_⟩)⟩
      rw [ei u]
      refine callUpon_mono (P := P) (C := C) (fun v w2 hc2 hk2 => ?_) (hm w' hc hk)
      obtain ⟨u', hu', hk'⟩ := still hk2
      rw [quietU_uniq hw hu hu', ← Act.put_comm a v u' h2]
      exact hk'
/-- The text's order. -/
def seqU (pb : Oper → Bool) (P : Program) (ops : Array Oper) (C : World → Prop) (Q : Act → World → Prop) : List Oper → Act → World → Prop
  | [], a, w => ∀ w', C w' → Kept w w' → Q a w'
  | o :: l, a, w => stepU pb P ops C o (seqU pb P ops C Q l) a w
theorem anyU_lex {Q : Act → World → Prop} (hs : Region.noSelect ops = true) (hch : Chain6 pb md ops) : ∀ (l : List Oper) (k : Nat) (listed : Array Bool) (a : Act) (w : World), C w → (∀ j, l[j]? = ops[k + j]?) → HeadInv md ops ops.size listed → (∀ m, m < k → listed.getD m false = true) →
    Region.lexFrom md ops l.length k listed = true → seqU pb P ops C Q l a w → anyU pb P md ops C Q l.length listed a w
  | [], _, _, _, _, _, _, _, _, hB, h => ⟨by simpa [Region.lexFrom] using hB, h⟩
  | o :: l, k, listed, a, w, hw, hl, inv, hlow, hB, h => by
    have h0 : ops[k]? = some o := by simpa using (hl 0).symm
    have hk : k < ops.size := (Array.getElem?_eq_some_iff.1 h0).1
    simp only [List.length_cons, Region.lexFrom, Bool.and_eq_true] at hB
    obtain ⟨⟨hr, hf⟩, hB'⟩ := hB
    have hr : k ∈ Region.ready md ops listed := by simpa using hr
    refine anyU_first h0 (Region.noSelect_spec hs) hch l.length listed a w hw inv hlow (Region.free_spec h0 hf) hr (stepU_mono hw (fun a' w' hw' h' => ?_) h)
    refine anyU_lex hs hch l (k + 1) _ a' w' hw' (fun j => by have := hl (j + 1); simpa [Nat.add_assoc, Nat.add_comm 1 j] using this) (inv.set hr hk) (fun m hm => ?_) hB' h'
    rcases Nat.lt_or_ge m k with h5 | h5
    · exact getD_set_true (hlow m h5)
    · have : m = k := by omega
      subst this
      have : m < listed.size := by rw [inv.size]; exact hk
      simp [this]
theorem wpOp_of_stepU {i : Nat} {o : Oper} (hi : ops[i]? = some o) {a : Act} {w : World} {K K' : Act → World → Prop} {Q' : Exit → Act → World → Prop} (hw : C w) (hup : ∀ a w w2, Kept w w2 → K a w → K a w2) (h : ∀ a w, C w → K a w → K' a w) (hs : stepU pb P ops C o K a w) : wpOp P ops Q' i K' a w := by
  unfold wpOp
  simp only [hi]
  rcases hs with ⟨v, hv, hK⟩ | ⟨h1, _, hm⟩
  · rcases hv with ⟨h1, rfl⟩ | ⟨h1, _, h2⟩ | ⟨h1, _, f, args, _, h2, h3⟩
    · simp only [h1, Bool.false_eq_true, if_false]; exact h _ _ hw hK
    · simp only [h1, if_true]
      left
      unfold Oper.wp
      rcases h2 w hw with e | ⟨e, rfl⟩ <;> rw [e]
      · exact h _ _ hw hK
      · exact h _ _ hw hK
    · simp only [h1, if_true]
      left
      unfold Oper.wp
      rw [h2 w]
      exact Calls.mono (h3 w hw) fun e w'' ⟨he, hc, hk⟩ => by subst he; exact h _ _ hc (hup _ _ _ hk hK)
  · have h2 := hm w hw (Kept.refl w)
    simp only [h1, if_true]
    left
    unfold Oper.wp
    generalize (execOp a.eval o).run P w = r at h2
    match r, h2 with
    | .ok (.value _) _, hr => exact h _ _ hr.1 hr.2
    | .ok .skip _, hr => exact h _ _ hr.1 hr.2
    | .ok (.enter _ _) _, hr => exact Calls.mono hr fun e w'' ⟨v, he, hc, hk⟩ => by subst he; exact h _ _ hc hk
    | .ok (.row _ _) _, hr => exact Rows.mono hr fun v w'' ⟨hc, hk⟩ => h _ _ hc hk
theorem wpAny_of_anyU {Q : Act → World → Prop} {Q' : Exit → Act → World → Prop} (hQ : ∀ a w, C w → Q a w → Q' .normal a w) : ∀ (n : Nat) (listed : Array Bool) (a : Act) (w : World), C w → anyU pb P md ops C Q n listed a w → wpAny P md ops Q' n listed a w
  | 0, _, _, _, hw, h => ⟨h.1, hQ _ _ hw (h.2 _ hw (Kept.refl _))⟩
  | n + 1, _, _, _, hw, h => ⟨fun h0 => hQ _ _ hw (h.1 h0 _ hw (Kept.refl _)), fun i hi => by
    obtain ⟨_, o, ho, _⟩ := mem_ready.1 hi
    exact wpOp_of_stepU ho hw (fun a w w2 => anyU_up n _ a w w2) (fun a' w' hw' => wpAny_of_anyU hQ n _ a' w' hw') (h.2 i hi o ho)⟩
/-- The region: its operations in the text's order. -/
theorem region_seqU {id : Nat} {Q : Exit → Act → World → Prop} {a : Act} {w : World} (pb : Oper → Bool) (I : World → Prop) (hI : I { w with drawn := w.drawn + 1 }) {l : List Oper} (hm : P.follows .mixedOrders = true) (hB : Region.lexB .any l.toArray = true) (hM : movesB6 pb .any l.toArray = true)
    (h : ∀ w1, w1 = { w with drawn := w.drawn + 1 } → seqU pb P l.toArray (fun w' => ∃ t : In I, w' = t.w) (fun a' w' => Q .normal a' w') l a w1) : (Code.region id l.toArray true).wp P Q a w := by
  simp only [Region.lexB, Bool.and_eq_true] at hB
  refine wp_region_any hm ?_
  refine wpAny_of_anyU (pb := pb) (C := fun w' => ∃ t : In I, w' = t.w) (Q := fun a' w' => Q .normal a' w') (fun _ _ _ h => h) _ _ _ _ ⟨⟨_, hI⟩, rfl⟩ ?_
  have inv0 : HeadInv .any l.toArray l.toArray.size (Array.replicate l.toArray.size false) :=
    ⟨by simp, fun j oj _ hl => (by rw [getD_replicate_false] at hl; cases hl), fun t h1 h2 => by omega⟩
  have := anyU_lex (C := fun w' => ∃ t : In I, w' = t.w) (md := .any) (Q := fun a' w' => Q .normal a' w') hB.1 (chain_of6 hM) l 0 (Array.replicate l.toArray.size false) a _ ⟨⟨_, hI⟩, rfl⟩ (by simp) inv0 (fun m hm => by omega) (by simpa using hB.2) (h _ rfl)
  simpa using this
/-- One operation that only reckons, by the quiet walk. -/
theorem seqU_plain {Q : Act → World → Prop} {o : Oper} {l : List Oper} {a : Act} {w : World} (hp : pb o = true) (hp2 : plainB o = true) (h : wpQuiet P ops C (fun a' => seqU pb P ops C Q l a' w) [o] a) : seqU pb P ops C Q (o :: l) a w := by
  unfold wpQuiet at h
  split at h
  · rename_i hw
    obtain ⟨v, h1, h2⟩ := h
    refine .inl ⟨v, .inr (.inl ⟨hw, hp, fun w' hc => ?_⟩), h2⟩
    have h3 := h1 w' hc
    unfold Oper.quietAt at h3
    have h4 := plain_no_enter (P := P) hp2 a.eval w'
    generalize (execOp a.eval o).run P w' = r at h3 h4
    match r, h3 with
    | .ok (.value _) _, hr => obtain ⟨e1, e2⟩ := hr; rw [e1, e2]; exact .inl rfl
    | .ok .skip _, hr => obtain ⟨e1, e2⟩ := hr; rw [e1]; exact .inr ⟨rfl, e2⟩
    | .ok (.enter f args) w1, _ => exact absurd rfl (h4 f args w1)
  · rename_i hw
    exact .inl ⟨undef, .inl ⟨by simpa using hw, rfl⟩, h⟩
/-- A call that hands back v in every world of the class. -/
theorem seqU_call {Q : Act → World → Prop} {o : Oper} {l : List Oper} {a : Act} {w : World} (f : FuncId) (args : Array Operand) (ats : Array TypeId) (hp : pb o = true) (hw : Region.wanted o (yielded ops a.tmps) = true) (ho : o.op = .call { callee := .value (.func f), args := args, argTypes := ats })
    (hi : P.inits.idxOf? f = none) (he : ∀ args w, (callFunc f args).run P w = .ok (.enter f args) w) (v : Value) (hc : ∀ w, C w → Calls P f (args.map a.eval) w fun e w2 => e = .returned v ∧ C w2 ∧ Kept w w2)
    (h : seqU pb P ops C Q l (a.put o.dst v) w) : seqU pb P ops C Q (o :: l) a w := by
  refine .inl ⟨v, .inr (.inr ⟨hw, hp, f, args.map a.eval, hi, fun w => ?_, hc⟩), h⟩
  simp [execOp, ho, resolve, Deferred.ofValue, invoke, Act.eval, he]
/-- One operation that moves the world on, by the usual walk. -/
theorem seqU_move {Q : Act → World → Prop} {o : Oper} {l : List Oper} {a : Act} {w : World} (hp : pb o = false) (hw : Region.wanted o (yielded ops a.tmps) = true)
    (h : ∀ w', C w' → Kept w w' → wpList P ops (goOn C o.dst a (seqU pb P ops C Q l)) [o] a w') : seqU pb P ops C Q (o :: l) a w := by
  refine .inr ⟨hw, hp, fun w' hc9 hk9 => ?_⟩
  replace h := h w' hc9 hk9
  unfold wpList at h
  rw [if_pos hw] at h
  rcases h with h | ⟨_, a', w', hl⟩
  · skip
    unfold Oper.wp at h
    have key : ∀ {v : Value} {w' : World}, goOn C o.dst a (seqU pb P ops C Q l) .normal (a.put o.dst v) w' → C w' ∧ seqU pb P ops C Q l (a.put o.dst v) w' := fun ⟨_, _, h2, h3⟩ => ⟨h2, h3⟩
    generalize (execOp a.eval o).run P w' = r at h ⊢
    match r, h with
    | .ok (.value _) _, hr => exact key hr
    | .ok .skip _, hr => exact key hr
    | .ok (.enter _ _) _, hr =>
      refine Calls.mono hr fun e w'' he => ?_
      cases e with
      | returned v => exact ⟨v, rfl, key he⟩
      | panicked _ => exact he.elim
      | outgrown => obtain ⟨_, _, hf⟩ := he; exact hf.elim
    | .ok (.defer d) _, hr =>
      obtain ⟨v, h1, _⟩ := hr
      have h2 := congrArg Act.defers h1
      simp only [put_defers] at h2
      have := congrArg List.length h2
      simp at this
    | .ok (.row _ _) _, hr => exact Rows.mono hr fun v w'' h => key h
    | .halt (.panic _) _, hr => exact hr.elim
  · exact hl.elim
/-- An operation that is passed over. -/
theorem seqU_skip {Q : Act → World → Prop} {o : Oper} {l : List Oper} {a : Act} {w : World} (hw : Region.wanted o (yielded ops a.tmps) = false) (h : seqU pb P ops C Q l (a.put o.dst undef) w) : seqU pb P ops C Q (o :: l) a w :=
  .inl ⟨undef, .inl ⟨hw, rfl⟩, h⟩
theorem seqU_nil {Q : Act → World → Prop} {a : Act} {w : World} (h : ∀ w', C w' → Kept w w' → Q a w') : seqU pb P ops C Q [] a w := h
end
end Pg
