/- The same as Kit4, where the prover says which operations count as reckoning only, and over a class of worlds of the prover's choice. Regions that draw their order: some calls leave the world a later one and hand back the same in every world of a class (they may come at any time); others move the world on, in one order; what is shown holds in all later worlds. Regions that draw their order: calls that hand back blocks of their own, one behind the other, and a variable that is made (alloc) at whatever moment ahead of a tail that waits for all of them. -/
import Derived.Test.YtjkhdjonlppdoaaKit5
import Derived.Barred
namespace Pg
open Go Go.RowKit Go.Sort
section
variable {pb : Oper → Bool} {P : Program} {ops : Array Oper} {md : Region.Mode} {C : World → Prop}
/-- In state a, in whatever world of the class, an operation that only reckons leaves v, and the world alone; or it is passed over. -/
def stillV6 (pb : Oper → Bool) (P : Program) (ops : Array Oper) (C : World → Prop) (o : Oper) (v : Value) (a : Act) : Prop :=
  (Region.wanted o (yielded ops a.tmps) = false ∧ v = undef) ∨
  (Region.wanted o (yielded ops a.tmps) = true ∧ pb o = true ∧ ∀ w, C w → ((execOp a.eval o).run P w = .ok (.value v) w ∨ ((execOp a.eval o).run P w = .ok .skip w ∧ v = undef)))
def moveV6 (pb : Oper → Bool) (P : Program) (ops : Array Oper) (C : World → Prop) (o : Oper) (a : Act) (w : World) (K : Value → World → Prop) : Prop :=
  Region.wanted o (yielded ops a.tmps) = true ∧ pb o = false ∧ callUpon P C K ((execOp a.eval o).run P w)
theorem moveV_mono6 {o : Oper} {a : Act} {w : World} {K K' : Value → World → Prop} (h : ∀ v w, C w → K v w → K' v w) (hm : moveV6 pb P ops C o a w K) : moveV6 pb P ops C o a w K' := ⟨hm.1, hm.2.1, callUpon_mono h hm.2.2⟩
theorem stillV_uniq6 {o : Oper} {v v' : Value} {a : Act} {w : World} (hw : C w) (h : stillV6 pb P ops C o v a) (h' : stillV6 pb P ops C o v' a) : v = v' := by
  rcases h with ⟨h1, rfl⟩ | ⟨h1, _, h2⟩ <;> rcases h' with ⟨h1', rfl⟩ | ⟨h1', _, h2'⟩
  · rfl
  · rw [h1] at h1'; cases h1'
  · rw [h1] at h1'; cases h1'
  · rcases h2 w hw with e | ⟨e, rfl⟩ <;> rcases h2' w hw with e' | ⟨e', rfl⟩
    · rw [e] at e'; injection e' with e' _; injection e'
    · rw [e] at e'; injection e' with e' _; cases e'
    · rw [e] at e'; injection e' with e' _; cases e'
    · rfl
theorem stillV_same6 {o : Oper} {v : Value} {a a' : Act} (he : execOp a'.eval o = execOp a.eval o) (hw : Region.wanted o (yielded ops a'.tmps) = Region.wanted o (yielded ops a.tmps)) (h : stillV6 pb P ops C o v a) : stillV6 pb P ops C o v a' := by
  unfold stillV6 at *; rw [he, hw]; exact h
theorem moveV_same6 {o : Oper} {a a' : Act} {w : World} {K : Value → World → Prop} (he : execOp a'.eval o = execOp a.eval o) (hw : Region.wanted o (yielded ops a'.tmps) = Region.wanted o (yielded ops a.tmps)) (h : moveV6 pb P ops C o a w K) : moveV6 pb P ops C o a' w K := by
  unfold moveV6 at *; rw [he, hw]; exact h
/-- One operation: it reckons, or it moves the world on. -/
def stepE6 (pb : Oper → Bool) (P : Program) (ops : Array Oper) (C : World → Prop) (o : Oper) (K : Act → World → Prop) (a : Act) (w : World) : Prop :=
  (∃ v, stillV6 pb P ops C o v a ∧ K (a.put o.dst v) w) ∨ moveV6 pb P ops C o a w (fun v w' => K (a.put o.dst v) w')
def anyE6 (pb : Oper → Bool) (P : Program) (md : Region.Mode) (ops : Array Oper) (C : World → Prop) (Q : Act → World → Prop) : Nat → Array Bool → Act → World → Prop
  | 0, listed, a, w => Region.ready md ops listed = [] ∧ Q a w
  | n + 1, listed, a, w => (Region.ready md ops listed = [] → Q a w) ∧ ∀ i ∈ Region.ready md ops listed, ∀ o, ops[i]? = some o → stepE6 pb P ops C o (anyE6 pb P md ops C Q n (listed.setIfInBounds i true)) a w
theorem stepE_mono6 {o : Oper} {a : Act} {w : World} {K K' : Act → World → Prop} (hw : C w) (h : ∀ a w, C w → K a w → K' a w) (hs : stepE6 pb P ops C o K a w) : stepE6 pb P ops C o K' a w := by
  rcases hs with ⟨v, h1, h2⟩ | hm
  · exact .inl ⟨v, h1, h _ _ hw h2⟩
  · exact .inr (moveV_mono6 (fun v w' hc hk => h _ _ hc hk) hm)
/-- Operations that move the world on wait for one another. -/
def Chain6 (pb : Oper → Bool) (md : Region.Mode) (ops : Array Oper) : Prop := ∀ i j oi oj, i < j → ops[i]? = some oi → ops[j]? = some oj → pb oi = false → pb oj = false → ∀ listed, HeadInv md ops ops.size listed → listed.getD i true = false → j ∉ Region.ready md ops listed

theorem anyE_first6 {Q : Act → World → Prop} {i : Nat} {oi : Oper} (hi : ops[i]? = some oi) (hsel : ∀ (j : Nat) (o : Oper) cs b, ops[j]? = some o → o.op ≠ .select cs b) (hch : Chain6 pb md ops) :
    ∀ (n : Nat) (listed : Array Bool) (a : Act) (w : World), C w → HeadInv md ops ops.size listed → (∀ m, m < i → listed.getD m false = true) →
      (∀ j oj, ops[j]? = some oj → j ≠ i → listed.getD j true = false → (∀ e ∈ oj.after, Region.binds md e = true → e.on ≠ i) → oi.apart ops oj = true) →
      i ∈ Region.ready md ops listed → stepE6 pb P ops C oi (anyE6 pb P md ops C Q n (listed.setIfInBounds i true)) a w → anyE6 pb P md ops C Q (n + 1) listed a w := by
  intro n
  induction n with
  | zero =>
    intro listed a w hw inv hlow hfree hr H
    refine ⟨fun h => (by rw [h] at hr; cases hr), fun j hj oj hoj => ?_⟩
    by_cases hji : j = i
    · subst hji; rw [hoj] at hi; cases hi; exact H
    · exfalso
      have hnil : Region.ready md ops (listed.setIfInBounds i true) = [] := by
        rcases H with ⟨v, _, h⟩ | hm
        · exact h.1
        · obtain ⟨v, w', _, h⟩ := callUpon_some hm.2.2
          exact h.1
      have := ready_mono hj hji
      rw [hnil] at this
      cases this
  | succ n ih =>
    intro listed a w hw inv hlow hfree hr H
    refine ⟨fun h => (by rw [h] at hr; cases hr), fun j hj oj hoj => ?_⟩
    by_cases hji : j = i
    · subst hji; rw [hoj] at hi; cases hi; exact H
    have hun := (mem_ready.1 hr).1
    obtain ⟨hjun, oj', hoj', hall⟩ := mem_ready.1 hj
    rw [hoj] at hoj'; cases hoj'
    have hisz : i < ops.size := (Array.getElem?_eq_some_iff.1 hi).1
    have hjsz : j < ops.size := (Array.getElem?_eq_some_iff.1 hoj).1
    have hij : i < j := by
      rcases Nat.lt_or_ge i j with h | h
      · exact h
      · have h1 := hlow j (by omega)
        rw [getD_both hjun] at h1; cases h1
    have hnot : ∀ e ∈ oj.after, Region.binds md e = true → e.on ≠ i := fun e he hb heq => by
      have h1 := hall e he hb
      rw [heq, getD_both hun] at h1; cases h1
    have hap := hfree j oj hoj hji hjun hnot
    obtain ⟨h1, h2, h3⟩ := Oper.apart_spec hap
    have ej : ∀ v, execOp (a.put oi.dst v).eval oj = execOp a.eval oj := fun v => execOp_put oj (fun cs b => hsel j oj cs b hoj) a oi.dst v h1
    have wj : ∀ v, Region.wanted oj (yielded ops (a.put oi.dst v).tmps) = Region.wanted oj (yielded ops a.tmps) := fun v => wanted_put oj a oi.dst v h1
    have ei : ∀ u, execOp (a.put oj.dst u).eval oi = execOp a.eval oi := fun u => execOp_put oi (fun cs b => hsel i oi cs b hi) a oj.dst u h3
    have wi : ∀ u, Region.wanted oi (yielded ops (a.put oj.dst u).tmps) = Region.wanted oi (yielded ops a.tmps) := fun u => wanted_put oi a oj.dst u h3
    have inv' : HeadInv md ops ops.size (listed.setIfInBounds j true) := inv.set hj hjsz
    have hlow' : ∀ m, m < i → (listed.setIfInBounds j true).getD m false = true := fun m hm => getD_set_true (hlow m hm)
    have hfree' : ∀ k ok, ops[k]? = some ok → k ≠ i → (listed.setIfInBounds j true).getD k true = false → (∀ e ∈ ok.after, Region.binds md e = true → e.on ≠ i) → oi.apart ops ok = true := fun k ok hk hki hun hno => by
      refine hfree k ok hk hki ?_ hno
      by_cases hjk : j = k
      · subst hjk; exact hjun
      · rwa [getD_set_ne true hjk] at hun
    have hr' : i ∈ Region.ready md ops (listed.setIfInBounds j true) := ready_mono hr (Ne.symm hji)
    have hcomm : (listed.setIfInBounds i true).setIfInBounds j true = (listed.setIfInBounds j true).setIfInBounds i true := Array.setIfInBounds_comm _ _ (Ne.symm hji)
    have next : ∀ {v : Value} {w' : World}, anyE6 pb P md ops C Q (n + 1) (listed.setIfInBounds i true) (a.put oi.dst v) w' → stepE6 pb P ops C oj (anyE6 pb P md ops C Q n ((listed.setIfInBounds j true).setIfInBounds i true)) (a.put oi.dst v) w' := fun h => by
      have := h.2 j (ready_mono hj hji) oj hoj
      rwa [hcomm] at this
    rcases H with ⟨v, hv, hK⟩ | hm
    · rcases next hK with ⟨u, hu, hK'⟩ | hm'
      · refine .inl ⟨u, stillV_same6 (ej v).symm (wj v).symm hu, ih _ _ _ hw inv' hlow' hfree' hr' (.inl ⟨v, stillV_same6 (ei u) (wi u) hv, ?_⟩)⟩
        rw [Act.put_comm a v u h2] at hK'
        exact hK'
      · refine .inr (moveV_mono6 (fun u w' hc hk => ih _ _ _ hc inv' hlow' hfree' hr' (.inl ⟨v, stillV_same6 (ei u) (wi u) hv, ?_⟩)) (moveV_same6 (ej v).symm (wj v).symm hm'))
        rw [Act.put_comm a v u h2] at hk
        exact hk
    · have hpi := hm.2.1
      have still : ∀ {v : Value} {w' : World}, anyE6 pb P md ops C Q (n + 1) (listed.setIfInBounds i true) (a.put oi.dst v) w' → ∃ u, stillV6 pb P ops C oj u a ∧ anyE6 pb P md ops C Q n ((listed.setIfInBounds j true).setIfInBounds i true) ((a.put oi.dst v).put oj.dst u) w' := fun {v w'} h => by
        rcases next h with ⟨u, hu, hK'⟩ | hm'
        · exact ⟨u, stillV_same6 (ej v).symm (wj v).symm hu, hK'⟩
        · exact absurd hj (hch i j oi oj hij hi hoj hpi hm'.2.1 listed inv hun)
      obtain ⟨v0, w0, hc0, hK0⟩ := callUpon_some hm.2.2
      obtain ⟨u, hu, _⟩ := still hK0
      refine .inl ⟨u, hu, ih _ _ _ hw inv' hlow' hfree' hr' (.inr (moveV_same6 (ei u) (wi u) (moveV_mono6 (fun v w' hc hk => ?_) hm)))⟩
      obtain ⟨u', hu', hk'⟩ := still hk
      rw [stillV_uniq6 hw hu hu', ← Act.put_comm a v u' h2]
      exact hk'

/-- The text's order. -/
def seqE6 (pb : Oper → Bool) (P : Program) (ops : Array Oper) (C : World → Prop) (Q : Act → World → Prop) : List Oper → Act → World → Prop
  | [], a, w => Q a w
  | o :: l, a, w => stepE6 pb P ops C o (seqE6 pb P ops C Q l) a w
theorem anyE_lex6 {Q : Act → World → Prop} (hs : Region.noSelect ops = true) (hch : Chain6 pb md ops) : ∀ (l : List Oper) (k : Nat) (listed : Array Bool) (a : Act) (w : World), C w → (∀ j, l[j]? = ops[k + j]?) → HeadInv md ops ops.size listed → (∀ m, m < k → listed.getD m false = true) →
    Region.lexFrom md ops l.length k listed = true → seqE6 pb P ops C Q l a w → anyE6 pb P md ops C Q l.length listed a w
  | [], _, _, _, _, _, _, _, _, hB, h => ⟨by simpa [Region.lexFrom] using hB, h⟩
  | o :: l, k, listed, a, w, hw, hl, inv, hlow, hB, h => by
    have h0 : ops[k]? = some o := by simpa using (hl 0).symm
    have hk : k < ops.size := (Array.getElem?_eq_some_iff.1 h0).1
    simp only [List.length_cons, Region.lexFrom, Bool.and_eq_true] at hB
    obtain ⟨⟨hr, hf⟩, hB'⟩ := hB
    have hr : k ∈ Region.ready md ops listed := by simpa using hr
    refine anyE_first6 h0 (Region.noSelect_spec hs) hch l.length listed a w hw inv hlow (Region.free_spec h0 hf) hr (stepE_mono6 hw (fun a' w' hw' h' => ?_) h)
    refine anyE_lex6 hs hch l (k + 1) _ a' w' hw' (fun j => by have := hl (j + 1); simpa [Nat.add_assoc, Nat.add_comm 1 j] using this) (inv.set hr hk) (fun m hm => ?_) hB' h'
    rcases Nat.lt_or_ge m k with h5 | h5
    · exact getD_set_true (hlow m h5)
    · have : m = k := by omega
      subst this
      have : m < listed.size := by rw [inv.size]; exact hk
      simp [this]
theorem wpOp_of_stepE6 {i : Nat} {o : Oper} (hi : ops[i]? = some o) {a : Act} {w : World} {K K' : Act → World → Prop} {Q' : Exit → Act → World → Prop} (hw : C w) (h : ∀ a w, C w → K a w → K' a w) (hs : stepE6 pb P ops C o K a w) : wpOp P ops Q' i K' a w := by
  unfold wpOp
  simp only [hi]
  rcases hs with ⟨v, hv, hK⟩ | ⟨h1, _, h2⟩
  · rcases hv with ⟨h1, rfl⟩ | ⟨h1, _, h2⟩
    · simp only [h1, Bool.false_eq_true, if_false]; exact h _ _ hw hK
    · simp only [h1, if_true]
      left
      unfold Oper.wp
      rcases h2 w hw with e | ⟨e, rfl⟩ <;> rw [e]
      · exact h _ _ hw hK
      · exact h _ _ hw hK
  · simp only [h1, if_true]
    left
    unfold Oper.wp
    generalize (execOp a.eval o).run P w = r at h2
    match r, h2 with
    | .ok (.value _) _, hr => exact h _ _ hr.1 hr.2
    | .ok .skip _, hr => exact h _ _ hr.1 hr.2
    | .ok (.enter _ _) _, hr => exact Calls.mono hr fun e w'' ⟨v, he, hc, hk⟩ => by subst he; exact h _ _ hc hk
    | .ok (.row _ _) _, hr => exact Rows.mono hr fun v w'' ⟨hc, hk⟩ => h _ _ hc hk
theorem wpAny_of_anyE6 {Q : Act → World → Prop} {Q' : Exit → Act → World → Prop} (hQ : ∀ a w, C w → Q a w → Q' .normal a w) : ∀ (n : Nat) (listed : Array Bool) (a : Act) (w : World), C w → anyE6 pb P md ops C Q n listed a w → wpAny P md ops Q' n listed a w
  | 0, _, _, _, hw, h => ⟨h.1, hQ _ _ hw h.2⟩
  | n + 1, _, _, _, hw, h => ⟨fun h0 => hQ _ _ hw (h.1 h0), fun i hi => by
    obtain ⟨_, o, ho, _⟩ := mem_ready.1 hi
    exact wpOp_of_stepE6 ho hw (fun a' w' hw' => wpAny_of_anyE6 hQ n _ a' w' hw') (h.2 i hi o ho)⟩
/-- The operation ahead of j that moves the world on. -/
def lastMove6 (pb : Oper → Bool) (ops : Array Oper) (j : Nat) : Option Nat := ((List.range j).filter fun i => ((ops[i]?).map fun o => !pb o).getD false).getLast?
def movesB6 (pb : Oper → Bool) (md : Region.Mode) (ops : Array Oper) : Bool := (List.range ops.size).all fun j => match ops[j]? with
  | none => true
  | some o => pb o || (match lastMove6 pb ops j with | none => true | some p => reachB md ops 8 j p)
theorem chain_of6 (h : movesB6 pb md ops = true) : Chain6 pb md ops := by
  intro i j
  induction j using Nat.strongRecOn with
  | _ j ih =>
    intro oi oj hij hoi hoj hpi hpj listed inv hun hr
    have hjs : j < ops.size := (Array.getElem?_eq_some_iff.1 hoj).1
    have h1 := List.all_eq_true.1 h j (List.mem_range.2 hjs)
    simp only [hoj, hpj, Bool.false_or] at h1
    obtain ⟨q, hq, hiq, hqj, hpq⟩ := filter_last (p := fun i => ((ops[i]?).map fun o => !pb o).getD false) hij (by simp [hoi, hpi])
    have hl : lastMove6 pb ops j = some q := hq
    rw [hl] at h1
    obtain ⟨_, oj', hoj', hall⟩ := mem_ready.1 hr
    rw [hoj] at hoj'; cases hoj'
    have hql := reach_listed inv.closed 8 j oj hoj hall h1
    have hqs : q < ops.size := by omega
    obtain ⟨oq, hoq⟩ : ∃ oq, ops[q]? = some oq := ⟨ops[q], Array.getElem?_eq_getElem hqs⟩
    have hpq' : pb oq = false := by
      simp only [hoq, Option.map_some, Option.getD_some] at hpq
      simpa using hpq
    rcases Nat.lt_or_ge i q with h2 | h2
    · -- q is listed, so the one ahead of it is
      have key : ∀ q, ∀ oq, ops[q]? = some oq → pb oq = false → i < q → listed.getD q false = true → False := by
        intro q
        induction q using Nat.strongRecOn with
        | _ q ihq =>
          intro oq hoq hpq hiq hql
          have hqs : q < ops.size := (Array.getElem?_eq_some_iff.1 hoq).1
          have h1 := List.all_eq_true.1 h q (List.mem_range.2 hqs)
          simp only [hoq, hpq, Bool.false_or] at h1
          obtain ⟨r, hr1, hir, hrq, hpr⟩ := filter_last (p := fun i => ((ops[i]?).map fun o => !pb o).getD false) hiq (by simp [hoi, hpi])
          have hl : lastMove6 pb ops q = some r := hr1
          rw [hl] at h1
          have hrl := reach_listed inv.closed 8 q oq hoq (inv.closed q oq hoq hql) h1
          rcases Nat.lt_or_ge i r with h3 | h3
          · have hrs : r < ops.size := by omega
            obtain ⟨or_, hor⟩ : ∃ or_, ops[r]? = some or_ := ⟨ops[r], Array.getElem?_eq_getElem hrs⟩
            refine ihq r hrq or_ hor ?_ h3 hrl
            simp only [hor, Option.map_some, Option.getD_some] at hpr
            simpa using hpr
          · have : r = i := by omega
            rw [this, getD_both hun] at hrl; cases hrl
      exact key q oq hoq hpq' h2 hql
    · have : q = i := by omega
      rw [this, getD_both hun] at hql; cases hql

/-- The region: its operations in the text's order. -/
theorem region_seq6 {id : Nat} {Q : Exit → Act → World → Prop} {a : Act} {w : World} (pb : Oper → Bool) (I : World → Prop) (hI : I { w with drawn := w.drawn + 1 }) {l : List Oper} (hm : P.follows .mixedOrders = true) (hB : Region.lexB .any l.toArray = true) (hM : movesB6 pb .any l.toArray = true)
    (h : ∀ w1, w1 = { w with drawn := w.drawn + 1 } → seqE6 pb P l.toArray (fun w' => ∃ t : In I, w' = t.w) (fun a' w' => Q .normal a' w') l a w1) : (Code.region id l.toArray true).wp P Q a w := by
  simp only [Region.lexB, Bool.and_eq_true] at hB
  refine wp_region_any hm ?_
  refine wpAny_of_anyE6 (pb := pb) (C := fun w' => ∃ t : In I, w' = t.w) (Q := fun a' w' => Q .normal a' w') (fun _ _ _ h => h) _ _ _ _ ⟨⟨_, hI⟩, rfl⟩ ?_
  have inv0 : HeadInv .any l.toArray l.toArray.size (Array.replicate l.toArray.size false) :=
    ⟨by simp, fun j oj _ hl => (by rw [getD_replicate_false] at hl; cases hl), fun t h1 h2 => by omega⟩
  have := anyE_lex6 (C := fun w' => ∃ t : In I, w' = t.w) (md := .any) (Q := fun a' w' => Q .normal a' w') hB.1 (chain_of6 hM) l 0 (Array.replicate l.toArray.size false) a _ ⟨⟨_, hI⟩, rfl⟩ (by simp) inv0 (fun m hm => by omega) (by simpa using hB.2) (h _ rfl)
  simpa using this
/-- One operation that only reckons, by the quiet walk. -/
theorem seq_plain6 {Q : Act → World → Prop} {o : Oper} {l : List Oper} {a : Act} {w : World} (hp : pb o = true) (hp2 : plainB o = true) (h : wpQuiet P ops C (fun a' => seqE6 pb P ops C Q l a' w) [o] a) : seqE6 pb P ops C Q (o :: l) a w := by
  unfold wpQuiet at h
  split at h
  · rename_i hw
    obtain ⟨v, h1, h2⟩ := h
    refine .inl ⟨v, .inr ⟨hw, hp, fun w' hc => ?_⟩, h2⟩
    have h3 := h1 w' hc
    unfold Oper.quietAt at h3
    have h4 := plain_no_enter (P := P) hp2 a.eval w'
    generalize (execOp a.eval o).run P w' = r at h3 h4
    match r, h3 with
    | .ok (.value _) _, hr => obtain ⟨e1, e2⟩ := hr; rw [e1, e2]; exact .inl rfl
    | .ok .skip _, hr => obtain ⟨e1, e2⟩ := hr; rw [e1]; exact .inr ⟨rfl, e2⟩
    | .ok (.enter f args) w1, _ => exact absurd rfl (h4 f args w1)
  · rename_i hw
    exact .inl ⟨undef, .inl ⟨by simpa using hw, rfl⟩, h⟩
/-- One operation that moves the world on, by the usual walk. -/
theorem seq_move6 {Q : Act → World → Prop} {o : Oper} {l : List Oper} {a : Act} {w : World} (hp : pb o = false) (hw : Region.wanted o (yielded ops a.tmps) = true)
    (h : wpList P ops (goOn C o.dst a (seqE6 pb P ops C Q l)) [o] a w) : seqE6 pb P ops C Q (o :: l) a w := by
  unfold wpList at h
  rw [if_pos hw] at h
  rcases h with h | ⟨_, a', w', hl⟩
  · refine .inr ⟨hw, hp, ?_⟩
    unfold Oper.wp at h
    have key : ∀ {v : Value} {w' : World}, goOn C o.dst a (seqE6 pb P ops C Q l) .normal (a.put o.dst v) w' → C w' ∧ seqE6 pb P ops C Q l (a.put o.dst v) w' := fun ⟨_, _, h2, h3⟩ => ⟨h2, h3⟩
    generalize (execOp a.eval o).run P w = r at h
    match r, h with
    | .ok (.value _) _, hr => exact key hr
    | .ok .skip _, hr => exact key hr
    | .ok (.enter _ _) _, hr =>
      refine Calls.mono hr fun e w'' he => ?_
      cases e with
      | returned v => exact ⟨v, rfl, key he⟩
      | panicked _ => exact he.elim
      | outgrown => obtain ⟨_, _, hf⟩ := he; exact hf.elim
    | .ok (.defer d) _, hr =>
      obtain ⟨v, h1, _⟩ := hr
      have h2 := congrArg Act.defers h1
      simp only [put_defers] at h2
      have := congrArg List.length h2
      simp at this
    | .ok (.row _ _) _, hr => exact Rows.mono hr fun v w'' h => key h
    | .halt (.panic _) _, hr => exact hr.elim
  · exact hl.elim
/-- An operation that is passed over. -/
theorem seq_skip6 {Q : Act → World → Prop} {o : Oper} {l : List Oper} {a : Act} {w : World} (hw : Region.wanted o (yielded ops a.tmps) = false) (h : seqE6 pb P ops C Q l (a.put o.dst undef) w) : seqE6 pb P ops C Q (o :: l) a w :=
  .inl ⟨undef, .inl ⟨hw, rfl⟩, h⟩
theorem seq_named6 {Q : Act → World → Prop} {l : List Oper} {a : Act} {w : World} (h : ∀ w2, w2 = w → seqE6 pb P ops C Q l a w2) : seqE6 pb P ops C Q l a w := h w rfl
theorem seq_nil6 {Q : Act → World → Prop} {a : Act} {w : World} (h : Q a w) : seqE6 pb P ops C Q [] a w := h
end
end Pg
namespace Pg
open Go Go.RowKit Go.Sort
theorem kept_ext1 (w : World) (p : Regrown) : Kept w (ext w p) := below_ext w p
theorem calls_same {P : Program} {f : FuncId} {args : Array Value} {w : World} {v v' : Value} {R R' : World → Prop} (h : Calls P f args w fun e w2 => e = .returned v ∧ R w2) (h' : Calls P f args w fun e w2 => e = .returned v' ∧ R' w2) (hi : P.inits.idxOf? f = none) : v = v' := by
  obtain ⟨n, u, w1, e1, r1⟩ := (h.mono (R' := fun | .returned u, _ => u = v | _, _ => False) fun e w2 ⟨he, _⟩ => by subst he; rfl).done hi
  obtain ⟨m, u', w2, e2, r2⟩ := (h'.mono (R' := fun | .returned u, _ => u = v' | _, _ => False) fun e w2 ⟨he, _⟩ => by subst he; rfl).done hi
  have a := runN_ended e1 m
  have b := runN_ended e2 n
  rw [Nat.add_comm, a] at b
  injection b with ho hw
  injection ho with hv
  rw [← r1, ← r2, hv]
section
variable {pb : Oper → Bool} {P : Program} {ops : Array Oper} {md : Region.Mode} {C : World → Prop}
def quietU (pb : Oper → Bool) (P : Program) (ops : Array Oper) (C : World → Prop) (o : Oper) (v : Value) (a : Act) : Prop :=
  (Region.wanted o (yielded ops a.tmps) = false ∧ v = undef) ∨
  (Region.wanted o (yielded ops a.tmps) = true ∧ pb o = true ∧ ∀ w, C w → ((execOp a.eval o).run P w = .ok (.value v) w ∨ ((execOp a.eval o).run P w = .ok .skip w ∧ v = undef))) ∨
  (Region.wanted o (yielded ops a.tmps) = true ∧ pb o = true ∧ ∃ f args, P.inits.idxOf? f = none ∧ (∀ w, (execOp a.eval o).run P w = .ok (.enter f args) w) ∧ ∀ w, C w → Calls P f args w fun e w2 => e = .returned v ∧ C w2 ∧ Kept w w2)
theorem quietU_uniq {o : Oper} {v v' : Value} {a : Act} {w : World} (hw : C w) (h : quietU pb P ops C o v a) (h' : quietU pb P ops C o v' a) : v = v' := by
  rcases h with ⟨h1, rfl⟩ | ⟨h1, _, h2⟩ | ⟨h1, _, f, args, hi, h2, h3⟩ <;> rcases h' with ⟨h1', rfl⟩ | ⟨h1', _, h2'⟩ | ⟨h1', _, f', args', hi', h2', h3'⟩
  · rfl
  · rw [h1] at h1'; cases h1'
  · rw [h1] at h1'; cases h1'
  · rw [h1] at h1'; cases h1'
  · rcases h2 w hw with e | ⟨e, rfl⟩ <;> rcases h2' w hw with e' | ⟨e', rfl⟩
    · rw [e] at e'; injection e' with e' _; injection e'
    · rw [e] at e'; injection e' with e' _; cases e'
    · rw [e] at e'; injection e' with e' _; cases e'
    · rfl
  · have e' := h2' w
    rcases h2 w hw with e | ⟨e, _⟩ <;> (rw [e] at e'; injection e' with e' _; cases e')
  · rw [h1] at h1'; cases h1'
  · have e := h2 w
    rcases h2' w hw with e' | ⟨e', _⟩ <;> (rw [e] at e'; injection e' with e' _; cases e')
  · have e := h2 w
    rw [h2' w] at e
    injection e with e _
    injection e with e1 e2
    subst e1 e2
    exact calls_same (h3 w hw) (h3' w hw) hi
theorem quietU_same {o : Oper} {v : Value} {a a' : Act} (he : execOp a'.eval o = execOp a.eval o) (hw : Region.wanted o (yielded ops a'.tmps) = Region.wanted o (yielded ops a.tmps)) (h : quietU pb P ops C o v a) : quietU pb P ops C o v a' := by
  unfold quietU at *; rw [he, hw]; exact h
def stepU (pb : Oper → Bool) (P : Program) (ops : Array Oper) (C : World → Prop) (o : Oper) (K : Act → World → Prop) (a : Act) (w : World) : Prop :=
  (∃ v, quietU pb P ops C o v a ∧ K (a.put o.dst v) w) ∨
  (Region.wanted o (yielded ops a.tmps) = true ∧ pb o = false ∧ ∀ w', C w' → Kept w w' → callUpon P C (fun v w2 => K (a.put o.dst v) w2) ((execOp a.eval o).run P w'))
def anyU (pb : Oper → Bool) (P : Program) (md : Region.Mode) (ops : Array Oper) (C : World → Prop) (Q : Act → World → Prop) : Nat → Array Bool → Act → World → Prop
  | 0, listed, a, w => Region.ready md ops listed = [] ∧ ∀ w', C w' → Kept w w' → Q a w'
  | n + 1, listed, a, w => (Region.ready md ops listed = [] → ∀ w', C w' → Kept w w' → Q a w') ∧ ∀ i ∈ Region.ready md ops listed, ∀ o, ops[i]? = some o → stepU pb P ops C o (anyU pb P md ops C Q n (listed.setIfInBounds i true)) a w
theorem stepU_up {o : Oper} {a : Act} {w w2 : World} {K : Act → World → Prop} (hk : Kept w w2) (hK : ∀ a w w2, Kept w w2 → K a w → K a w2) (h : stepU pb P ops C o K a w) : stepU pb P ops C o K a w2 := by
  rcases h with ⟨v, hv, h⟩ | ⟨h1, h2, h⟩
  · exact .inl ⟨v, hv, hK _ _ _ hk h⟩
  · exact .inr ⟨h1, h2, fun w' hc hk' => h w' hc (hk.trans hk')⟩
theorem anyU_up {Q : Act → World → Prop} : ∀ (n : Nat) (listed : Array Bool) (a : Act) (w w2 : World), Kept w w2 → anyU pb P md ops C Q n listed a w → anyU pb P md ops C Q n listed a w2
  | 0, _, _, _, _, hk, h => ⟨h.1, fun w' hc hk' => h.2 w' hc (hk.trans hk')⟩
  | n + 1, _, _, _, _, hk, h => ⟨fun h0 w' hc hk' => h.1 h0 w' hc (hk.trans hk'), fun i hi o ho => stepU_up hk (fun a w w2 => anyU_up n _ a w w2) (h.2 i hi o ho)⟩
theorem stepU_mono {o : Oper} {a : Act} {w : World} {K K' : Act → World → Prop} (hw : C w) (h : ∀ a w, C w → K a w → K' a w) (hs : stepU pb P ops C o K a w) : stepU pb P ops C o K' a w := by
  rcases hs with ⟨v, h1, h2⟩ | ⟨h1, h2, hm⟩
  · exact .inl ⟨v, h1, h _ _ hw h2⟩
  · exact .inr ⟨h1, h2, fun w' hc hk => callUpon_mono (P := P) (C := C) (fun v w2 hc2 hk2 => h _ _ hc2 hk2) (hm w' hc hk)⟩
theorem anyU_first {Q : Act → World → Prop} {i : Nat} {oi : Oper} (hi : ops[i]? = some oi) (hsel : ∀ (j : Nat) (o : Oper) cs b, ops[j]? = some o → o.op ≠ .select cs b) (hch : Chain6 pb md ops) :
    ∀ (n : Nat) (listed : Array Bool) (a : Act) (w : World), C w → HeadInv md ops ops.size listed → (∀ m, m < i → listed.getD m false = true) →
      (∀ j oj, ops[j]? = some oj → j ≠ i → listed.getD j true = false → (∀ e ∈ oj.after, Region.binds md e = true → e.on ≠ i) → oi.apart ops oj = true) →
      i ∈ Region.ready md ops listed → stepU pb P ops C oi (anyU pb P md ops C Q n (listed.setIfInBounds i true)) a w → anyU pb P md ops C Q (n + 1) listed a w := by
  intro n
  induction n with
  | zero =>
    intro listed a w hw inv hlow hfree hr H
    refine ⟨fun h => (by rw [h] at hr; cases hr), fun j hj oj hoj => ?_⟩
    by_cases hji : j = i
    · subst hji; rw [hoj] at hi; cases hi; exact H
    · exfalso
      have hnil : Region.ready md ops (listed.setIfInBounds i true) = [] := by
        rcases H with ⟨v, _, h⟩ | ⟨_, _, hm⟩
        · exact h.1
        · obtain ⟨v, w', _, h⟩ := callUpon_some (hm w hw (Kept.refl w))
          exact h.1
      have := ready_mono hj hji
      rw [hnil] at this
      cases this
  | succ n ih =>
    intro listed a w hw inv hlow hfree hr H
    refine ⟨fun h => (by rw [h] at hr; cases hr), fun j hj oj hoj => ?_⟩
    by_cases hji : j = i
    · subst hji; rw [hoj] at hi; cases hi; exact H
    have hun := (mem_ready.1 hr).1
    obtain ⟨hjun, oj', hoj', hall⟩ := mem_ready.1 hj
    rw [hoj] at hoj'; cases hoj'
    have hisz : i < ops.size := (Array.getElem?_eq_some_iff.1 hi).1
    have hjsz : j < ops.size := (Array.getElem?_eq_some_iff.1 hoj).1
    have hij : i < j := by
      rcases Nat.lt_or_ge i j with h | h
      · exact h
      · have h1 := hlow j (by omega)
        rw [getD_both hjun] at h1; cases h1
    have hnot : ∀ e ∈ oj.after, Region.binds md e = true → e.on ≠ i := fun e he hb heq => by
      have h1 := hall e he hb
      rw [heq, getD_both hun] at h1; cases h1
    have hap := hfree j oj hoj hji hjun hnot
    obtain ⟨h1, h2, h3⟩ := Oper.apart_spec hap
    have ej : ∀ v, execOp (a.put oi.dst v).eval oj = execOp a.eval oj := fun v => execOp_put oj (fun cs b => hsel j oj cs b hoj) a oi.dst v h1
    have wj : ∀ v, Region.wanted oj (yielded ops (a.put oi.dst v).tmps) = Region.wanted oj (yielded ops a.tmps) := fun v => wanted_put oj a oi.dst v h1
    have ei : ∀ u, execOp (a.put oj.dst u).eval oi = execOp a.eval oi := fun u => execOp_put oi (fun cs b => hsel i oi cs b hi) a oj.dst u h3
    have wi : ∀ u, Region.wanted oi (yielded ops (a.put oj.dst u).tmps) = Region.wanted oi (yielded ops a.tmps) := fun u => wanted_put oi a oj.dst u h3
    have inv' : HeadInv md ops ops.size (listed.setIfInBounds j true) := inv.set hj hjsz
    have hlow' : ∀ m, m < i → (listed.setIfInBounds j true).getD m false = true := fun m hm => getD_set_true (hlow m hm)
    have hfree' : ∀ k ok, ops[k]? = some ok → k ≠ i → (listed.setIfInBounds j true).getD k true = false → (∀ e ∈ ok.after, Region.binds md e = true → e.on ≠ i) → oi.apart ops ok = true := fun k ok hk hki hun hno => by
      refine hfree k ok hk hki ?_ hno
      by_cases hjk : j = k
      · subst hjk; exact hjun
      · rwa [getD_set_ne true hjk] at hun
    have hr' : i ∈ Region.ready md ops (listed.setIfInBounds j true) := ready_mono hr (Ne.symm hji)
    have hcomm : (listed.setIfInBounds i true).setIfInBounds j true = (listed.setIfInBounds j true).setIfInBounds i true := Array.setIfInBounds_comm _ _ (Ne.symm hji)
    have next : ∀ {v : Value} {w' : World}, anyU pb P md ops C Q (n + 1) (listed.setIfInBounds i true) (a.put oi.dst v) w' → stepU pb P ops C oj (anyU pb P md ops C Q n ((listed.setIfInBounds j true).setIfInBounds i true)) (a.put oi.dst v) w' := fun h => by
      have := h.2 j (ready_mono hj hji) oj hoj
      rwa [hcomm] at this
    rcases H with ⟨v, hv, hK⟩ | ⟨hwi, hpi, hm⟩
    · rcases next hK with ⟨u, hu, hK'⟩ | ⟨hwj, hpj, hm'⟩
      · refine .inl ⟨u, quietU_same (ej v).symm (wj v).symm hu, ih _ _ _ hw inv' hlow' hfree' hr' (.inl ⟨v, quietU_same (ei u) (wi u) hv, ?_⟩)⟩
        rw [Act.put_comm a v u h2] at hK'
        exact hK'
      · refine .inr ⟨by rw [← wj v]; exact hwj, hpj, fun w' hc hk => ?_⟩
        have h5 := hm' w' hc hk
        rw [ej v] at h5
        refine callUpon_mono (P := P) (C := C) (fun u w2 hc2 hk2 => ih _ _ _ hc2 inv' hlow' hfree' hr' (.inl ⟨v, quietU_same (ei u) (wi u) hv, ?_⟩)) h5
        rw [Act.put_comm a v u h2] at hk2
        exact hk2
    · have still : ∀ {v : Value} {w' : World}, anyU pb P md ops C Q (n + 1) (listed.setIfInBounds i true) (a.put oi.dst v) w' → ∃ u, quietU pb P ops C oj u a ∧ anyU pb P md ops C Q n ((listed.setIfInBounds j true).setIfInBounds i true) ((a.put oi.dst v).put oj.dst u) w' := fun {v w'} h => by
        rcases next h with ⟨u, hu, hK'⟩ | ⟨_, hpj, _⟩
        · exact ⟨u, quietU_same (ej v).symm (wj v).symm hu, hK'⟩
        · exact absurd hj (hch i j oi oj hij hi hoj hpi hpj listed inv hun)
      obtain ⟨v0, w0, hc0, hK0⟩ := callUpon_some (hm w hw (Kept.refl w))
      obtain ⟨u, hu, _⟩ := still hK0
      refine .inl ⟨u, hu, ih _ _ _ hw inv' hlow' hfree' hr' (.inr ⟨by rw [wi u]; exact hwi, hpi, fun w' hc hk => ?_⟩)⟩
      rw [ei u]
      refine callUpon_mono (P := P) (C := C) (fun v w2 hc2 hk2 => ?_) (hm w' hc hk)
      obtain ⟨u', hu', hk'⟩ := still hk2
      rw [quietU_uniq hw hu hu', ← Act.put_comm a v u' h2]
      exact hk'
/-- The text's order. -/
def seqU (pb : Oper → Bool) (P : Program) (ops : Array Oper) (C : World → Prop) (Q : Act → World → Prop) : List Oper → Act → World → Prop
  | [], a, w => ∀ w', C w' → Kept w w' → Q a w'
  | o :: l, a, w => stepU pb P ops C o (seqU pb P ops C Q l) a w
theorem anyU_lex {Q : Act → World → Prop} (hs : Region.noSelect ops = true) (hch : Chain6 pb md ops) : ∀ (l : List Oper) (k : Nat) (listed : Array Bool) (a : Act) (w : World), C w → (∀ j, l[j]? = ops[k + j]?) → HeadInv md ops ops.size listed → (∀ m, m < k → listed.getD m false = true) →
    Region.lexFrom md ops l.length k listed = true → seqU pb P ops C Q l a w → anyU pb P md ops C Q l.length listed a w
  | [], _, _, _, _, _, _, _, _, hB, h => ⟨by simpa [Region.lexFrom] using hB, h⟩
  | o :: l, k, listed, a, w, hw, hl, inv, hlow, hB, h => by
    have h0 : ops[k]? = some o := by simpa using (hl 0).symm
    have hk : k < ops.size := (Array.getElem?_eq_some_iff.1 h0).1
    simp only [List.length_cons, Region.lexFrom, Bool.and_eq_true] at hB
    obtain ⟨⟨hr, hf⟩, hB'⟩ := hB
    have hr : k ∈ Region.ready md ops listed := by simpa using hr
    refine anyU_first h0 (Region.noSelect_spec hs) hch l.length listed a w hw inv hlow (Region.free_spec h0 hf) hr (stepU_mono hw (fun a' w' hw' h' => ?_) h)
    refine anyU_lex hs hch l (k + 1) _ a' w' hw' (fun j => by have := hl (j + 1); simpa [Nat.add_assoc, Nat.add_comm 1 j] using this) (inv.set hr hk) (fun m hm => ?_) hB' h'
    rcases Nat.lt_or_ge m k with h5 | h5
    · exact getD_set_true (hlow m h5)
    · have : m = k := by omega
      subst this
      have : m < listed.size := by rw [inv.size]; exact hk
      simp [this]
theorem wpOp_of_stepU {i : Nat} {o : Oper} (hi : ops[i]? = some o) {a : Act} {w : World} {K K' : Act → World → Prop} {Q' : Exit → Act → World → Prop} (hw : C w) (hup : ∀ a w w2, Kept w w2 → K a w → K a w2) (h : ∀ a w, C w → K a w → K' a w) (hs : stepU pb P ops C o K a w) : wpOp P ops Q' i K' a w := by
  unfold wpOp
  simp only [hi]
  rcases hs with ⟨v, hv, hK⟩ | ⟨h1, _, hm⟩
  · rcases hv with ⟨h1, rfl⟩ | ⟨h1, _, h2⟩ | ⟨h1, _, f, args, _, h2, h3⟩
    · simp only [h1, Bool.false_eq_true, if_false]; exact h _ _ hw hK
    · simp only [h1, if_true]
      left
      unfold Oper.wp
      rcases h2 w hw with e | ⟨e, rfl⟩ <;> rw [e]
      · exact h _ _ hw hK
      · exact h _ _ hw hK
    · simp only [h1, if_true]
      left
      unfold Oper.wp
      rw [h2 w]
      exact Calls.mono (h3 w hw) fun e w'' ⟨he, hc, hk⟩ => by subst he; exact h _ _ hc (hup _ _ _ hk hK)
  · have h2 := hm w hw (Kept.refl w)
    simp only [h1, if_true]
    left
    unfold Oper.wp
    generalize (execOp a.eval o).run P w = r at h2
    match r, h2 with
    | .ok (.value _) _, hr => exact h _ _ hr.1 hr.2
    | .ok .skip _, hr => exact h _ _ hr.1 hr.2
    | .ok (.enter _ _) _, hr => exact Calls.mono hr fun e w'' ⟨v, he, hc, hk⟩ => by subst he; exact h _ _ hc hk
    | .ok (.row _ _) _, hr => exact Rows.mono hr fun v w'' ⟨hc, hk⟩ => h _ _ hc hk
theorem wpAny_of_anyU {Q : Act → World → Prop} {Q' : Exit → Act → World → Prop} (hQ : ∀ a w, C w → Q a w → Q' .normal a w) : ∀ (n : Nat) (listed : Array Bool) (a : Act) (w : World), C w → anyU pb P md ops C Q n listed a w → wpAny P md ops Q' n listed a w
  | 0, _, _, _, hw, h => ⟨h.1, hQ _ _ hw (h.2 _ hw (Kept.refl _))⟩
  | n + 1, _, _, _, hw, h => ⟨fun h0 => hQ _ _ hw (h.1 h0 _ hw (Kept.refl _)), fun i hi => by
    obtain ⟨_, o, ho, _⟩ := mem_ready.1 hi
    exact wpOp_of_stepU ho hw (fun a w w2 => anyU_up n _ a w w2) (fun a' w' hw' => wpAny_of_anyU hQ n _ a' w' hw') (h.2 i hi o ho)⟩
/-- The region: its operations in the text's order. -/
theorem region_seqU {id : Nat} {Q : Exit → Act → World → Prop} {a : Act} {w : World} (pb : Oper → Bool) (I : World → Prop) (hI : I { w with drawn := w.drawn + 1 }) {l : List Oper} (hm : P.follows .mixedOrders = true) (hB : Region.lexB .any l.toArray = true) (hM : movesB6 pb .any l.toArray = true)
    (h : ∀ w1, w1 = { w with drawn := w.drawn + 1 } → seqU pb P l.toArray (fun w' => ∃ t : In I, w' = t.w) (fun a' w' => Q .normal a' w') l a w1) : (Code.region id l.toArray true).wp P Q a w := by
  simp only [Region.lexB, Bool.and_eq_true] at hB
  refine wp_region_any hm ?_
  refine wpAny_of_anyU (pb := pb) (C := fun w' => ∃ t : In I, w' = t.w) (Q := fun a' w' => Q .normal a' w') (fun _ _ _ h => h) _ _ _ _ ⟨⟨_, hI⟩, rfl⟩ ?_
  have inv0 : HeadInv .any l.toArray l.toArray.size (Array.replicate l.toArray.size false) :=
    ⟨by simp, fun j oj _ hl => (by rw [getD_replicate_false] at hl; cases hl), fun t h1 h2 => by omega⟩
  have := anyU_lex (C := fun w' => ∃ t : In I, w' = t.w) (md := .any) (Q := fun a' w' => Q .normal a' w') hB.1 (chain_of6 hM) l 0 (Array.replicate l.toArray.size false) a _ ⟨⟨_, hI⟩, rfl⟩ (by simp) inv0 (fun m hm => by omega) (by simpa using hB.2) (h _ rfl)
  simpa using this
/-- One operation that only reckons, by the quiet walk. -/
theorem seqU_plain {Q : Act → World → Prop} {o : Oper} {l : List Oper} {a : Act} {w : World} (hp : pb o = true) (hp2 : plainB o = true) (h : wpQuiet P ops C (fun a' => seqU pb P ops C Q l a' w) [o] a) : seqU pb P ops C Q (o :: l) a w := by
  unfold wpQuiet at h
  split at h
  · rename_i hw
    obtain ⟨v, h1, h2⟩ := h
    refine .inl ⟨v, .inr (.inl ⟨hw, hp, fun w' hc => ?_⟩), h2⟩
    have h3 := h1 w' hc
    unfold Oper.quietAt at h3
    have h4 := plain_no_enter (P := P) hp2 a.eval w'
    generalize (execOp a.eval o).run P w' = r at h3 h4
    match r, h3 with
    | .ok (.value _) _, hr => obtain ⟨e1, e2⟩ := hr; rw [e1, e2]; exact .inl rfl
    | .ok .skip _, hr => obtain ⟨e1, e2⟩ := hr; rw [e1]; exact .inr ⟨rfl, e2⟩
    | .ok (.enter f args) w1, _ => exact absurd rfl (h4 f args w1)
  · rename_i hw
    exact .inl ⟨undef, .inl ⟨by simpa using hw, rfl⟩, h⟩
/-- A call that hands back v in every world of the class. -/
theorem seqU_call {Q : Act → World → Prop} {o : Oper} {l : List Oper} {a : Act} {w : World} (f : FuncId) (args : Array Operand) (ats : Array TypeId) (hp : pb o = true) (hw : Region.wanted o (yielded ops a.tmps) = true) (ho : o.op = .call { callee := .value (.func f), args := args, argTypes := ats })
    (hi : P.inits.idxOf? f = none) (he : ∀ args w, (callFunc f args).run P w = .ok (.enter f args) w) (v : Value) (hc : ∀ w, C w → Calls P f (args.map a.eval) w fun e w2 => e = .returned v ∧ C w2 ∧ Kept w w2)
    (h : seqU pb P ops C Q l (a.put o.dst v) w) : seqU pb P ops C Q (o :: l) a w := by
  refine .inl ⟨v, .inr (.inr ⟨hw, hp, f, args.map a.eval, hi, fun w => ?_, hc⟩), h⟩
  simp [execOp, ho, resolve, Deferred.ofValue, invoke, Act.eval, he]
/-- One operation that moves the world on, by the usual walk. -/
theorem seqU_move {Q : Act → World → Prop} {o : Oper} {l : List Oper} {a : Act} {w : World} (hp : pb o = false) (hw : Region.wanted o (yielded ops a.tmps) = true)
    (h : ∀ w', C w' → Kept w w' → wpList P ops (goOn C o.dst a (seqU pb P ops C Q l)) [o] a w') : seqU pb P ops C Q (o :: l) a w := by
  refine .inr ⟨hw, hp, fun w' hc9 hk9 => ?_⟩
  replace h := h w' hc9 hk9
  unfold wpList at h
  rw [if_pos hw] at h
  rcases h with h | ⟨_, a', w', hl⟩
  · skip
    unfold Oper.wp at h
    have key : ∀ {v : Value} {w' : World}, goOn C o.dst a (seqU pb P ops C Q l) .normal (a.put o.dst v) w' → C w' ∧ seqU pb P ops C Q l (a.put o.dst v) w' := fun ⟨_, _, h2, h3⟩ => ⟨h2, h3⟩
    generalize (execOp a.eval o).run P w' = r at h ⊢
    match r, h with
    | .ok (.value _) _, hr => exact key hr
    | .ok .skip _, hr => exact key hr
    | .ok (.enter _ _) _, hr =>
      refine Calls.mono hr fun e w'' he => ?_
      cases e with
      | returned v => exact ⟨v, rfl, key he⟩
      | panicked _ => exact he.elim
      | outgrown => obtain ⟨_, _, hf⟩ := he; exact hf.elim
    | .ok (.defer d) _, hr =>
      obtain ⟨v, h1, _⟩ := hr
      have h2 := congrArg Act.defers h1
      simp only [put_defers] at h2
      have := congrArg List.length h2
      simp at this
    | .ok (.row _ _) _, hr => exact Rows.mono hr fun v w'' h => key h
    | .halt (.panic _) _, hr => exact hr.elim
  · exact hl.elim
/-- An operation that is passed over. -/
theorem seqU_skip {Q : Act → World → Prop} {o : Oper} {l : List Oper} {a : Act} {w : World} (hw : Region.wanted o (yielded ops a.tmps) = false) (h : seqU pb P ops C Q l (a.put o.dst undef) w) : seqU pb P ops C Q (o :: l) a w :=
  .inl ⟨undef, .inl ⟨hw, rfl⟩, h⟩
theorem seqU_nil {Q : Act → World → Prop} {a : Act} {w : World} (h : ∀ w', C w' → Kept w w' → Q a w') : seqU pb P ops C Q [] a w := h
end
end Pg
namespace Pg
open Go Go.RowKit Go.Sort
def pbA (o : Oper) : Bool := plainB o || (match o.op with | .alloc _ => true | _ => false)
section
variable {pb : Oper → Bool} {P : Program} {ops : Array Oper} {md : Region.Mode} {C : World → Prop}
/-- One step of the head: a quiet one, or one that moves the world on to a later one. -/
def stepH (pb : Oper → Bool) (P : Program) (ops : Array Oper) (C : World → Prop) (o : Oper) (K : Act → World → Prop) (a : Act) (w : World) : Prop :=
  (∃ v, quietU pb P ops C o v a ∧ K (a.put o.dst v) w) ∨
  (Region.wanted o (yielded ops a.tmps) = true ∧ pb o = false ∧ ∀ w', C w' → Kept w w' → callUpon P C (fun v w2 => Kept w' w2 ∧ K (a.put o.dst v) w2) ((execOp a.eval o).run P w'))
def anyH (pb : Oper → Bool) (P : Program) (md : Region.Mode) (ops : Array Oper) (C : World → Prop) (n : Nat) (L : Array Bool → Act → World → Prop) : Nat → Array Bool → Act → World → Prop
  | 0, listed, a, w => ∀ w', C w' → Kept w w' → L listed a w'
  | f + 1, listed, a, w => Region.ready md ops listed ≠ [] ∧ ∀ i ∈ Region.ready md ops listed, i < n ∧ ∀ o, ops[i]? = some o → stepH pb P ops C o (anyH pb P md ops C n L f (listed.setIfInBounds i true)) a w
theorem stepH_up {o : Oper} {a : Act} {w w2 : World} {K : Act → World → Prop} (hk : Kept w w2) (hK : ∀ a w w2, Kept w w2 → K a w → K a w2) (h : stepH pb P ops C o K a w) : stepH pb P ops C o K a w2 := by
  rcases h with ⟨v, hv, h⟩ | ⟨h1, h2, h⟩
  · exact .inl ⟨v, hv, hK _ _ _ hk h⟩
  · exact .inr ⟨h1, h2, fun w' hc hk' => h w' hc (hk.trans hk')⟩
theorem anyH_up {n : Nat} {L : Array Bool → Act → World → Prop} : ∀ (f : Nat) (listed : Array Bool) (a : Act) (w w2 : World), Kept w w2 → anyH pb P md ops C n L f listed a w → anyH pb P md ops C n L f listed a w2
  | 0, _, _, _, _, hk, h => fun w' hc hk' => h w' hc (hk.trans hk')
  | f + 1, _, _, _, _, hk, h => ⟨h.1, fun i hi => ⟨(h.2 i hi).1, fun o ho => stepH_up hk (fun a w w2 => anyH_up f _ a w w2) ((h.2 i hi).2 o ho)⟩⟩
theorem stepH_mono {o : Oper} {a : Act} {w : World} {K K' : Act → World → Prop} (hw : C w) (h : ∀ a w, C w → K a w → K' a w) (hs : stepH pb P ops C o K a w) : stepH pb P ops C o K' a w := by
  rcases hs with ⟨v, h1, h2⟩ | ⟨h1, h2, hm⟩
  · exact .inl ⟨v, h1, h _ _ hw h2⟩
  · exact .inr ⟨h1, h2, fun w' hc hk => callUpon_mono (P := P) (C := C) (fun v w2 hc2 hk2 => ⟨hk2.1, h _ _ hc2 hk2.2⟩) (hm w' hc hk)⟩
theorem headInv_all {n : Nat} {listed : Array Bool} (inv : HeadInv md ops n listed) : HeadInv md ops ops.size listed := ⟨inv.size, inv.closed, fun t h1 h2 => by omega⟩
theorem anyH_first {n i : Nat} {oi : Oper} {L : Array Bool → Act → World → Prop} (hi : ops[i]? = some oi) (hsel : ∀ (j : Nat) (o : Oper) cs b, ops[j]? = some o → o.op ≠ .select cs b) (hch : Chain6 pb md ops)
    (hs : Region.sinkB md ops (n + 1) = true) (hc1 : Region.chainB md ops (n + 1) = true) (hn1 : n + 1 < ops.size) (hin : i < n) (hdone : ∀ listed a w, L listed a w → ∀ j ∈ Region.ready md ops listed, n < j) :
    ∀ (f : Nat) (listed : Array Bool) (a : Act) (w : World), C w → HeadInv md ops (n + 1) listed → listed.getD n false = true → (∀ m, m < i → listed.getD m false = true) →
      (∀ j oj, ops[j]? = some oj → j ≠ i → listed.getD j true = false → (∀ e ∈ oj.after, Region.binds md e = true → e.on ≠ i) → oi.apart ops oj = true) →
      i ∈ Region.ready md ops listed → stepH pb P ops C oi (anyH pb P md ops C n L f (listed.setIfInBounds i true)) a w → anyH pb P md ops C n L (f + 1) listed a w := by
  intro f
  induction f with
  | zero =>
    intro listed a w hw inv hnl hlow hfree hr H
    have hun := (mem_ready.1 hr).1
    refine ⟨fun h => (by rw [h] at hr; cases hr), fun j hj => ?_⟩
    have hjn : j < n := by
      rcases Nat.lt_or_ge j (n + 1) with h | h
      · rcases Nat.lt_or_ge j n with h5 | h5
        · exact h5
        · have e : j = n := by omega
          subst e
          rw [getD_both (mem_ready.1 hj).1] at hnl; cases hnl
      · exact absurd hj (tail_waits hs hc1 hn1 inv _ i rfl (by omega) hun j h)
    refine ⟨hjn, fun oj hoj => ?_⟩
    by_cases hji : j = i
    · subst hji; rw [hoj] at hi; cases hi; exact H
    · exfalso
      have hr2 := ready_mono hj hji
      rcases H with ⟨v, _, h⟩ | ⟨_, _, hm⟩
      · have := hdone _ _ _ (h w hw (Kept.refl w)) j hr2; omega
      · obtain ⟨v, w', hc', h⟩ := callUpon_some (hm w hw (Kept.refl w))
        have := hdone _ _ _ (h.2 w' hc' (Kept.refl w')) j hr2; omega
  | succ f ih =>
    intro listed a w hw inv hnl hlow hfree hr H
    have hun := (mem_ready.1 hr).1
    refine ⟨fun h => (by rw [h] at hr; cases hr), fun j hj => ?_⟩
    have hjn : j < n := by
      rcases Nat.lt_or_ge j (n + 1) with h | h
      · rcases Nat.lt_or_ge j n with h5 | h5
        · exact h5
        · have e : j = n := by omega
          subst e
          rw [getD_both (mem_ready.1 hj).1] at hnl; cases hnl
      · exact absurd hj (tail_waits hs hc1 hn1 inv _ i rfl (by omega) hun j h)
    refine ⟨hjn, fun oj hoj => ?_⟩
    by_cases hji : j = i
    · subst hji; rw [hoj] at hi; cases hi; exact H
    obtain ⟨hjun, oj', hoj', hall⟩ := mem_ready.1 hj
    rw [hoj] at hoj'; cases hoj'
    have hij : i < j := by
      rcases Nat.lt_or_ge i j with h | h
      · exact h
      · have h1 := hlow j (by omega)
        rw [getD_both hjun] at h1; cases h1
    have hnot : ∀ e ∈ oj.after, Region.binds md e = true → e.on ≠ i := fun e he hb heq => by
      have h1 := hall e he hb
      rw [heq, getD_both hun] at h1; cases h1
    have hap := hfree j oj hoj hji hjun hnot
    obtain ⟨h1, h2, h3⟩ := Oper.apart_spec hap
    have ej : ∀ v, execOp (a.put oi.dst v).eval oj = execOp a.eval oj := fun v => execOp_put oj (fun cs b => hsel j oj cs b hoj) a oi.dst v h1
    have wj : ∀ v, Region.wanted oj (yielded ops (a.put oi.dst v).tmps) = Region.wanted oj (yielded ops a.tmps) := fun v => wanted_put oj a oi.dst v h1
    have ei : ∀ u, execOp (a.put oj.dst u).eval oi = execOp a.eval oi := fun u => execOp_put oi (fun cs b => hsel i oi cs b hi) a oj.dst u h3
    have wi : ∀ u, Region.wanted oi (yielded ops (a.put oj.dst u).tmps) = Region.wanted oi (yielded ops a.tmps) := fun u => wanted_put oi a oj.dst u h3
    have inv' : HeadInv md ops (n + 1) (listed.setIfInBounds j true) := inv.set hj (by omega)
    have hnl' : (listed.setIfInBounds j true).getD n false = true := getD_set_true hnl
    have hlow' : ∀ m, m < i → (listed.setIfInBounds j true).getD m false = true := fun m hm => getD_set_true (hlow m hm)
    have hfree' : ∀ k ok, ops[k]? = some ok → k ≠ i → (listed.setIfInBounds j true).getD k true = false → (∀ e ∈ ok.after, Region.binds md e = true → e.on ≠ i) → oi.apart ops ok = true := fun k ok hk hki hun hno => by
      refine hfree k ok hk hki ?_ hno
      by_cases hjk : j = k
      · subst hjk; exact hjun
      · rwa [getD_set_ne true hjk] at hun
    have hr' : i ∈ Region.ready md ops (listed.setIfInBounds j true) := ready_mono hr (Ne.symm hji)
    have hcomm : (listed.setIfInBounds i true).setIfInBounds j true = (listed.setIfInBounds j true).setIfInBounds i true := Array.setIfInBounds_comm _ _ (Ne.symm hji)
    have next : ∀ {v : Value} {w' : World}, anyH pb P md ops C n L (f + 1) (listed.setIfInBounds i true) (a.put oi.dst v) w' → stepH pb P ops C oj (anyH pb P md ops C n L f ((listed.setIfInBounds j true).setIfInBounds i true)) (a.put oi.dst v) w' := fun h => by
      have := (h.2 j (ready_mono hj hji)).2 oj hoj
      rwa [hcomm] at this
    rcases H with ⟨v, hv, hK⟩ | ⟨hwi, hpi, hm⟩
    · rcases next hK with ⟨u, hu, hK'⟩ | ⟨hwj, hpj, hm'⟩
      · refine .inl ⟨u, quietU_same (ej v).symm (wj v).symm hu, ih _ _ _ hw inv' hnl' hlow' hfree' hr' (.inl ⟨v, quietU_same (ei u) (wi u) hv, ?_⟩)⟩
        rw [Act.put_comm a v u h2] at hK'
        exact hK'
      · refine .inr ⟨by rw [← wj v]; exact hwj, hpj, fun w' hc hk => ?_⟩
        have h5 := hm' w' hc hk
        rw [ej v] at h5
        refine callUpon_mono (P := P) (C := C) (fun u w2 hc2 hk2 => ⟨hk2.1, ih _ _ _ hc2 inv' hnl' hlow' hfree' hr' (.inl ⟨v, quietU_same (ei u) (wi u) hv, ?_⟩)⟩) h5
        rw [← Act.put_comm a v u h2]
        exact hk2.2
    · have still : ∀ {v : Value} {w' : World}, anyH pb P md ops C n L (f + 1) (listed.setIfInBounds i true) (a.put oi.dst v) w' → ∃ u, quietU pb P ops C oj u a ∧ anyH pb P md ops C n L f ((listed.setIfInBounds j true).setIfInBounds i true) ((a.put oi.dst v).put oj.dst u) w' := fun {v w'} h => by
        rcases next h with ⟨u, hu, hK'⟩ | ⟨_, hpj, _⟩
        · exact ⟨u, quietU_same (ej v).symm (wj v).symm hu, hK'⟩
        · exact absurd hj (hch i j oi oj hij hi hoj hpi hpj listed (headInv_all inv) hun)
      obtain ⟨v0, w0, hc0, hK0⟩ := callUpon_some (hm w hw (Kept.refl w))
      obtain ⟨u, hu, _⟩ := still hK0.2
      refine .inl ⟨u, hu, ih _ _ _ hw inv' hnl' hlow' hfree' hr' (.inr ⟨by rw [wi u]; exact hwi, hpi, fun w' hc hk => ?_⟩)⟩
      rw [ei u]
      refine callUpon_mono (P := P) (C := C) (fun v w2 hc2 hk2 => ?_) (hm w' hc hk)
      obtain ⟨u', hu', hk'⟩ := still hk2.2
      rw [quietU_uniq hw hu hu', ← Act.put_comm a v u' h2]
      exact ⟨hk2.1, hk'⟩
/-- The text's order. -/
def seqH (pb : Oper → Bool) (P : Program) (ops : Array Oper) (C : World → Prop) (Q : Act → World → Prop) : List Oper → Act → World → Prop
  | [], a, w => ∀ w', C w' → Kept w w' → Q a w'
  | o :: l, a, w => stepH pb P ops C o (seqH pb P ops C Q l) a w
def lexHd (md : Region.Mode) (ops : Array Oper) (g n : Nat) : Nat → Nat → Array Bool → Bool
  | 0, _, listed => Region.seqB md ops g (n + 1) listed
  | f + 1, k, listed => (Region.ready md ops listed).contains k && Region.free md ops listed k && lexHd md ops g n f (k + 1) (listed.setIfInBounds k true)
theorem anyH_lex {n g : Nat} {Lq : Act → World → Prop} (hsel : Region.noSelect ops = true) (hch : Chain6 pb md ops) (hs : Region.sinkB md ops (n + 1) = true) (hc1 : Region.chainB md ops (n + 1) = true) (hn1 : n + 1 < ops.size) :
    ∀ (l : List Oper) (k : Nat) (listed : Array Bool) (a : Act) (w : World), C w → (∀ j, j < l.length → l[j]? = ops[k + j]?) → k + l.length = n → HeadInv md ops (n + 1) listed → listed.getD n false = true → (∀ m, m < k → listed.getD m false = true) →
    lexHd md ops g n l.length k listed = true → seqH pb P ops C Lq l a w → anyH pb P md ops C n (fun listed' a' w' => Region.seqB md ops g (n + 1) listed' = true ∧ Lq a' w') l.length listed a w
  | [], _, _, _, _, _, _, _, _, _, _, hB, h => fun w' hc hk => ⟨hB, h w' hc hk⟩
  | o :: l, k, listed, a, w, hw, hl, hkn, inv, hnl, hlow, hB, h => by
    have h0 : ops[k]? = some o := by simpa using (hl 0 (by simp)).symm
    simp only [List.length_cons] at hkn
    simp only [List.length_cons, lexHd, Bool.and_eq_true] at hB
    obtain ⟨⟨hr, hf⟩, hB'⟩ := hB
    have hr : k ∈ Region.ready md ops listed := by simpa using hr
    refine anyH_first h0 (Region.noSelect_spec hsel) hch hs hc1 hn1 (by omega) (fun listed' a' w' hL j hj => seqB_ready hL.1 j hj) l.length listed a w hw inv hnl hlow (Region.free_spec h0 hf) hr (stepH_mono hw (fun a' w' hw' h' => ?_) h)
    refine anyH_lex hsel hch hs hc1 hn1 l (k + 1) _ a' w' hw' (fun j hj => by have := hl (j + 1) (by simp; omega); simpa [Nat.add_assoc, Nat.add_comm 1 j] using this) (by omega) (inv.set hr (by omega)) (getD_set_true hnl) (fun m hm => ?_) hB' h'
    rcases Nat.lt_or_ge m k with h5 | h5
    · exact getD_set_true (hlow m h5)
    · have : m = k := by omega
      subst this
      have : m < listed.size := by rw [inv.size]; omega
      simp [this]
theorem wpOp_of_stepH {i : Nat} {o : Oper} (hi : ops[i]? = some o) {a a2 : Act} {w : World} {K K' : Act → World → Prop} {Q' : Exit → Act → World → Prop} (hw : C w) (he : execOp a2.eval o = execOp a.eval o) (hwa : Region.wanted o (yielded ops a2.tmps) = Region.wanted o (yielded ops a.tmps))
    (h : ∀ v w2, C w2 → Kept w w2 → K (a.put o.dst v) w2 → K' (a2.put o.dst v) w2) (hup : ∀ a w w2, Kept w w2 → K a w → K a w2) (hs : stepH pb P ops C o K a w) : wpOp P ops Q' i K' a2 w := by
  unfold wpOp
  simp only [hi]
  rcases hs with ⟨v, hv, hK⟩ | ⟨h1, _, hm⟩
  · rcases hv with ⟨h1, rfl⟩ | ⟨h1, _, h2⟩ | ⟨h1, _, f, args, _, h2, h3⟩
    · rw [hwa]; simp only [h1, Bool.false_eq_true, if_false]; exact h _ _ hw (Kept.refl _) hK
    · rw [hwa]; simp only [h1, if_true]
      left
      unfold Oper.wp
      rw [he]
      rcases h2 w hw with e | ⟨e, rfl⟩ <;> rw [e]
      · exact h _ _ hw (Kept.refl _) hK
      · exact h _ _ hw (Kept.refl _) hK
    · rw [hwa]; simp only [h1, if_true]
      left
      unfold Oper.wp
      rw [he, h2 w]
      exact Calls.mono (h3 w hw) fun e w'' ⟨he, hc, hk⟩ => by subst he; exact h _ _ hc hk (hup _ _ _ hk hK)
  · have h2 := hm w hw (Kept.refl w)
    rw [hwa]
    simp only [h1, if_true]
    left
    unfold Oper.wp
    rw [he]
    generalize (execOp a.eval o).run P w = r at h2
    match r, h2 with
    | .ok (.value _) _, hr => exact h _ _ hr.1 hr.2.1 hr.2.2
    | .ok .skip _, hr => exact h _ _ hr.1 hr.2.1 hr.2.2
    | .ok (.enter _ _) _, hr => exact Calls.mono hr fun e w'' ⟨v, he, hc, hk⟩ => by subst he; exact h _ _ hc hk.1 hk.2
    | .ok (.row _ _) _, hr => exact Rows.mono hr fun v w'' ⟨hc, hk⟩ => h _ _ hc hk.1 hk.2
/-- What is needed of the operation that makes the variable. -/
structure MakesVar (P : Program) (md : Region.Mode) (ops : Array Oper) (n : Nat) (on : Oper) (t : TypeId) (z : Array Value) : Prop where
  at_ : ops[n]? = some on
  noGuard : on.guard = none
  free : on.after = #[]
  apart : ∀ j oj, j < n → ops[j]? = some oj → on.apart ops oj = true
  run : ∀ (ev : Operand → Value) (w : World), (execOp ev on).run P w = .ok (.value (.pointer (some ⟨w.heap.size, 0, none⟩))) (w.alloc (.cells z t))
theorem run_done {n g g0 : Nat} {on : Oper} {t : TypeId} {z : Array Value} {Lq : Act → World → Prop} {Q' : Exit → Act → World → Prop} (hv : MakesVar P md ops n on t z) (hsel : Region.noSelect ops = true)
    (hL : ∀ listed a w, C w → Region.seqB md ops g (n + 1) listed = true → Lq a w → Blk w g0 t z → wpAny P md ops Q' g listed (a.put on.dst (.pointer (some ⟨g0, 0, none⟩))) w) :
    ∀ (f : Nat) (listed : Array Bool) (a : Act) (w : World), C w → Blk w g0 t z → anyH pb P md ops C n (fun listed' a' w' => Region.seqB md ops g (n + 1) listed' = true ∧ Lq a' w') f listed a w → wpAny P md ops Q' (f + g) listed (a.put on.dst (.pointer (some ⟨g0, 0, none⟩))) w
  | 0, listed, a, w, hw, hb, h => by
    rw [Nat.zero_add]
    have := h w hw (Kept.refl w)
    exact hL _ _ _ hw this.1 this.2 hb
  | f + 1, listed, a, w, hw, hb, h => by
    rw [show f + 1 + g = (f + g) + 1 by omega]
    refine ⟨fun h0 => absurd h0 h.1, fun i hi => ?_⟩
    obtain ⟨hin, hst⟩ := h.2 i hi
    obtain ⟨_, o, ho, _⟩ := mem_ready.1 hi
    obtain ⟨h1, h2, h3⟩ := Oper.apart_spec (hv.apart i o hin ho)
    refine wpOp_of_stepH (a := a) ho hw (execOp_put o (fun cs b => Region.noSelect_spec hsel i o cs b ho) a on.dst _ h1) (wanted_put o a on.dst _ h1) (fun v w2 hc2 hk2 hK => ?_) (fun a w w2 => anyH_up f _ a w w2) (hst o ho)
    rw [Act.put_comm a _ v h2]
    exact run_done hv hsel hL f _ _ w2 hc2 (hb.kept hk2) hK
theorem run_open {n g : Nat} {on : Oper} {t : TypeId} {z : Array Value} {W : World} {Lq : Act → World → Prop} {Q' : Exit → Act → World → Prop} (hv : MakesVar P md ops n on t z) (hsel : Region.noSelect ops = true)
    (hs : Region.sinkB md ops (n + 1) = true) (hc1 : Region.chainB md ops (n + 1) = true) (hn1 : n + 1 < ops.size) (hCW : ∀ w, C w → Kept W w) (hCa : ∀ w o, C w → C (w.alloc o))
    (hL : ∀ g0, W.heap.size ≤ g0 → ∀ listed a w, C w → Region.seqB md ops g (n + 1) listed = true → Lq a w → Blk w g0 t z → wpAny P md ops Q' g listed (a.put on.dst (.pointer (some ⟨g0, 0, none⟩))) w) :
    ∀ (f : Nat) (listed : Array Bool) (a : Act) (w : World), C w → HeadInv md ops (n + 1) listed → listed.getD n true = false →
      anyH pb P md ops C n (fun listed' a' w' => Region.seqB md ops g (n + 1) listed' = true ∧ Lq a' w') f (listed.setIfInBounds n true) a w → wpAny P md ops Q' (f + 1 + g) listed a w := by
  intro f
  induction f with
  | zero =>
    intro listed a w hw inv hun h
    rw [show 0 + 1 + g = g + 1 by omega]
    have hnr : n ∈ Region.ready md ops listed := mem_ready.2 ⟨hun, on, hv.at_, fun e he => by rw [hv.free] at he; simp at he⟩
    refine ⟨fun h0 => (by rw [h0] at hnr; cases hnr), fun i hi => ?_⟩
    by_cases hin : i = n
    · subst hin
      unfold wpOp
      simp only [hv.at_]
      rw [if_pos (by simp [Region.wanted, hv.noGuard])]
      left
      unfold Oper.wp
      rw [hv.run]
      have := run_done (Q' := Q') hv hsel (hL w.heap.size (hCW w hw).size) 0 _ a (w.alloc (.cells z t)) (hCa w _ hw) (Blk.new w t z) (anyH_up 0 _ _ _ _ (Kept.alloc (Kept.refl w) _) h)
      rwa [Nat.zero_add] at this
    · exfalso
      have h2 := (h w hw (Kept.refl w)).1
      have h3 := seqB_ready h2 i (ready_mono hi hin)
      exact tail_waits hs hc1 hn1 inv _ n rfl (by omega) hun i (by omega) hi
  | succ f ih =>
    intro listed a w hw inv hun h
    rw [show f + 1 + 1 + g = (f + 1 + g) + 1 by omega]
    have hnr : n ∈ Region.ready md ops listed := mem_ready.2 ⟨hun, on, hv.at_, fun e he => by rw [hv.free] at he; simp at he⟩
    refine ⟨fun h0 => (by rw [h0] at hnr; cases hnr), fun i hi => ?_⟩
    by_cases hin : i = n
    · subst hin
      unfold wpOp
      simp only [hv.at_]
      rw [if_pos (by simp [Region.wanted, hv.noGuard])]
      left
      unfold Oper.wp
      rw [hv.run]
      exact run_done (Q' := Q') hv hsel (hL w.heap.size (hCW w hw).size) (f + 1) _ a (w.alloc (.cells z t)) (hCa w _ hw) (Blk.new w t z) (anyH_up (f + 1) _ _ _ _ (Kept.alloc (Kept.refl w) _) h)
    · have hi2 := ready_mono hi hin
      obtain ⟨hin2, hst⟩ := h.2 i hi2
      obtain ⟨_, o, ho, _⟩ := mem_ready.1 hi
      refine wpOp_of_stepH (a := a) ho hw rfl rfl (fun v w2 hc2 hk2 hK => ?_) (fun a w w2 => anyH_up f _ a w w2) (hst o ho)
      refine ih _ _ w2 hc2 (inv.set hi (by omega)) (by rw [getD_set_ne true (by omega)]; exact hun) ?_
      rw [Array.setIfInBounds_comm _ _ hin]
      exact hK
def lexAB (md : Region.Mode) (ops : Array Oper) (n : Nat) : Bool :=
  Region.noSelect ops && decide (n + 1 < ops.size) && Region.sinkB md ops (n + 1) && Region.chainB md ops (n + 1) && lexHd md ops (ops.size - (n + 1)) n n 0 ((Array.replicate ops.size false).setIfInBounds n true)
def apartB (ops : Array Oper) (n : Nat) (on : Oper) : Bool := (List.range n).all fun j => match ops[j]? with
  | some oj => on.apart ops oj
  | none => true
/-- The region: its head in the text's order, the variable made at some moment, then its tail. -/
theorem region_seqA {id : Nat} {Q : Exit → Act → World → Prop} {a : Act} {w : World} (pb : Oper → Bool) (W : World) (hw : Later W w) {l : List Oper} (n d : Nat) (on : Oper) (t : TypeId) (z : Array Value) (hm : P.follows .mixedOrders = true)
    (hat : l[n]? = some on) (hd : on.dst = some d) (hg : on.guard = none) (haf : on.after = #[]) (hap : apartB l.toArray n on = true) (hrun : ∀ (ev : Operand → Value) (w : World), (execOp ev on).run P w = .ok (.value (.pointer (some ⟨w.heap.size, 0, none⟩))) (w.alloc (.cells z t)))
    (hB : lexAB .any l.toArray n = true) (hM : movesB6 pb .any l.toArray = true)
    (h : ∀ w1, Later W w1 → seqH pb P l.toArray (fun w' => ∃ p, w' = ext W p) (fun a' w' => ∀ g, W.heap.size ≤ g → Blk w' g t z → wpList P l.toArray Q (l.drop (n + 1)) (a'.put (some d) (.pointer (some ⟨g, 0, none⟩))) w') (l.take n) a w1) : (Code.region id l.toArray true).wp P Q a w := by
  simp only [lexAB, Bool.and_eq_true, decide_eq_true_eq] at hB
  obtain ⟨⟨⟨⟨hsel, hn⟩, hs⟩, hc⟩, hlex⟩ := hB
  have hn' : n + 1 < l.length := by simpa using hn
  have hv : MakesVar P .any l.toArray n on t z := ⟨by simpa using hat, hg, haf, fun j oj hj hoj => by
    have := List.all_eq_true.1 hap j (List.mem_range.2 hj)
    rw [hoj] at this
    exact this, hrun⟩
  have htl : (l.take n).length = n := by simp; omega
  have hdl : (l.drop (n + 1)).length = l.toArray.size - (n + 1) := by simp
  refine wp_region_any hm ?_
  have h0 : Later W { w with drawn := w.drawn + 1 } := Later.of (Kept.drawn1 (Later.kept hw))
  have inv0 : HeadInv .any l.toArray (n + 1) (Array.replicate l.toArray.size false) :=
    ⟨by simp, fun j oj _ hl => (by rw [getD_replicate_false] at hl; cases hl), fun t _ ht => getD_in (by simpa using ht) (getD_replicate_false _ _)⟩
  have hun : (Array.replicate l.toArray.size false).getD n true = false := getD_in (by simp; omega) (getD_replicate_false _ _)
  have hnr : n ∈ Region.ready .any l.toArray (Array.replicate l.toArray.size false) := mem_ready.2 ⟨hun, on, hv.at_, fun e he => by rw [haf] at he; simp at he⟩
  have H := anyH_lex (P := P) (C := fun w' => ∃ p, w' = ext W p) (g := l.toArray.size - (n + 1)) hsel (chain_of6 hM) hs hc hn (l.take n) 0 _ a _ h0 (fun j hj => by
    have hj' : j < n := by rw [htl] at hj; exact hj
    simp [hj']) (by simpa using htl) (inv0.set hnr (by omega)) (by
      have : n < (Array.replicate l.toArray.size false).size := by simp; omega
      simp at this
      simp [this]) (fun m hm => by omega) (by rw [htl]; exact hlex) (h _ h0)
  have := run_open (W := W) (Q' := Q) (C := fun w' => ∃ p, w' = ext W p) (g := l.toArray.size - (n + 1)) hv hsel hs hc hn (fun w hw => Later.kept hw) (fun w o hw => Later.of (Kept.alloc (Later.kept hw) o)) (fun g0 hg0 listed a' w' hw' hB2 hq hb => by
      have h3 := hq g0 hg0 hb
      rw [hd]
      have := wpAny_of_seq (md := .any) (Q' := Q) (l.drop (n + 1)) (n + 1) listed _ w' (fun j => by simp [List.getElem?_drop]) (by rw [hdl]; exact hB2) h3
      rwa [hdl] at this) _ _ _ _ h0 inv0 hun H
  rw [htl, show n + 1 + (l.toArray.size - (n + 1)) = l.toArray.size by omega] at this
  exact this
/-- One operation that only reckons, by the quiet walk. -/
theorem seqH_plain {Q : Act → World → Prop} {o : Oper} {l : List Oper} {a : Act} {w : World} (hp : pb o = true) (hp2 : plainB o = true) (h : wpQuiet P ops C (fun a' => seqH pb P ops C Q l a' w) [o] a) : seqH pb P ops C Q (o :: l) a w := by
  unfold wpQuiet at h
  split at h
  · rename_i hw
    obtain ⟨v, h1, h2⟩ := h
    refine .inl ⟨v, .inr (.inl ⟨hw, hp, fun w' hc => ?_⟩), h2⟩
    have h3 := h1 w' hc
    unfold Oper.quietAt at h3
    have h4 := plain_no_enter (P := P) hp2 a.eval w'
    generalize (execOp a.eval o).run P w' = r at h3 h4
    match r, h3 with
    | .ok (.value _) _, hr => obtain ⟨e1, e2⟩ := hr; rw [e1, e2]; exact .inl rfl
    | .ok .skip _, hr => obtain ⟨e1, e2⟩ := hr; rw [e1]; exact .inr ⟨rfl, e2⟩
    | .ok (.enter f args) w1, _ => exact absurd rfl (h4 f args w1)
  · rename_i hw
    exact .inl ⟨undef, .inl ⟨by simpa using hw, rfl⟩, h⟩
/-- One operation that moves the world on, by the usual walk. -/
theorem seqH_move {Q : Act → World → Prop} {o : Oper} {l : List Oper} {a : Act} {w : World} (hp : pb o = false) (hw : Region.wanted o (yielded ops a.tmps) = true)
    (h : ∀ w', C w' → Kept w w' → wpList P ops (goOn C o.dst a (fun a' w2 => Kept w' w2 ∧ seqH pb P ops C Q l a' w2)) [o] a w') : seqH pb P ops C Q (o :: l) a w := by
  refine .inr ⟨hw, hp, fun w' hc9 hk9 => ?_⟩
  replace h := h w' hc9 hk9
  unfold wpList at h
  rw [if_pos hw] at h
  rcases h with h | ⟨_, a', w', hl⟩
  · unfold Oper.wp at h
    have key : ∀ {v : Value} {w2 : World}, goOn C o.dst a (fun a' w2 => Kept w' w2 ∧ seqH pb P ops C Q l a' w2) .normal (a.put o.dst v) w2 → C w2 ∧ Kept w' w2 ∧ seqH pb P ops C Q l (a.put o.dst v) w2 := fun ⟨_, _, h2, h3⟩ => ⟨h2, h3⟩
    generalize (execOp a.eval o).run P w' = r at h ⊢
    match r, h with
    | .ok (.value _) _, hr => exact key hr
    | .ok .skip _, hr => exact key hr
    | .ok (.enter _ _) _, hr =>
      refine Calls.mono hr fun e w'' he => ?_
      cases e with
      | returned v => exact ⟨v, rfl, key he⟩
      | panicked _ => exact he.elim
      | outgrown => obtain ⟨_, _, hf⟩ := he; exact hf.elim
    | .ok (.defer d) _, hr =>
      obtain ⟨v, h1, _⟩ := hr
      have h2 := congrArg Act.defers h1
      simp only [put_defers] at h2
      have := congrArg List.length h2
      simp at this
    | .ok (.row _ _) _, hr => exact Rows.mono hr fun v w'' h => key h
    | .halt (.panic _) _, hr => exact hr.elim
  · exact hl.elim
theorem seqH_nil {Q : Act → World → Prop} {a : Act} {w : World} (h : ∀ w', C w' → Kept w w' → Q a w') : seqH pb P ops C Q [] a w := h
theorem wpList_store_var {rest : List Oper} {o : Oper} {a : Act} {Q : Exit → Act → World → Prop} {W w : World} (T : TypeId) (d s : Operand) (ho : o.op = .store T d s) (hg : o.guard = none) (hdst : o.dst = none) (g : Nat) (cs z : Array Value)
    (hptr : a.eval d = .pointer (some ⟨g, 0, none⟩)) (hval : a.eval s = .agg cs) (hblk : Blk w g T z) (hinfo : (P.info? T).map (·.size) = some cs.size) (hz : z.size = cs.size) (h1 : cs.all (·.oneCell') = true) (hk : Kept W w) (hgW : W.heap.size ≤ g)
    (h : ∀ w', Kept W w' → Blk w' g T cs → wpList P ops Q rest a w') : wpList P ops Q (o :: rest) a w := by
  unfold wpList
  rw [if_pos (by unfold Region.wanted; rw [hg])]
  left
  refine wp_store_row T d s ho g cs hptr hval T z hblk hinfo hz h1 ?_
  rw [hdst]
  exact h _ (Kept.setRow hk hgW cs) (Blk.setRow_ hblk cs)
end
end Pg
