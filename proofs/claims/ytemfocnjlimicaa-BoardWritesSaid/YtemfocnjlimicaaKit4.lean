/- Regions that draw their order and call functions that hand back blocks of their own: all orders carry out the calls in one order, in the same worlds; one walk in the text's order serves. -/
import Derived.Test.YtemfocnjlimicaaKit1
import Derived.Test.YtemfocnjlimicaaKit3
namespace Pg
open Go Go.RowKit Go.Sort

/-- Operations that only reckon or read. -/
def plainB (o : Oper) : Bool := match o.op with
  | .move _ | .assign _ | .pick _ _ _ | .load _ _ | .build _ _ | .binOp _ _ _ _ _ | .unOp _ _ _ | .convert _ _ _ | .field _ _ _ | .fieldAddr _ _ _ | .indexAddr _ _ _ | .index _ _ _ | .extract _ _ | .nilCheck _ => true
  | .call c => (match c.callee with | .builtin .len | .builtin .min | .builtin .max => true | _ => false)
  | _ => false
section
variable {P : Program}
theorem no_enter_v (s : Sem Value) (w : World) (f : FuncId) (args : Array Value) (w' : World) : (do pure (Next.value (← s)) : Sem Next).run P w ≠ .ok (.enter f args) w' := by
  intro h
  simp only [Sem.run_bind, Sem.run_pure] at h
  cases hs : s.run P w with
  | ok x w1 => rw [hs] at h; simp [Result.andThen] at h
  | halt x w1 => rw [hs] at h; simp [Result.andThen] at h
theorem no_enter_bind {α : Type} (s : Sem α) (k : α → Sem Next) (w : World) (f : FuncId) (args : Array Value) (w' : World) (hk : ∀ x w1, (k x).run P w1 ≠ .ok (.enter f args) w') : (s >>= k).run P w ≠ .ok (.enter f args) w' := by
  intro h
  simp only [Sem.run_bind] at h
  cases hs : s.run P w with
  | ok x w1 => rw [hs] at h; exact hk x w1 h
  | halt x w1 => rw [hs] at h; simp [Result.andThen] at h
theorem no_enter_pure (v : Value) (w : World) (f : FuncId) (args : Array Value) (w' : World) : (pure (Next.value v) : Sem Next).run P w ≠ .ok (.enter f args) w' := by
  intro h; simp at h
theorem no_enter_nil (w : World) (f : FuncId) (args : Array Value) (w' : World) : (runtimePanic .nilDeref : Sem Next).run P w ≠ .ok (.enter f args) w' := no_enter_bind _ _ _ _ _ _ fun x w1 => by
  intro h
  simp [goPanic] at h
theorem no_enter_res (r : Result Value) (f : FuncId) (args : Array Value) (w' : World) : (r.andThen fun a w1 => Result.ok (Next.value a) w1) ≠ .ok (.enter f args) w' := by
  intro h
  cases r <;> simp [Result.andThen] at h
theorem plain_no_enter {o : Oper} (h : plainB o = true) (ρ : Operand → Value) (w : World) (f : FuncId) (args : Array Value) (w' : World) : (execOp ρ o).run P w ≠ .ok (.enter f args) w' := by
  unfold plainB at h
  unfold execOp
  split at h
  all_goals first
    | (rename_i heq; simp only [heq]; exact no_enter_v _ _ _ _ _)
    | (rename_i heq; simp only [heq]; intro hc; simp at hc; done)
    | (rename_i heq; simp only [heq]; exact no_enter_bind _ _ _ _ _ _ fun x w1 => no_enter_pure _ _ _ _ _)
    | skip
  · rename_i heq
    simp only [heq]
    split
    · exact no_enter_nil _ _ _ _
    · exact no_enter_nil _ _ _ _
    · exact no_enter_nil _ _ _ _
    · split
      · exact no_enter_nil _ _ _ _
      · refine no_enter_bind _ _ _ _ _ _ fun x w1 => no_enter_bind _ _ _ _ _ _ fun y w2 => ?_
        split
        · exact no_enter_bind _ _ _ _ _ _ fun z w3 => no_enter_pure _ _ _ _ _
        · exact no_enter_pure _ _ _ _ _
      · exact no_enter_pure _ _ _ _ _
    · exact no_enter_pure _ _ _ _ _
  · rename_i c heq
    simp only [heq]
    split at h
    · rename_i hc
      simp only [resolve, hc, Sem.run_bind, Sem.run_pure, Result.andThen_ok, invoke, builtin]
      exact no_enter_res _ _ _ _
    · rename_i hc
      simp only [resolve, hc, Sem.run_bind, Sem.run_pure, Result.andThen_ok, invoke, builtin]
      exact no_enter_res _ _ _ _
    · rename_i hc
      simp only [resolve, hc, Sem.run_bind, Sem.run_pure, Result.andThen_ok, invoke, builtin]
      exact no_enter_res _ _ _ _
    · cases h
  · cases h
end
section
variable {P : Program} {ops : Array Oper} {md : Region.Mode} {C : World → Prop}
/-- In state a, in whatever world of the class, an operation that only reckons leaves v, and the world alone; or it is passed over. -/
def stillV (P : Program) (ops : Array Oper) (C : World → Prop) (o : Oper) (v : Value) (a : Act) : Prop :=
  (Region.wanted o (yielded ops a.tmps) = false ∧ v = undef) ∨
  (Region.wanted o (yielded ops a.tmps) = true ∧ plainB o = true ∧ ∀ w, C w → ((execOp a.eval o).run P w = .ok (.value v) w ∨ ((execOp a.eval o).run P w = .ok .skip w ∧ v = undef)))
def callUpon (P : Program) (C : World → Prop) (K : Value → World → Prop) : Result Next → Prop
  | .ok (.value v) w' => C w' ∧ K v w'
  | .ok .skip w' => C w' ∧ K undef w'
  | .ok (.enter f args) w' => Calls P f args w' fun e w'' => ∃ v, e = .returned v ∧ C w'' ∧ K v w''
  | .ok (.row row args) w' => Rows P row args w' fun v w'' => C w'' ∧ K v w''
  | _ => False
def moveV (P : Program) (ops : Array Oper) (C : World → Prop) (o : Oper) (a : Act) (w : World) (K : Value → World → Prop) : Prop :=
  Region.wanted o (yielded ops a.tmps) = true ∧ plainB o = false ∧ callUpon P C K ((execOp a.eval o).run P w)
theorem callUpon_mono {K K' : Value → World → Prop} (h : ∀ v w, C w → K v w → K' v w) {r : Result Next} (hr : callUpon P C K r) : callUpon P C K' r := by
  cases r with
  | halt x w => exact hr.elim
  | ok n w =>
    cases n <;> first
      | exact ⟨hr.1, h _ _ hr.1 hr.2⟩
      | exact Calls.mono hr fun _ _ ⟨v, he, hc, hk⟩ => ⟨v, he, hc, h _ _ hc hk⟩
      | exact Rows.mono hr fun _ _ ⟨hc, hk⟩ => ⟨hc, h _ _ hc hk⟩
      | exact hr.elim
theorem callUpon_some {K : Value → World → Prop} {r : Result Next} (hr : callUpon P C K r) : ∃ v w, C w ∧ K v w := by
  cases r with
  | halt x w => exact hr.elim
  | ok n w =>
    cases n <;> first
      | exact ⟨_, _, hr⟩
      | (obtain ⟨e, w', fr, ⟨v, _, h⟩, _⟩ := hr []; exact ⟨v, w', h⟩)
      | (obtain ⟨v, w', h, _⟩ := hr (Frame.enter P 0 #[] .normal) []; exact ⟨v, w', h⟩)
      | exact hr.elim
theorem moveV_mono {o : Oper} {a : Act} {w : World} {K K' : Value → World → Prop} (h : ∀ v w, C w → K v w → K' v w) (hm : moveV P ops C o a w K) : moveV P ops C o a w K' := ⟨hm.1, hm.2.1, callUpon_mono h hm.2.2⟩
theorem stillV_uniq {o : Oper} {v v' : Value} {a : Act} {w : World} (hw : C w) (h : stillV P ops C o v a) (h' : stillV P ops C o v' a) : v = v' := by
  rcases h with ⟨h1, rfl⟩ | ⟨h1, _, h2⟩ <;> rcases h' with ⟨h1', rfl⟩ | ⟨h1', _, h2'⟩
  · rfl
  · rw [h1] at h1'; cases h1'
  · rw [h1] at h1'; cases h1'
  · rcases h2 w hw with e | ⟨e, rfl⟩ <;> rcases h2' w hw with e' | ⟨e', rfl⟩
    · rw [e] at e'; injection e' with e' _; injection e'
    · rw [e] at e'; injection e' with e' _; cases e'
    · rw [e] at e'; injection e' with e' _; cases e'
    · rfl
theorem stillV_same {o : Oper} {v : Value} {a a' : Act} (he : execOp a'.eval o = execOp a.eval o) (hw : Region.wanted o (yielded ops a'.tmps) = Region.wanted o (yielded ops a.tmps)) (h : stillV P ops C o v a) : stillV P ops C o v a' := by
  unfold stillV at *; rw [he, hw]; exact h
theorem moveV_same {o : Oper} {a a' : Act} {w : World} {K : Value → World → Prop} (he : execOp a'.eval o = execOp a.eval o) (hw : Region.wanted o (yielded ops a'.tmps) = Region.wanted o (yielded ops a.tmps)) (h : moveV P ops C o a w K) : moveV P ops C o a' w K := by
  unfold moveV at *; rw [he, hw]; exact h
/-- One operation: it reckons, or it moves the world on. -/
def stepE (P : Program) (ops : Array Oper) (C : World → Prop) (o : Oper) (K : Act → World → Prop) (a : Act) (w : World) : Prop :=
  (∃ v, stillV P ops C o v a ∧ K (a.put o.dst v) w) ∨ moveV P ops C o a w (fun v w' => K (a.put o.dst v) w')
def anyE (P : Program) (md : Region.Mode) (ops : Array Oper) (C : World → Prop) (Q : Act → World → Prop) : Nat → Array Bool → Act → World → Prop
  | 0, listed, a, w => Region.ready md ops listed = [] ∧ Q a w
  | n + 1, listed, a, w => (Region.ready md ops listed = [] → Q a w) ∧ ∀ i ∈ Region.ready md ops listed, ∀ o, ops[i]? = some o → stepE P ops C o (anyE P md ops C Q n (listed.setIfInBounds i true)) a w
theorem stepE_mono {o : Oper} {a : Act} {w : World} {K K' : Act → World → Prop} (hw : C w) (h : ∀ a w, C w → K a w → K' a w) (hs : stepE P ops C o K a w) : stepE P ops C o K' a w := by
  rcases hs with ⟨v, h1, h2⟩ | hm
  · exact .inl ⟨v, h1, h _ _ hw h2⟩
  · exact .inr (moveV_mono (fun v w' hc hk => h _ _ hc hk) hm)
/-- Operations that move the world on wait for one another. -/
def Chain (md : Region.Mode) (ops : Array Oper) : Prop := ∀ i j oi oj, i < j → ops[i]? = some oi → ops[j]? = some oj → plainB oi = false → plainB oj = false → ∀ listed, HeadInv md ops ops.size listed → listed.getD i true = false → j ∉ Region.ready md ops listed

theorem anyE_first {Q : Act → World → Prop} {i : Nat} {oi : Oper} (hi : ops[i]? = some oi) (hsel : ∀ (j : Nat) (o : Oper) cs b, ops[j]? = some o → o.op ≠ .select cs b) (hch : Chain md ops) :
    ∀ (n : Nat) (listed : Array Bool) (a : Act) (w : World), C w → HeadInv md ops ops.size listed → (∀ m, m < i → listed.getD m false = true) →
      (∀ j oj, ops[j]? = some oj → j ≠ i → listed.getD j true = false → (∀ e ∈ oj.after, Region.binds md e = true → e.on ≠ i) → oi.apart ops oj = true) →
      i ∈ Region.ready md ops listed → stepE P ops C oi (anyE P md ops C Q n (listed.setIfInBounds i true)) a w → anyE P md ops C Q (n + 1) listed a w := by
  intro n
  induction n with
  | zero =>
    intro listed a w hw inv hlow hfree hr H
    refine ⟨fun h => (by rw [h] at hr; cases hr), fun j hj oj hoj => ?_⟩
    by_cases hji : j = i
    · subst hji; rw [hoj] at hi; cases hi; exact H
    · exfalso
      have hnil : Region.ready md ops (listed.setIfInBounds i true) = [] := by
        rcases H with ⟨v, _, h⟩ | hm
        · exact h.1
        · obtain ⟨v, w', _, h⟩ := callUpon_some hm.2.2
          exact h.1
      have := ready_mono hj hji
      rw [hnil] at this
      cases this
  | succ n ih =>
    intro listed a w hw inv hlow hfree hr H
    refine ⟨fun h => (by rw [h] at hr; cases hr), fun j hj oj hoj => ?_⟩
    by_cases hji : j = i
    · subst hji; rw [hoj] at hi; cases hi; exact H
    have hun := (mem_ready.1 hr).1
    obtain ⟨hjun, oj', hoj', hall⟩ := mem_ready.1 hj
    rw [hoj] at hoj'; cases hoj'
    have hisz : i < ops.size := (Array.getElem?_eq_some_iff.1 hi).1
    have hjsz : j < ops.size := (Array.getElem?_eq_some_iff.1 hoj).1
    have hij : i < j := by
      rcases Nat.lt_or_ge i j with h | h
      · exact h
      · have h1 := hlow j (by omega)
        rw [getD_both hjun] at h1; cases h1
    have hnot : ∀ e ∈ oj.after, Region.binds md e = true → e.on ≠ i := fun e he hb heq => by
      have h1 := hall e he hb
      rw [heq, getD_both hun] at h1; cases h1
    have hap := hfree j oj hoj hji hjun hnot
    obtain ⟨h1, h2, h3⟩ := Oper.apart_spec hap
    have ej : ∀ v, execOp (a.put oi.dst v).eval oj = execOp a.eval oj := fun v => execOp_put oj (fun cs b => hsel j oj cs b hoj) a oi.dst v h1
    have wj : ∀ v, Region.wanted oj (yielded ops (a.put oi.dst v).tmps) = Region.wanted oj (yielded ops a.tmps) := fun v => wanted_put oj a oi.dst v h1
    have ei : ∀ u, execOp (a.put oj.dst u).eval oi = execOp a.eval oi := fun u => execOp_put oi (fun cs b => hsel i oi cs b hi) a oj.dst u h3
    have wi : ∀ u, Region.wanted oi (yielded ops (a.put oj.dst u).tmps) = Region.wanted oi (yielded ops a.tmps) := fun u => wanted_put oi a oj.dst u h3
    have inv' : HeadInv md ops ops.size (listed.setIfInBounds j true) := inv.set hj hjsz
    have hlow' : ∀ m, m < i → (listed.setIfInBounds j true).getD m false = true := fun m hm => getD_set_true (hlow m hm)
    have hfree' : ∀ k ok, ops[k]? = some ok → k ≠ i → (listed.setIfInBounds j true).getD k true = false → (∀ e ∈ ok.after, Region.binds md e = true → e.on ≠ i) → oi.apart ops ok = true := fun k ok hk hki hun hno => by
      refine hfree k ok hk hki ?_ hno
      by_cases hjk : j = k
      · subst hjk; exact hjun
      · rwa [getD_set_ne true hjk] at hun
    have hr' : i ∈ Region.ready md ops (listed.setIfInBounds j true) := ready_mono hr (Ne.symm hji)
    have hcomm : (listed.setIfInBounds i true).setIfInBounds j true = (listed.setIfInBounds j true).setIfInBounds i true := Array.setIfInBounds_comm _ _ (Ne.symm hji)
    have next : ∀ {v : Value} {w' : World}, anyE P md ops C Q (n + 1) (listed.setIfInBounds i true) (a.put oi.dst v) w' → stepE P ops C oj (anyE P md ops C Q n ((listed.setIfInBounds j true).setIfInBounds i true)) (a.put oi.dst v) w' := fun h => by
      have := h.2 j (ready_mono hj hji) oj hoj
      rwa [hcomm] at this
    rcases H with ⟨v, hv, hK⟩ | hm
    · rcases next hK with ⟨u, hu, hK'⟩ | hm'
      · refine .inl ⟨u, stillV_same (ej v).symm (wj v).symm hu, ih _ _ _ hw inv' hlow' hfree' hr' (.inl ⟨v, stillV_same (ei u) (wi u) hv, ?_⟩)⟩
        rw [Act.put_comm a v u h2] at hK'
        exact hK'
      · refine .inr (moveV_mono (fun u w' hc hk => ih _ _ _ hc inv' hlow' hfree' hr' (.inl ⟨v, stillV_same (ei u) (wi u) hv, ?_⟩)) (moveV_same (ej v).symm (wj v).symm hm'))
        rw [Act.put_comm a v u h2] at hk
        exact hk
    · have hpi := hm.2.1
      have still : ∀ {v : Value} {w' : World}, anyE P md ops C Q (n + 1) (listed.setIfInBounds i true) (a.put oi.dst v) w' → ∃ u, stillV P ops C oj u a ∧ anyE P md ops C Q n ((listed.setIfInBounds j true).setIfInBounds i true) ((a.put oi.dst v).put oj.dst u) w' := fun {v w'} h => by
        rcases next h with ⟨u, hu, hK'⟩ | hm'
        · exact ⟨u, stillV_same (ej v).symm (wj v).symm hu, hK'⟩
        · exact absurd hj (hch i j oi oj hij hi hoj hpi hm'.2.1 listed inv hun)
      obtain ⟨v0, w0, hc0, hK0⟩ := callUpon_some hm.2.2
      obtain ⟨u, hu, _⟩ := still hK0
      refine .inl ⟨u, hu, ih _ _ _ hw inv' hlow' hfree' hr' (.inr (moveV_same (ei u) (wi u) (moveV_mono (fun v w' hc hk => ?_) hm)))⟩
      obtain ⟨u', hu', hk'⟩ := still hk
      rw [stillV_uniq hw hu hu', ← Act.put_comm a v u' h2]
      exact hk'

/-- The text's order. -/
def seqE (P : Program) (ops : Array Oper) (C : World → Prop) (Q : Act → World → Prop) : List Oper → Act → World → Prop
  | [], a, w => Q a w
  | o :: l, a, w => stepE P ops C o (seqE P ops C Q l) a w
theorem anyE_lex {Q : Act → World → Prop} (hs : Region.noSelect ops = true) (hch : Chain md ops) : ∀ (l : List Oper) (k : Nat) (listed : Array Bool) (a : Act) (w : World), C w → (∀ j, l[j]? = ops[k + j]?) → HeadInv md ops ops.size listed → (∀ m, m < k → listed.getD m false = true) →
    Region.lexFrom md ops l.length k listed = true → seqE P ops C Q l a w → anyE P md ops C Q l.length listed a w
  | [], _, _, _, _, _, _, _, _, hB, h => ⟨by simpa [Region.lexFrom] using hB, h⟩
  | o :: l, k, listed, a, w, hw, hl, inv, hlow, hB, h => by
    have h0 : ops[k]? = some o := by simpa using (hl 0).symm
    have hk : k < ops.size := (Array.getElem?_eq_some_iff.1 h0).1
    simp only [List.length_cons, Region.lexFrom, Bool.and_eq_true] at hB
    obtain ⟨⟨hr, hf⟩, hB'⟩ := hB
    have hr : k ∈ Region.ready md ops listed := by simpa using hr
    refine anyE_first h0 (Region.noSelect_spec hs) hch l.length listed a w hw inv hlow (Region.free_spec h0 hf) hr (stepE_mono hw (fun a' w' hw' h' => ?_) h)
    refine anyE_lex hs hch l (k + 1) _ a' w' hw' (fun j => by have := hl (j + 1); simpa [Nat.add_assoc, Nat.add_comm 1 j] using this) (inv.set hr hk) (fun m hm => ?_) hB' h'
    rcases Nat.lt_or_ge m k with h5 | h5
    · exact getD_set_true (hlow m h5)
    · have : m = k := by omega
      subst this
      have : m < listed.size := by rw [inv.size]; exact hk
      simp [this]
theorem wpOp_of_stepE {i : Nat} {o : Oper} (hi : ops[i]? = some o) {a : Act} {w : World} {K K' : Act → World → Prop} {Q' : Exit → Act → World → Prop} (hw : C w) (h : ∀ a w, C w → K a w → K' a w) (hs : stepE P ops C o K a w) : wpOp P ops Q' i K' a w := by
  unfold wpOp
  simp only [hi]
  rcases hs with ⟨v, hv, hK⟩ | ⟨h1, _, h2⟩
  · rcases hv with ⟨h1, rfl⟩ | ⟨h1, _, h2⟩
    · simp only [h1, Bool.false_eq_true, if_false]; exact h _ _ hw hK
    · simp only [h1, if_true]
      left
      unfold Oper.wp
      rcases h2 w hw with e | ⟨e, rfl⟩ <;> rw [e]
      · exact h _ _ hw hK
      · exact h _ _ hw hK
  · simp only [h1, if_true]
    left
    unfold Oper.wp
    generalize (execOp a.eval o).run P w = r at h2
    match r, h2 with
    | .ok (.value _) _, hr => exact h _ _ hr.1 hr.2
    | .ok .skip _, hr => exact h _ _ hr.1 hr.2
    | .ok (.enter _ _) _, hr => exact Calls.mono hr fun e w'' ⟨v, he, hc, hk⟩ => by subst he; exact h _ _ hc hk
    | .ok (.row _ _) _, hr => exact Rows.mono hr fun v w'' ⟨hc, hk⟩ => h _ _ hc hk
theorem wpAny_of_anyE {Q : Act → World → Prop} {Q' : Exit → Act → World → Prop} (hQ : ∀ a w, C w → Q a w → Q' .normal a w) : ∀ (n : Nat) (listed : Array Bool) (a : Act) (w : World), C w → anyE P md ops C Q n listed a w → wpAny P md ops Q' n listed a w
  | 0, _, _, _, hw, h => ⟨h.1, hQ _ _ hw h.2⟩
  | n + 1, _, _, _, hw, h => ⟨fun h0 => hQ _ _ hw (h.1 h0), fun i hi => by
    obtain ⟨_, o, ho, _⟩ := mem_ready.1 hi
    exact wpOp_of_stepE ho hw (fun a' w' hw' => wpAny_of_anyE hQ n _ a' w' hw') (h.2 i hi o ho)⟩
/-- The operation ahead of j that moves the world on. -/
def lastMove (ops : Array Oper) (j : Nat) : Option Nat := ((List.range j).filter fun i => ((ops[i]?).map fun o => !plainB o).getD false).getLast?
/-- j waits for p, by way of others perhaps. -/
def reachB (md : Region.Mode) (ops : Array Oper) : Nat → Nat → Nat → Bool
  | 0, _, _ => false
  | n + 1, j, p => match ops[j]? with
    | none => false
    | some o => o.after.any fun e => Region.binds md e && (e.on == p || (decide (p < e.on) && reachB md ops n e.on p))
theorem reach_listed {md : Region.Mode} {ops : Array Oper} {listed : Array Bool} (hc : ∀ q oq, ops[q]? = some oq → listed.getD q false = true → ∀ e ∈ oq.after, Region.binds md e = true → listed.getD e.on false = true) {p : Nat} :
    ∀ (n j : Nat) (o : Oper), ops[j]? = some o → (∀ e ∈ o.after, Region.binds md e = true → listed.getD e.on false = true) → reachB md ops n j p = true → listed.getD p false = true
  | 0, _, _, _, _, h => by cases h
  | n + 1, j, o, ho, hall, h => by
    unfold reachB at h
    rw [ho] at h
    obtain ⟨e, he, hb⟩ := Array.any_eq_true'.1 h
    simp only [Bool.and_eq_true, Bool.or_eq_true, beq_iff_eq] at hb
    obtain ⟨h1, h2⟩ := hb
    have hl := hall e he h1
    rcases h2 with h2 | ⟨_, h2⟩
    · rw [← h2]; exact hl
    · cases hq : ops[e.on]? with
      | none => cases n with
        | zero => cases h2
        | succ n => unfold reachB at h2; rw [hq] at h2; cases h2
      | some oq => exact reach_listed hc n e.on oq hq (hc e.on oq hq hl) h2
def movesB (md : Region.Mode) (ops : Array Oper) : Bool := (List.range ops.size).all fun j => match ops[j]? with
  | none => true
  | some o => plainB o || (match lastMove ops j with | none => true | some p => reachB md ops 8 j p)
theorem filter_last {p : Nat → Bool} {j i : Nat} (hi : i < j) (hp : p i = true) : ∃ q, ((List.range j).filter p).getLast? = some q ∧ i ≤ q ∧ q < j ∧ p q = true := by
  induction j with
  | zero => omega
  | succ j ih =>
    rw [List.range_succ, List.filter_append]
    by_cases hj : p j = true
    · refine ⟨j, by simp [hj], by omega, by omega, hj⟩
    · have hij : i < j := by
        rcases Nat.lt_or_ge i j with h | h
        · exact h
        · have : i = j := by omega
          subst this; exact absurd hp hj
      obtain ⟨q, h1, h2, h3, h4⟩ := ih hij
      exact ⟨q, by simpa [hj] using h1, h2, by omega, h4⟩
theorem chain_of (h : movesB md ops = true) : Chain md ops := by
  intro i j
  induction j using Nat.strongRecOn with
  | _ j ih =>
    intro oi oj hij hoi hoj hpi hpj listed inv hun hr
    have hjs : j < ops.size := (Array.getElem?_eq_some_iff.1 hoj).1
    have h1 := List.all_eq_true.1 h j (List.mem_range.2 hjs)
    simp only [hoj, hpj, Bool.false_or] at h1
    obtain ⟨q, hq, hiq, hqj, hpq⟩ := filter_last (p := fun i => ((ops[i]?).map fun o => !plainB o).getD false) hij (by simp [hoi, hpi])
    have hl : lastMove ops j = some q := hq
    rw [hl] at h1
    obtain ⟨_, oj', hoj', hall⟩ := mem_ready.1 hr
    rw [hoj] at hoj'; cases hoj'
    have hql := reach_listed inv.closed 8 j oj hoj hall h1
    have hqs : q < ops.size := by omega
    obtain ⟨oq, hoq⟩ : ∃ oq, ops[q]? = some oq := ⟨ops[q], Array.getElem?_eq_getElem hqs⟩
    have hpq' : plainB oq = false := by
      simp only [hoq, Option.map_some, Option.getD_some] at hpq
      simpa using hpq
    rcases Nat.lt_or_ge i q with h2 | h2
    · -- q is listed, so the one ahead of it is
      have key : ∀ q, ∀ oq, ops[q]? = some oq → plainB oq = false → i < q → listed.getD q false = true → False := by
        intro q
        induction q using Nat.strongRecOn with
        | _ q ihq =>
          intro oq hoq hpq hiq hql
          have hqs : q < ops.size := (Array.getElem?_eq_some_iff.1 hoq).1
          have h1 := List.all_eq_true.1 h q (List.mem_range.2 hqs)
          simp only [hoq, hpq, Bool.false_or] at h1
          obtain ⟨r, hr1, hir, hrq, hpr⟩ := filter_last (p := fun i => ((ops[i]?).map fun o => !plainB o).getD false) hiq (by simp [hoi, hpi])
          have hl : lastMove ops q = some r := hr1
          rw [hl] at h1
          have hrl := reach_listed inv.closed 8 q oq hoq (inv.closed q oq hoq hql) h1
          rcases Nat.lt_or_ge i r with h3 | h3
          · have hrs : r < ops.size := by omega
            obtain ⟨or_, hor⟩ : ∃ or_, ops[r]? = some or_ := ⟨ops[r], Array.getElem?_eq_getElem hrs⟩
            refine ihq r hrq or_ hor ?_ h3 hrl
            simp only [hor, Option.map_some, Option.getD_some] at hpr
            simpa using hpr
          · have : r = i := by omega
            rw [this, getD_both hun] at hrl; cases hrl
      exact key q oq hoq hpq' h2 hql
    · have : q = i := by omega
      rw [this, getD_both hun] at hql; cases hql

/-- The region: its operations in the text's order. -/
theorem region_seq {id : Nat} {Q : Exit → Act → World → Prop} {a : Act} {w : World} (W : World) (hw : Later W w) {l : List Oper} (hm : P.follows .mixedOrders = true) (hB : Region.lexB .any l.toArray = true) (hM : movesB .any l.toArray = true)
    (h : ∀ p, seqE P l.toArray (fun w' => ∃ p, w' = ext W p) (fun a' w' => Q .normal a' w') l a (ext W p)) : (Code.region id l.toArray true).wp P Q a w := by
  simp only [Region.lexB, Bool.and_eq_true] at hB
  refine wp_region_any hm ?_
  have h0 : ∃ p, ({ w with drawn := w.drawn + 1 } : World) = ext W p := by
    obtain ⟨p, rfl⟩ := hw
    have : ∃ q, ({ ext W p with drawn := (ext W p).drawn + 1 } : World) = ext (ext W p) q := ext_of ⟨rfl, rfl, rfl, Nat.le_refl _, fun _ _ => rfl⟩
    obtain ⟨q, hq⟩ := this
    obtain ⟨r, hr⟩ := ext_ext W p q
    exact ⟨r, by rw [hq, hr]⟩
  obtain ⟨p, hp⟩ := h0
  rw [hp]
  refine wpAny_of_anyE (C := fun w' => ∃ p, w' = ext W p) (Q := fun a' w' => Q .normal a' w') (fun _ _ _ h => h) _ _ _ _ ⟨p, rfl⟩ ?_
  have inv0 : HeadInv .any l.toArray l.toArray.size (Array.replicate l.toArray.size false) :=
    ⟨by simp, fun j oj _ hl => (by rw [getD_replicate_false] at hl; cases hl), fun t h1 h2 => by omega⟩
  have := anyE_lex (C := fun w' => ∃ p, w' = ext W p) (md := .any) (Q := fun a' w' => Q .normal a' w') hB.1 (chain_of hM) l 0 (Array.replicate l.toArray.size false) a (ext W p) ⟨p, rfl⟩ (by simp) inv0 (fun m hm => by omega) (by simpa using hB.2) (h p)
  simpa using this
/-- One operation that only reckons, by the quiet walk. -/
theorem seq_plain {Q : Act → World → Prop} {o : Oper} {l : List Oper} {a : Act} {w : World} (hp : plainB o = true) (h : wpQuiet P ops C (fun a' => seqE P ops C Q l a' w) [o] a) : seqE P ops C Q (o :: l) a w := by
  unfold wpQuiet at h
  split at h
  · rename_i hw
    obtain ⟨v, h1, h2⟩ := h
    refine .inl ⟨v, .inr ⟨hw, hp, fun w' hc => ?_⟩, h2⟩
    have h3 := h1 w' hc
    unfold Oper.quietAt at h3
    have h4 := plain_no_enter (P := P) hp a.eval w'
    generalize (execOp a.eval o).run P w' = r at h3 h4
    match r, h3 with
    | .ok (.value _) _, hr => obtain ⟨e1, e2⟩ := hr; rw [e1, e2]; exact .inl rfl
    | .ok .skip _, hr => obtain ⟨e1, e2⟩ := hr; rw [e1]; exact .inr ⟨rfl, e2⟩
    | .ok (.enter f args) w1, _ => exact absurd rfl (h4 f args w1)
  · rename_i hw
    exact .inl ⟨undef, .inl ⟨by simpa using hw, rfl⟩, h⟩
/-- Behind an operation that moved the world on. -/
def goOn (C : World → Prop) (d : Option Tmp) (a : Act) (K : Act → World → Prop) : Exit → Act → World → Prop
  | .normal, a', w' => ∃ v, a' = a.put d v ∧ C w' ∧ K a' w'
  | _, _, _ => False
theorem put_defers (a : Act) (x : Option Tmp) (v : Value) : (a.put x v).defers = a.defers := by cases x <;> rfl
/-- One operation that moves the world on, by the usual walk. -/
theorem seq_move {Q : Act → World → Prop} {o : Oper} {l : List Oper} {a : Act} {w : World} (hp : plainB o = false) (hw : Region.wanted o (yielded ops a.tmps) = true)
    (h : wpList P ops (goOn C o.dst a (seqE P ops C Q l)) [o] a w) : seqE P ops C Q (o :: l) a w := by
  unfold wpList at h
  rw [if_pos hw] at h
  rcases h with h | ⟨_, a', w', hl⟩
  · refine .inr ⟨hw, hp, ?_⟩
    unfold Oper.wp at h
    have key : ∀ {v : Value} {w' : World}, goOn C o.dst a (seqE P ops C Q l) .normal (a.put o.dst v) w' → C w' ∧ seqE P ops C Q l (a.put o.dst v) w' := fun ⟨_, _, h2, h3⟩ => ⟨h2, h3⟩
    generalize (execOp a.eval o).run P w = r at h
    match r, h with
    | .ok (.value _) _, hr => exact key hr
    | .ok .skip _, hr => exact key hr
    | .ok (.enter _ _) _, hr =>
      refine Calls.mono hr fun e w'' he => ?_
      cases e with
      | returned v => exact ⟨v, rfl, key he⟩
      | panicked _ => exact he.elim
      | outgrown => obtain ⟨_, _, hf⟩ := he; exact hf.elim
    | .ok (.defer d) _, hr =>
      obtain ⟨v, h1, _⟩ := hr
      have h2 := congrArg Act.defers h1
      simp only [put_defers] at h2
      have := congrArg List.length h2
      simp at this
    | .ok (.row _ _) _, hr => exact Rows.mono hr fun v w'' h => key h
    | .halt (.panic _) _, hr => exact hr.elim
  · exact hl.elim
/-- An operation that is passed over. -/
theorem seq_skip {Q : Act → World → Prop} {o : Oper} {l : List Oper} {a : Act} {w : World} (hw : Region.wanted o (yielded ops a.tmps) = false) (h : seqE P ops C Q l (a.put o.dst undef) w) : seqE P ops C Q (o :: l) a w :=
  .inl ⟨undef, .inl ⟨hw, rfl⟩, h⟩
theorem seq_named {Q : Act → World → Prop} {l : List Oper} {a : Act} {w : World} (h : ∀ w2, w2 = w → seqE P ops C Q l a w2) : seqE P ops C Q l a w := h w rfl
theorem seq_nil {Q : Act → World → Prop} {a : Act} {w : World} (h : Q a w) : seqE P ops C Q [] a w := h
end
end Pg
