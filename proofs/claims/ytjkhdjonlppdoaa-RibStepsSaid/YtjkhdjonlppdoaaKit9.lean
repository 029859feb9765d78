/- Regions that draw their order: calls that hand back blocks of their own, one behind the other, and a variable that is made and written at whatever moments between them and other operations that only reckon, ahead of a tail that waits for all of them. -/
import Derived.Test.YtjkhdjonlppdoaaKit8
namespace Pg
open Go Go.RowKit Go.Sort
section
variable {pb : Oper → Bool} {P : Program} {ops : Array Oper} {md : Region.Mode} {C : World → Prop}
def anyW (pb : Oper → Bool) (P : Program) (md : Region.Mode) (ops : Array Oper) (C : World → Prop) (n : Nat) (L : Array Bool → Act → World → Prop) : Nat → Array Bool → Act → World → Prop
  | 0, listed, a, w => ∀ w', C w' → Kept w w' → L listed a w'
  | f + 1, listed, a, w => (∃ i ∈ Region.ready md ops listed, i < n) ∧ ∀ i ∈ Region.ready md ops listed, i ≠ n + 1 → i < n ∧ ∀ o, ops[i]? = some o → stepH pb P ops C o (anyW pb P md ops C n L f (listed.setIfInBounds i true)) a w
theorem anyW_up {n : Nat} {L : Array Bool → Act → World → Prop} : ∀ (f : Nat) (listed : Array Bool) (a : Act) (w w2 : World), Kept w w2 → anyW pb P md ops C n L f listed a w → anyW pb P md ops C n L f listed a w2
  | 0, _, _, _, _, hk, h => fun w' hc hk' => h w' hc (hk.trans hk')
  | f + 1, _, _, _, _, hk, h => ⟨h.1, fun i hi hne => ⟨(h.2 i hi hne).1, fun o ho => stepH_up hk (fun a w w2 => anyW_up f _ a w w2) ((h.2 i hi hne).2 o ho)⟩⟩
theorem anyW_first {n i : Nat} {oi : Oper} {L : Array Bool → Act → World → Prop} (hi : ops[i]? = some oi) (hsel : ∀ (j : Nat) (o : Oper) cs b, ops[j]? = some o → o.op ≠ .select cs b) (hch : Chain6 pb md ops)
    (hs : Region.sinkB md ops (n + 2) = true) (hc1 : Region.chainB md ops (n + 2) = true) (hn1 : n + 2 < ops.size) (hin : i < n) (hdone : ∀ listed a w, L listed a w → ∀ j ∈ Region.ready md ops listed, n < j) :
    ∀ (f : Nat) (listed : Array Bool) (a : Act) (w : World), C w → HeadInv md ops (n + 2) listed → listed.getD n false = true → (∀ m, m < i → listed.getD m false = true) →
      (∀ j oj, ops[j]? = some oj → j ≠ i → listed.getD j true = false → (∀ e ∈ oj.after, Region.binds md e = true → e.on ≠ i) → oi.apart ops oj = true) →
      i ∈ Region.ready md ops listed → stepH pb P ops C oi (anyW pb P md ops C n L f (listed.setIfInBounds i true)) a w → anyW pb P md ops C n L (f + 1) listed a w := by
  intro f
  induction f with
  | zero =>
    intro listed a w hw inv hnl hlow hfree hr H
    have hun := (mem_ready.1 hr).1
    refine ⟨⟨i, hr, hin⟩, fun j hj hjs => ?_⟩
    have hjn : j < n := by
      rcases Nat.lt_or_ge j (n + 2) with h | h
      · rcases Nat.lt_or_ge j n with h5 | h5
        · exact h5
        · have e : j = n := by omega
          subst e
          rw [getD_both (mem_ready.1 hj).1] at hnl; cases hnl
      · exact absurd hj (tail_waits hs hc1 hn1 inv _ i rfl (by omega) hun j h)
    refine ⟨hjn, fun oj hoj => ?_⟩
    by_cases hji : j = i
    · subst hji; rw [hoj] at hi; cases hi; exact H
    · exfalso
      have hr2 := ready_mono hj hji
      rcases H with ⟨v, _, h⟩ | ⟨_, _, hm⟩
      · have := hdone _ _ _ (h w hw (Kept.refl w)) j hr2; omega
      · obtain ⟨v, w', hc', h⟩ := callUpon_some (hm w hw (Kept.refl w))
        have := hdone _ _ _ (h.2 w' hc' (Kept.refl w')) j hr2; omega
  | succ f ih =>
    intro listed a w hw inv hnl hlow hfree hr H
    have hun := (mem_ready.1 hr).1
    refine ⟨⟨i, hr, hin⟩, fun j hj hjs => ?_⟩
    have hjn : j < n := by
      rcases Nat.lt_or_ge j (n + 2) with h | h
      · rcases Nat.lt_or_ge j n with h5 | h5
        · exact h5
        · have e : j = n := by omega
          subst e
          rw [getD_both (mem_ready.1 hj).1] at hnl; cases hnl
      · exact absurd hj (tail_waits hs hc1 hn1 inv _ i rfl (by omega) hun j h)
    refine ⟨hjn, fun oj hoj => ?_⟩
    by_cases hji : j = i
    · subst hji; rw [hoj] at hi; cases hi; exact H
    obtain ⟨hjun, oj', hoj', hall⟩ := mem_ready.1 hj
    rw [hoj] at hoj'; cases hoj'
    have hij : i < j := by
      rcases Nat.lt_or_ge i j with h | h
      · exact h
      · have h1 := hlow j (by omega)
        rw [getD_both hjun] at h1; cases h1
    have hnot : ∀ e ∈ oj.after, Region.binds md e = true → e.on ≠ i := fun e he hb heq => by
      have h1 := hall e he hb
      rw [heq, getD_both hun] at h1; cases h1
    have hap := hfree j oj hoj hji hjun hnot
    obtain ⟨h1, h2, h3⟩ := Oper.apart_spec hap
    have ej : ∀ v, execOp (a.put oi.dst v).eval oj = execOp a.eval oj := fun v => execOp_put oj (fun cs b => hsel j oj cs b hoj) a oi.dst v h1
    have wj : ∀ v, Region.wanted oj (yielded ops (a.put oi.dst v).tmps) = Region.wanted oj (yielded ops a.tmps) := fun v => wanted_put oj a oi.dst v h1
    have ei : ∀ u, execOp (a.put oj.dst u).eval oi = execOp a.eval oi := fun u => execOp_put oi (fun cs b => hsel i oi cs b hi) a oj.dst u h3
    have wi : ∀ u, Region.wanted oi (yielded ops (a.put oj.dst u).tmps) = Region.wanted oi (yielded ops a.tmps) := fun u => wanted_put oi a oj.dst u h3
    have inv' : HeadInv md ops (n + 2) (listed.setIfInBounds j true) := inv.set hj (by omega)
    have hnl' : (listed.setIfInBounds j true).getD n false = true := getD_set_true hnl
    have hlow' : ∀ m, m < i → (listed.setIfInBounds j true).getD m false = true := fun m hm => getD_set_true (hlow m hm)
    have hfree' : ∀ k ok, ops[k]? = some ok → k ≠ i → (listed.setIfInBounds j true).getD k true = false → (∀ e ∈ ok.after, Region.binds md e = true → e.on ≠ i) → oi.apart ops ok = true := fun k ok hk hki hun hno => by
      refine hfree k ok hk hki ?_ hno
      by_cases hjk : j = k
      · subst hjk; exact hjun
      · rwa [getD_set_ne true hjk] at hun
    have hr' : i ∈ Region.ready md ops (listed.setIfInBounds j true) := ready_mono hr (Ne.symm hji)
    have hcomm : (listed.setIfInBounds i true).setIfInBounds j true = (listed.setIfInBounds j true).setIfInBounds i true := Array.setIfInBounds_comm _ _ (Ne.symm hji)
    have next : ∀ {v : Value} {w' : World}, anyW pb P md ops C n L (f + 1) (listed.setIfInBounds i true) (a.put oi.dst v) w' → stepH pb P ops C oj (anyW pb P md ops C n L f ((listed.setIfInBounds j true).setIfInBounds i true)) (a.put oi.dst v) w' := fun h => by
      have := (h.2 j (ready_mono hj hji) hjs).2 oj hoj
      rwa [hcomm] at this
    rcases H with ⟨v, hv, hK⟩ | ⟨hwi, hpi, hm⟩
    · rcases next hK with ⟨u, hu, hK'⟩ | ⟨hwj, hpj, hm'⟩
      · refine .inl ⟨u, quietU_same (ej v).symm (wj v).symm hu, ih _ _ _ hw inv' hnl' hlow' hfree' hr' (.inl ⟨v, quietU_same (ei u) (wi u) hv, ?_⟩)⟩
        rw [Act.put_comm a v u h2] at hK'
        exact hK'
      · refine .inr ⟨by rw [← wj v]; exact hwj, hpj, fun w' hc hk => ?_⟩
        have h5 := hm' w' hc hk
        rw [ej v] at h5
        refine callUpon_mono (P := P) (C := C) (fun u w2 hc2 hk2 => ⟨hk2.1, ih _ _ _ hc2 inv' hnl' hlow' hfree' hr' (.inl ⟨v, quietU_same (ei u) (wi u) hv, ?_⟩)⟩) h5
        rw [← Act.put_comm a v u h2]
        exact hk2.2
    · have still : ∀ {v : Value} {w' : World}, anyW pb P md ops C n L (f + 1) (listed.setIfInBounds i true) (a.put oi.dst v) w' → ∃ u, quietU pb P ops C oj u a ∧ anyW pb P md ops C n L f ((listed.setIfInBounds j true).setIfInBounds i true) ((a.put oi.dst v).put oj.dst u) w' := fun {v w'} h => by
        rcases next h with ⟨u, hu, hK'⟩ | ⟨_, hpj, _⟩
        · exact ⟨u, quietU_same (ej v).symm (wj v).symm hu, hK'⟩
        · exact absurd hj (hch i j oi oj hij hi hoj hpi hpj listed (headInv_all inv) hun)
      obtain ⟨v0, w0, hc0, hK0⟩ := callUpon_some (hm w hw (Kept.refl w))
      obtain ⟨u, hu, _⟩ := still hK0.2
      refine .inl ⟨u, hu, ih _ _ _ hw inv' hnl' hlow' hfree' hr' (.inr ⟨by rw [wi u]; exact hwi, hpi, fun w' hc hk => ?_⟩)⟩
      rw [ei u]
      refine callUpon_mono (P := P) (C := C) (fun v w2 hc2 hk2 => ?_) (hm w' hc hk)
      obtain ⟨u', hu', hk'⟩ := still hk2.2
      rw [quietU_uniq hw hu hu', ← Act.put_comm a v u' h2]
      exact ⟨hk2.1, hk'⟩
/-- Behind the head: the store alone may come, then the tail in its order. -/
def endB (md : Region.Mode) (ops : Array Oper) (g n : Nat) (listed : Array Bool) : Bool := decide (Region.ready md ops listed = [n + 1]) && Region.seqB md ops g (n + 2) (listed.setIfInBounds (n + 1) true)
def lexWd (md : Region.Mode) (ops : Array Oper) (g n : Nat) : Nat → Nat → Array Bool → Bool
  | 0, _, listed => endB md ops g n listed
  | f + 1, k, listed => (Region.ready md ops listed).contains k && Region.free md ops listed k && lexWd md ops g n f (k + 1) (listed.setIfInBounds k true)
theorem endB_ready {g n : Nat} {listed : Array Bool} (h : endB md ops g n listed = true) : ∀ j ∈ Region.ready md ops listed, j = n + 1 := by
  unfold endB at h
  simp only [Bool.and_eq_true, decide_eq_true_eq] at h
  intro j hj
  rw [h.1] at hj
  simpa using hj
theorem anyW_lex {n g : Nat} {Lq : Act → World → Prop} (hsel : Region.noSelect ops = true) (hch : Chain6 pb md ops) (hs : Region.sinkB md ops (n + 2) = true) (hc1 : Region.chainB md ops (n + 2) = true) (hn1 : n + 2 < ops.size) :
    ∀ (l : List Oper) (k : Nat) (listed : Array Bool) (a : Act) (w : World), C w → (∀ j, j < l.length → l[j]? = ops[k + j]?) → k + l.length = n → HeadInv md ops (n + 2) listed → listed.getD n false = true → (∀ m, m < k → listed.getD m false = true) →
    lexWd md ops g n l.length k listed = true → seqH pb P ops C Lq l a w → anyW pb P md ops C n (fun listed' a' w' => endB md ops g n listed' = true ∧ Lq a' w') l.length listed a w
  | [], _, _, _, _, _, _, _, _, _, _, hB, h => fun w' hc hk => ⟨hB, h w' hc hk⟩
  | o :: l, k, listed, a, w, hw, hl, hkn, inv, hnl, hlow, hB, h => by
    have h0 : ops[k]? = some o := by simpa using (hl 0 (by simp)).symm
    simp only [List.length_cons] at hkn
    simp only [List.length_cons, lexWd, Bool.and_eq_true] at hB
    obtain ⟨⟨hr, hf⟩, hB'⟩ := hB
    have hr : k ∈ Region.ready md ops listed := by simpa using hr
    refine anyW_first h0 (Region.noSelect_spec hsel) hch hs hc1 hn1 (by omega) (fun listed' a' w' hL j hj => by rw [endB_ready hL.1 j hj]; omega) l.length listed a w hw inv hnl hlow (Region.free_spec h0 hf) hr (stepH_mono hw (fun a' w' hw' h' => ?_) h)
    refine anyW_lex hsel hch hs hc1 hn1 l (k + 1) _ a' w' hw' (fun j hj => by have := hl (j + 1) (by simp; omega); simpa [Nat.add_assoc, Nat.add_comm 1 j] using this) (by omega) (inv.set hr (by omega)) (getD_set_true hnl) (fun m hm => ?_) hB' h'
    rcases Nat.lt_or_ge m k with h5 | h5
    · exact getD_set_true (hlow m h5)
    · have : m = k := by omega
      subst this
      have : m < listed.size := by rw [inv.size]; omega
      simp [this]
theorem put_getD {a : Act} {x : Option Tmp} {v : Value} {s : Nat} (h : x ≠ some s) : (a.put x v).tmps.getD s undef = a.tmps.getD s undef := by
  simp only [Array.getD_eq_getD_getElem?]
  rw [put_tmps_ne h]
/-- A slot whose operation is listed is at the end as it is now. -/
theorem anyW_slot {n s : Nat} {L : Array Bool → Act → World → Prop} : ∀ (f : Nat) (listed : Array Bool) (a : Act) (w : World), C w → (∀ i o, i < n → ops[i]? = some o → o.dst = some s → listed.getD i true = true) → anyW pb P md ops C n L f listed a w → ∃ listed' A w', L listed' A w' ∧ A.tmps.getD s undef = a.tmps.getD s undef
  | 0, listed, a, w, hw, _, h => ⟨listed, a, w, h w hw (Kept.refl w), rfl⟩
  | f + 1, listed, a, w, hw, hsl, h => by
    obtain ⟨⟨i, hi, hin⟩, hall⟩ := h
    obtain ⟨hun, o, ho, _⟩ := mem_ready.1 hi
    have hne : o.dst ≠ some s := fun e => by rw [hsl i o hin ho e] at hun; cases hun
    have hsl' : ∀ j o', j < n → ops[j]? = some o' → o'.dst = some s → (listed.setIfInBounds i true).getD j true = true := fun j o' hj ho' hd => by
      by_cases hij : i = j
      · subst hij; rw [ho'] at ho; cases ho; exact absurd hd hne
      · rw [getD_set_ne true hij]; exact hsl j o' hj ho' hd
    rcases (hall i hi (by omega)).2 o ho with ⟨v, _, hK⟩ | ⟨_, _, hm⟩
    · obtain ⟨l', A, w', hL, he⟩ := anyW_slot f _ _ w hw hsl' hK
      exact ⟨l', A, w', hL, by rw [he, put_getD hne]⟩
    · obtain ⟨v, w1, hc1, hK⟩ := callUpon_some (hm w hw (Kept.refl w))
      obtain ⟨l', A, w', hL, he⟩ := anyW_slot f _ _ w1 hc1 hsl' hK.2
      exact ⟨l', A, w', hL, by rw [he, put_getD hne]⟩
/-- What is needed of the operations that make and write the variable. -/
structure WritesVar (pb : Oper → Bool) (P : Program) (md : Region.Mode) (ops : Array Oper) (n d s : Nat) (t : TypeId) (z : Array Value) (on os : Oper) : Prop where
  at_ : ops[n]? = some on
  dst : on.dst = some d
  noGuard : on.guard = none
  free : on.after = #[]
  apart : ∀ j oj, j < n → ops[j]? = some oj → on.apart ops oj = true
  run : ∀ (ev : Operand → Value) (w : World), (execOp ev on).run P w = .ok (.value (.pointer (some ⟨w.heap.size, 0, none⟩))) (w.alloc (.cells z t))
  sat : ops[n + 1]? = some os
  sop : os.op = .store t (.tmp d) (.tmp s)
  sdst : os.dst = none
  sguard : os.guard = none
  spb : pb os = false
  swaits : Region.waitsFor md ops (n + 1) n = true
  slot : ∀ i o, i < n → ops[i]? = some o → o.dst = some s → Region.waitsFor md ops (n + 1) i = true
  later : ∀ i, i < n → Region.waitsFor md ops i (n + 1) = false
  ne : d ≠ s
section
variable {n d s g : Nat} {t : TypeId} {z : Array Value} {on os : Oper} {W : World} {Q' : Exit → Act → World → Prop} {Fin : Act → Prop}
/-- Made and written. -/
theorem runC {g0 : Nat} {cs : Array Value} (hv : WritesVar pb P md ops n d s t z on os) (hsel : Region.noSelect ops = true) (hs2 : Region.sinkB md ops (n + 2) = true) (hc2 : Region.chainB md ops (n + 2) = true) (hn2 : n + 2 < ops.size)
    (hL : ∀ listed a w, Later W w → Region.seqB md ops g (n + 2) listed = true → Fin a → a.tmps.getD s undef = .agg cs → d < a.tmps.size → Blk w g0 t cs → wpAny P md ops Q' g listed (a.put (some d) (.pointer (some ⟨g0, 0, none⟩))) w) :
    ∀ (f : Nat) (listed : Array Bool) (a : Act) (w ws : World), Later W w → Later W ws → Blk ws g0 t cs → a.tmps.getD s undef = .agg cs → d < a.tmps.size → (∀ i o, i < n → ops[i]? = some o → (pb o = false ∨ o.dst = some s) → listed.getD i true = true) → HeadInv md ops (n + 2) (listed.setIfInBounds (n + 1) true) → listed.getD n true = true →
      anyW pb P md ops (Later W) n (fun listed' a' _ => endB md ops g n listed' = true ∧ Fin a') f listed a w → wpAny P md ops Q' (f + g) (listed.setIfInBounds (n + 1) true) (a.put (some d) (.pointer (some ⟨g0, 0, none⟩))) ws
  | 0, listed, a, w, ws, hw, hws, hb, hs, hd, _, _, _, h => by
    rw [Nat.zero_add]
    have := h w hw (Kept.refl w)
    have he := this.1
    unfold endB at he
    simp only [Bool.and_eq_true, decide_eq_true_eq] at he
    exact hL _ _ _ hws he.2 this.2 hs hd hb
  | f + 1, listed, a, w, ws, hw, hws, hb, hs, hd, hmov, inv, hnl, h => by
    rw [show f + 1 + g = (f + g) + 1 by omega]
    obtain ⟨⟨i0, hi0, hin0⟩, hall⟩ := h
    have hun0 : (listed.setIfInBounds (n + 1) true).getD i0 true = false := by rw [getD_set_ne true (by omega)]; exact (mem_ready.1 hi0).1
    refine ⟨fun h0 => ?_, fun i hi => ?_⟩
    · have := ready_mono hi0 (show i0 ≠ n + 1 by omega)
      rw [h0] at this; cases this
    · obtain ⟨hun2, o, ho, haft⟩ := mem_ready.1 hi
      have hlt2 : i < n + 2 := by
        rcases Nat.lt_or_ge i (n + 2) with h5 | h5
        · exact h5
        · exact absurd hi (tail_waits hs2 hc2 hn2 inv _ i0 rfl (by omega) hun0 i h5)
      have hne1 : i ≠ n + 1 := fun e => by
        subst e
        have hsz := inv.size
        simp at hsz
        have : n + 1 < listed.size := by omega
        simp [this] at hun2
      have hin : i < n := by
        rcases Nat.lt_or_ge i n with h5 | h5
        · exact h5
        · have e : i = n := by omega
          subst e
          rw [getD_set_ne true (by omega), hnl] at hun2; cases hun2
      have hunl : listed.getD i true = false := by rwa [getD_set_ne true (Ne.symm hne1)] at hun2
      have hri : i ∈ Region.ready md ops listed := mem_ready.2 ⟨hunl, o, ho, fun e he hbd => by
        have h5 := haft e he hbd
        have hne : e.on ≠ n + 1 := fun e1 => by
          have h6 := hv.later i hin
          unfold Region.waitsFor at h6
          rw [ho] at h6
          simp only at h6
          rw [Array.any_eq_false'] at h6
          have h7 := h6 e he
          simp [hbd, e1] at h7
        rwa [getD_set_ne false (Ne.symm hne)] at h5⟩
      have hpb : pb o = true := by
        cases hp : pb o
        · rw [hmov i o hin ho (.inl hp)] at hunl; cases hunl
        · rfl
      have hds : o.dst ≠ some s := fun e => by rw [hmov i o hin ho (.inr e)] at hunl; cases hunl
      obtain ⟨h1, h2, h3⟩ := Oper.apart_spec (hv.apart i o hin ho)
      rw [hv.dst] at h1 h2
      rcases (hall i hri hne1).2 o ho with ⟨v, hq, hK⟩ | ⟨_, hp2, _⟩
      · refine wpOp_of_stepH (pb := pb) (C := Later W) (a := a) (K := fun a' w' => a' = a.put o.dst v ∧ Blk w' g0 t cs) ho hws (execOp_put o (fun cs b => Region.noSelect_spec hsel i o cs b ho) a (some d) _ h1) (wanted_put o a (some d) _ h1) (fun v2 w2 hc2' hk2 hK2 => ?_) (fun a w w2 hk h => ⟨h.1, h.2.kept hk⟩) (.inl ⟨v, hq, rfl, hb⟩)
        obtain ⟨e, hb2⟩ := hK2
        rw [Act.put_comm a _ v2 h2, e, Array.setIfInBounds_comm _ _ (Ne.symm hne1)]
        refine runC hv hsel hs2 hc2 hn2 hL f _ _ w w2 hw hc2' hb2 (by rw [put_getD hds]; exact hs) (by rw [put_size]; exact hd) (fun j o' hj ho' hp' => ?_) (by rw [Array.setIfInBounds_comm _ _ hne1]; exact inv.set hi hlt2) (by rw [getD_set_ne true (by omega)]; exact hnl) hK
        by_cases hij : i = j
        · subst hij; rw [ho'] at ho; cases ho
          rcases hp' with hp' | hp'
          · rw [hpb] at hp'; cases hp'
          · exact absurd hp' hds
        · rw [getD_set_ne true hij]; exact hmov j o' hj ho' hp'
      · rw [hpb] at hp2; cases hp2
/-- What the walk of the head ends in. -/
structure Ends (P : Program) (ops : Array Oper) (Q : Exit → Act → World → Prop) (W : World) (t : TypeId) (z : Array Value) (d s : Nat) (tail : List Oper) (a : Act) : Prop where
  cs : ∃ cs : Array Value, a.tmps.getD s undef = .agg cs ∧ (P.info? t).map (·.size) = some cs.size ∧ z.size = cs.size ∧ cs.all (·.oneCell') = true ∧
    ∀ g w', Later W w' → W.heap.size ≤ g → Blk w' g t cs → wpList P ops Q tail (a.put (some d) (.pointer (some ⟨g, 0, none⟩))) w'
/-- Made, not yet written. -/
theorem runB {g0 : Nat} {tail : List Oper} (hv : WritesVar pb P md ops n d s t z on os) (hsel : Region.noSelect ops = true) (hs2 : Region.sinkB md ops (n + 2) = true) (hc2 : Region.chainB md ops (n + 2) = true) (hn2 : n + 2 < ops.size) (hch : Chain6 pb md ops) (hg0 : W.heap.size ≤ g0)
    (htl : ∀ j, tail[j]? = ops[n + 2 + j]?) (htg : tail.length = g) :
    ∀ (f : Nat) (listed : Array Bool) (a : Act) (w : World), Later W w → Blk w g0 t z → d < a.tmps.size → HeadInv md ops (n + 2) listed → listed.getD n true = true → listed.getD (n + 1) true = false →
      anyW pb P md ops (Later W) n (fun listed' a' _ => endB md ops g n listed' = true ∧ Ends P ops Q' W t z d s tail a') f listed a w → wpAny P md ops Q' (f + 1 + g) listed (a.put (some d) (.pointer (some ⟨g0, 0, none⟩))) w := by
  intro f
  induction f with
  | zero =>
    intro listed a w hw hb hd inv hnl hun1 h
    rw [show 0 + 1 + g = g + 1 by omega]
    have h0 := h w hw (Kept.refl w)
    have he := h0.1
    unfold endB at he
    simp only [Bool.and_eq_true, decide_eq_true_eq] at he
    refine ⟨fun h5 => (by rw [he.1] at h5; cases h5), fun i hi => ?_⟩
    rw [he.1] at hi
    have e : i = n + 1 := by simpa using hi
    subst e
    obtain ⟨cs, hcs, hinfo, hz, h1, hfin⟩ := h0.2.cs
    unfold wpOp
    simp only [hv.sat]
    rw [if_pos (by unfold Region.wanted; rw [hv.sguard])]
    left
    refine wp_store_row t (.tmp d) (.tmp s) hv.sop g0 cs ?_ ?_ t z hb hinfo hz h1 ?_
    · show (a.put (some d) _).tmps.getD d undef = _
      simp only [Array.getD_eq_getD_getElem?]
      rw [put_tmps_eq hd]; rfl
    · show (a.put (some d) _).tmps.getD s undef = _
      rw [put_getD (by simp only [ne_eq, Option.some.injEq]; exact hv.ne)]; exact hcs
    · rw [hv.sdst]
      have hw2 : Later W (w.setRow g0 cs) := Later.of (Kept.setRow (Later.kept hw) hg0 cs)
      have := wpAny_of_seq (md := md) (Q' := Q') tail (n + 2) (listed.setIfInBounds (n + 1) true) (a.put (some d) (.pointer (some ⟨g0, 0, none⟩))) (w.setRow g0 cs) htl (by rw [htg]; exact he.2) (hfin g0 _ hw2 hg0 (Blk.setRow_ hb cs))
      rwa [htg] at this
  | succ f ih =>
    intro listed a w hw hb hd inv hnl hun1 h
    rw [show f + 1 + 1 + g = (f + 1 + g) + 1 by omega]
    have hA := h
    obtain ⟨⟨i0, hi0, hin0⟩, hall⟩ := h
    refine ⟨fun h0 => (by rw [h0] at hi0; cases hi0), fun i hi => ?_⟩
    by_cases hi1 : i = n + 1
    · subst hi1
      -- all that moves the world on, and the slot's operation, are listed
      have hlst : ∀ i o, i < n → ops[i]? = some o → (pb o = false ∨ o.dst = some s) → listed.getD i true = true := fun i o hin ho hp => by
        cases hun : listed.getD i true
        · exfalso
          rcases hp with hp | hp
          · exact hch i (n + 1) o os (by omega) ho hv.sat hp hv.spb listed (headInv_all inv) hun hi
          · have h5 := hv.slot i o hin ho hp
            obtain ⟨oj, hoj, e, he, hbd, heo⟩ := Region.waitsFor_spec h5
            obtain ⟨_, oj', hoj', haft⟩ := mem_ready.1 hi
            rw [hoj] at hoj'; cases hoj'
            have h6 := haft e he hbd
            rw [heo, getD_both hun] at h6; cases h6
        · rfl
      obtain ⟨l', A, w', hLA, hAs⟩ := anyW_slot (s := s) (f + 1) listed a w hw (fun i o hin ho hp => hlst i o hin ho (.inr hp)) hA
      obtain ⟨cs, hcs, hinfo, hz, h1, _⟩ := hLA.2.cs
      rw [hAs] at hcs
      unfold wpOp
      simp only [hv.sat]
      rw [if_pos (by unfold Region.wanted; rw [hv.sguard])]
      left
      refine wp_store_row t (.tmp d) (.tmp s) hv.sop g0 cs ?_ ?_ t z hb hinfo hz h1 ?_
      · show (a.put (some d) _).tmps.getD d undef = _
        simp only [Array.getD_eq_getD_getElem?]
        rw [put_tmps_eq hd]; rfl
      · show (a.put (some d) _).tmps.getD s undef = _
        rw [put_getD (by simp only [ne_eq, Option.some.injEq]; exact hv.ne)]; exact hcs
      · rw [hv.sdst]
        have hw2 : Later W (w.setRow g0 cs) := Later.of (Kept.setRow (Later.kept hw) hg0 cs)
        refine runC (Fin := Ends P ops Q' W t z d s tail) (cs := cs) (g0 := g0) hv hsel hs2 hc2 hn2 (fun listed' a' w' hw' hB' hF hs' hd' hb' => ?_) (f + 1) listed a w _ hw hw2 (Blk.setRow_ hb cs) hcs hd hlst (inv.set hi (by omega)) hnl hA
        obtain ⟨cs', hcs', _, _, _, hfin⟩ := hF.cs
        rw [hs'] at hcs'
        injection hcs' with hcs'
        subst hcs'
        have := wpAny_of_seq (md := md) (Q' := Q') tail (n + 2) listed' _ w' htl (by rw [htg]; exact hB') (hfin g0 w' hw' hg0 hb')
        rwa [htg] at this
    · obtain ⟨hin, hst⟩ := hall i hi hi1
      obtain ⟨hun, o, ho, _⟩ := mem_ready.1 hi
      obtain ⟨h1, h2, h3⟩ := Oper.apart_spec (hv.apart i o hin ho)
      rw [hv.dst] at h1 h2
      refine wpOp_of_stepH (a := a) ho hw (execOp_put o (fun cs b => Region.noSelect_spec hsel i o cs b ho) a (some d) _ h1) (wanted_put o a (some d) _ h1) (fun v w2 hc2' hk2 hK => ?_) (fun a w w2 => anyW_up f _ a w w2) (hst o ho)
      rw [Act.put_comm a _ v h2]
      exact ih _ _ w2 hc2' (hb.kept hk2) (by rw [put_size]; exact hd) (inv.set hi (by omega)) (by rw [getD_set_ne true (by omega)]; exact hnl) (by rw [getD_set_ne true hi1]; exact hun1) hK
/-- Not yet made. -/
theorem runA {tail : List Oper} (hv : WritesVar pb P md ops n d s t z on os) (hsel : Region.noSelect ops = true) (hs2 : Region.sinkB md ops (n + 2) = true) (hc2 : Region.chainB md ops (n + 2) = true) (hn2 : n + 2 < ops.size) (hch : Chain6 pb md ops)
    (htl : ∀ j, tail[j]? = ops[n + 2 + j]?) (htg : tail.length = g) :
    ∀ (f : Nat) (listed : Array Bool) (a : Act) (w : World), Later W w → d < a.tmps.size → HeadInv md ops (n + 2) listed → listed.getD n true = false → listed.getD (n + 1) true = false →
      anyW pb P md ops (Later W) n (fun listed' a' _ => endB md ops g n listed' = true ∧ Ends P ops Q' W t z d s tail a') f (listed.setIfInBounds n true) a w → wpAny P md ops Q' (f + 2 + g) listed a w := by
  intro f
  have make : ∀ (f : Nat) (listed : Array Bool) (a : Act) (w : World), Later W w → d < a.tmps.size → HeadInv md ops (n + 2) listed → listed.getD n true = false → listed.getD (n + 1) true = false → n ∈ Region.ready md ops listed →
      anyW pb P md ops (Later W) n (fun listed' a' _ => endB md ops g n listed' = true ∧ Ends P ops Q' W t z d s tail a') f (listed.setIfInBounds n true) a w → wpOp P ops Q' n (wpAny P md ops Q' (f + 1 + g) (listed.setIfInBounds n true)) a w := by
    intro f listed a w hw hd inv hun hun1 hr h
    unfold wpOp
    simp only [hv.at_]
    rw [if_pos (by unfold Region.wanted; rw [hv.noGuard])]
    left
    unfold Oper.wp
    rw [hv.run]
    show wpAny P md ops Q' _ _ (a.put on.dst _) _
    rw [hv.dst]
    have hsz : n < listed.size := by rw [inv.size]; omega
    exact runB hv hsel hs2 hc2 hn2 hch (Later.kept hw).size htl htg f _ a (w.alloc (.cells z t)) (Later.of (Kept.alloc (Later.kept hw) _)) (Blk.new w t z) hd (inv.set hr (by omega)) (by simp [hsz]) (by rw [getD_set_ne true (by omega)]; exact hun1) (anyW_up f _ _ _ _ (Kept.alloc (Kept.refl w) _) h)
  induction f with
  | zero =>
    intro listed a w hw hd inv hun hun1 h
    rw [show 0 + 2 + g = (0 + 1 + g) + 1 by omega]
    have hnr : n ∈ Region.ready md ops listed := mem_ready.2 ⟨hun, on, hv.at_, fun e he => by rw [hv.free] at he; simp at he⟩
    refine ⟨fun h0 => (by rw [h0] at hnr; cases hnr), fun i hi => ?_⟩
    by_cases hin : i = n
    · subst hin
      exact make 0 listed a w hw hd inv hun hun1 hnr h
    · exfalso
      have h2 := (h w hw (Kept.refl w)).1
      have h3 := endB_ready h2 i (ready_mono hi hin)
      subst h3
      obtain ⟨oj, hoj, e, he, hbd, heo⟩ := Region.waitsFor_spec hv.swaits
      obtain ⟨_, oj', hoj', haft⟩ := mem_ready.1 hi
      rw [hoj] at hoj'; cases hoj'
      have h6 := haft e he hbd
      rw [heo, getD_both hun] at h6; cases h6
  | succ f ih =>
    intro listed a w hw hd inv hun hun1 h
    rw [show f + 1 + 2 + g = (f + 1 + 1 + g) + 1 by omega]
    have hnr : n ∈ Region.ready md ops listed := mem_ready.2 ⟨hun, on, hv.at_, fun e he => by rw [hv.free] at he; simp at he⟩
    refine ⟨fun h0 => (by rw [h0] at hnr; cases hnr), fun i hi => ?_⟩
    by_cases hin : i = n
    · subst hin
      exact make (f + 1) listed a w hw hd inv hun hun1 hnr h
    · have hi2 := ready_mono hi hin
      have hi1 : i ≠ n + 1 := fun e1 => by
        subst e1
        obtain ⟨oj, hoj, e, he, hbd, heo⟩ := Region.waitsFor_spec hv.swaits
        obtain ⟨_, oj', hoj', haft⟩ := mem_ready.1 hi
        rw [hoj] at hoj'; cases hoj'
        have h6 := haft e he hbd
        rw [heo, getD_both hun] at h6; cases h6
      obtain ⟨hin2, hst⟩ := h.2 i hi2 hi1
      obtain ⟨_, o, ho, _⟩ := mem_ready.1 hi
      refine wpOp_of_stepH (a := a) ho hw rfl rfl (fun v w2 hc2' hk2 hK => ?_) (fun a w w2 => anyW_up f _ a w w2) (hst o ho)
      have := ih (listed.setIfInBounds i true) (a.put o.dst v) w2 hc2' (by rw [put_size]; exact hd) (inv.set hi (by omega)) (by rw [getD_set_ne true hin]; exact hun) (by rw [getD_set_ne true hi1]; exact hun1) (by rw [Array.setIfInBounds_comm _ _ hin]; exact hK)
      rwa [show f + 1 + 1 + g = f + 2 + g by omega]
end
def apartW (ops : Array Oper) (n : Nat) (on : Oper) : Bool := (List.range n).all fun j => match ops[j]? with
  | some oj => on.apart ops oj
  | none => true
def lexAW (md : Region.Mode) (ops : Array Oper) (n d s : Nat) : Bool :=
  Region.noSelect ops && decide (n + 2 < ops.size) && Region.sinkB md ops (n + 2) && Region.chainB md ops (n + 2) && Region.waitsFor md ops (n + 1) n && decide (d ≠ s) &&
  ((List.range n).all fun i => !Region.waitsFor md ops i (n + 1) && (match ops[i]? with | some o => o.dst != some s || Region.waitsFor md ops (n + 1) i | none => true)) &&
  lexWd md ops (ops.size - (n + 2)) n n 0 ((Array.replicate ops.size false).setIfInBounds n true)
/-- The region: its head in the text's order; the variable is made and written at some moments; then its tail. -/
theorem region_seqW {id : Nat} {Q : Exit → Act → World → Prop} {a : Act} {w : World} (pb : Oper → Bool) (W : World) (hw : Later W w) {l : List Oper} (n d s : Nat) (on os : Oper) (t : TypeId) (z : Array Value) (N : Nat) (hm : P.follows .mixedOrders = true)
    (hN : a.tmps.size = N) (hdN : d < N) (hat : l[n]? = some on) (hd : on.dst = some d) (hg : on.guard = none) (haf : on.after = #[]) (hap : apartW l.toArray n on = true) (hrun : ∀ (ev : Operand → Value) (w : World), (execOp ev on).run P w = .ok (.value (.pointer (some ⟨w.heap.size, 0, none⟩))) (w.alloc (.cells z t)))
    (hsat : l[n + 1]? = some os) (hsop : os.op = .store t (.tmp d) (.tmp s)) (hsd : os.dst = none) (hsg : os.guard = none) (hsp : pb os = false)
    (hB : lexAW .any l.toArray n d s = true) (hM : movesB6 pb .any l.toArray = true)
    (h : ∀ w1, Later W w1 → seqH pb P l.toArray (fun w' => ∃ p, w' = ext W p) (fun a' _ => Ends P l.toArray Q W t z d s (l.drop (n + 2)) a') (l.take n) a w1) : (Code.region id l.toArray true).wp P Q a w := by
  simp only [lexAW, Bool.and_eq_true, decide_eq_true_eq] at hB
  obtain ⟨⟨⟨⟨⟨⟨⟨hsel, hn⟩, hs⟩, hc⟩, hsw⟩, hds⟩, hall⟩, hlex⟩ := hB
  have hn' : n + 2 < l.length := by simpa using hn
  have hpair := fun i (hi : i < n) => List.all_eq_true.1 hall i (List.mem_range.2 hi)
  have hv : WritesVar pb P .any l.toArray n d s t z on os := {
    at_ := by simpa using hat
    dst := hd
    noGuard := hg
    free := haf
    apart := fun j oj hj hoj => by
      have := List.all_eq_true.1 hap j (List.mem_range.2 hj)
      rw [hoj] at this
      exact this
    run := hrun
    sat := by simpa using hsat
    sop := hsop
    sdst := hsd
    sguard := hsg
    spb := hsp
    swaits := hsw
    slot := fun i o hi ho hdo => by
      have := hpair i hi
      simp only [Bool.and_eq_true, ho] at this
      have h2 := this.2
      rw [hdo] at h2
      simpa using h2
    later := fun i hi => by
      have := hpair i hi
      simp only [Bool.and_eq_true, Bool.not_eq_true'] at this
      exact this.1
    ne := hds }
  have htl : (l.take n).length = n := by simp; omega
  have hdl : (l.drop (n + 2)).length = l.toArray.size - (n + 2) := by simp
  refine wp_region_any hm ?_
  have h0 : Later W { w with drawn := w.drawn + 1 } := Later.of (Kept.drawn1 (Later.kept hw))
  have inv0 : HeadInv .any l.toArray (n + 2) (Array.replicate l.toArray.size false) :=
    ⟨by simp, fun j oj _ hl => (by rw [getD_replicate_false] at hl; cases hl), fun t _ ht => getD_in (by simpa using ht) (getD_replicate_false _ _)⟩
  have hun : (Array.replicate l.toArray.size false).getD n true = false := getD_in (by simp; omega) (getD_replicate_false _ _)
  have hun1 : (Array.replicate l.toArray.size false).getD (n + 1) true = false := getD_in (by simp; omega) (getD_replicate_false _ _)
  have hnr : n ∈ Region.ready .any l.toArray (Array.replicate l.toArray.size false) := mem_ready.2 ⟨hun, on, hv.at_, fun e he => by rw [haf] at he; simp at he⟩
  have H := anyW_lex (P := P) (C := Later W) (g := l.toArray.size - (n + 2)) hsel (chain_of6 hM) hs hc hn (l.take n) 0 _ a _ h0 (fun j hj => by
    have hj' : j < n := by rw [htl] at hj; exact hj
    simp [hj']) (by simpa using htl) (inv0.set hnr (by omega)) (by
      have : n < (Array.replicate l.toArray.size false).size := by simp; omega
      simp at this
      simp [this]) (fun m hm => by omega) (by rw [htl]; exact hlex) (h _ h0)
  have := runA (W := W) (Q' := Q) (g := l.toArray.size - (n + 2)) hv hsel hs hc hn (chain_of6 hM) (fun j => by simp [List.getElem?_drop]) hdl _ _ a _ h0 (by rw [hN]; exact hdN) inv0 hun hun1 H
  rw [htl, show n + 2 + (l.toArray.size - (n + 2)) = l.toArray.size by omega] at this
  exact this
end
end Pg
