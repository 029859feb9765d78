/- Regions that draw their order: a head, in the text's order over a class of worlds of the prover's choice, and a tail that waits for all of it. -/
import Derived.Test.YtemfocnjlimicaaKit5
namespace Pg
open Go Go.RowKit Go.Sort
section
variable {P : Program} {ops : Array Oper} {md : Region.Mode} {C : World → Prop}
def anyT (P : Program) (md : Region.Mode) (ops : Array Oper) (C : World → Prop) (n : Nat) (L : Array Bool → Act → World → Prop) : Nat → Array Bool → Act → World → Prop
  | 0, listed, a, w => L listed a w
  | f + 1, listed, a, w => Region.ready md ops listed ≠ [] ∧ ∀ i ∈ Region.ready md ops listed, i < n ∧ ∀ o, ops[i]? = some o → stepE P ops C o (anyT P md ops C n L f (listed.setIfInBounds i true)) a w
theorem headInv_all' {n : Nat} {listed : Array Bool} (inv : HeadInv md ops n listed) : HeadInv md ops ops.size listed := ⟨inv.size, inv.closed, fun t h1 h2 => by omega⟩
theorem anyT_first {n i : Nat} {oi : Oper} {L : Array Bool → Act → World → Prop} (hi : ops[i]? = some oi) (hsel : ∀ (j : Nat) (o : Oper) cs b, ops[j]? = some o → o.op ≠ .select cs b) (hch : Chain md ops)
    (hs : Region.sinkB md ops n = true) (hc1 : Region.chainB md ops n = true) (hn1 : n < ops.size) (hin : i < n) (hdone : ∀ listed a w, L listed a w → ∀ j ∈ Region.ready md ops listed, n ≤ j) :
    ∀ (f : Nat) (listed : Array Bool) (a : Act) (w : World), C w → HeadInv md ops n listed → (∀ m, m < i → listed.getD m false = true) →
      (∀ j oj, ops[j]? = some oj → j ≠ i → listed.getD j true = false → (∀ e ∈ oj.after, Region.binds md e = true → e.on ≠ i) → oi.apart ops oj = true) →
      i ∈ Region.ready md ops listed → stepE P ops C oi (anyT P md ops C n L f (listed.setIfInBounds i true)) a w → anyT P md ops C n L (f + 1) listed a w := by
  intro f
  induction f with
  | zero =>
    intro listed a w hw inv hlow hfree hr H
    have hun := (mem_ready.1 hr).1
    refine ⟨fun h => (by rw [h] at hr; cases hr), fun j hj => ?_⟩
    have hjn : j < n := by
      rcases Nat.lt_or_ge j n with h | h
      · exact h
      · exact absurd hj (tail_waits hs hc1 hn1 inv _ i rfl hin hun j h)
    refine ⟨hjn, fun oj hoj => ?_⟩
    by_cases hji : j = i
    · subst hji; rw [hoj] at hi; cases hi; exact H
    · exfalso
      have hr2 := ready_mono hj hji
      rcases H with ⟨v, _, h⟩ | hm
      · have := hdone _ _ _ h j hr2; omega
      · obtain ⟨v, w', _, h⟩ := callUpon_some hm.2.2
        have := hdone _ _ _ h j hr2; omega
  | succ f ih =>
    intro listed a w hw inv hlow hfree hr H
    have hun := (mem_ready.1 hr).1
    refine ⟨fun h => (by rw [h] at hr; cases hr), fun j hj => ?_⟩
    have hjn : j < n := by
      rcases Nat.lt_or_ge j n with h | h
      · exact h
      · exact absurd hj (tail_waits hs hc1 hn1 inv _ i rfl hin hun j h)
    refine ⟨hjn, fun oj hoj => ?_⟩
    by_cases hji : j = i
    · subst hji; rw [hoj] at hi; cases hi; exact H
    obtain ⟨hjun, oj', hoj', hall⟩ := mem_ready.1 hj
    rw [hoj] at hoj'; cases hoj'
    have hisz : i < ops.size := (Array.getElem?_eq_some_iff.1 hi).1
    have hjsz : j < ops.size := (Array.getElem?_eq_some_iff.1 hoj).1
    have hij : i < j := by
      rcases Nat.lt_or_ge i j with h | h
      · exact h
      · have h1 := hlow j (by omega)
        rw [getD_both hjun] at h1; cases h1
    have hnot : ∀ e ∈ oj.after, Region.binds md e = true → e.on ≠ i := fun e he hb heq => by
      have h1 := hall e he hb
      rw [heq, getD_both hun] at h1; cases h1
    have hap := hfree j oj hoj hji hjun hnot
    obtain ⟨h1, h2, h3⟩ := Oper.apart_spec hap
    have ej : ∀ v, execOp (a.put oi.dst v).eval oj = execOp a.eval oj := fun v => execOp_put oj (fun cs b => hsel j oj cs b hoj) a oi.dst v h1
    have wj : ∀ v, Region.wanted oj (yielded ops (a.put oi.dst v).tmps) = Region.wanted oj (yielded ops a.tmps) := fun v => wanted_put oj a oi.dst v h1
    have ei : ∀ u, execOp (a.put oj.dst u).eval oi = execOp a.eval oi := fun u => execOp_put oi (fun cs b => hsel i oi cs b hi) a oj.dst u h3
    have wi : ∀ u, Region.wanted oi (yielded ops (a.put oj.dst u).tmps) = Region.wanted oi (yielded ops a.tmps) := fun u => wanted_put oi a oj.dst u h3
    have inv' : HeadInv md ops n (listed.setIfInBounds j true) := inv.set hj hjn
    have hlow' : ∀ m, m < i → (listed.setIfInBounds j true).getD m false = true := fun m hm => getD_set_true (hlow m hm)
    have hfree' : ∀ k ok, ops[k]? = some ok → k ≠ i → (listed.setIfInBounds j true).getD k true = false → (∀ e ∈ ok.after, Region.binds md e = true → e.on ≠ i) → oi.apart ops ok = true := fun k ok hk hki hun hno => by
      refine hfree k ok hk hki ?_ hno
      by_cases hjk : j = k
      · subst hjk; exact hjun
      · rwa [getD_set_ne true hjk] at hun
    have hr' : i ∈ Region.ready md ops (listed.setIfInBounds j true) := ready_mono hr (Ne.symm hji)
    have hcomm : (listed.setIfInBounds i true).setIfInBounds j true = (listed.setIfInBounds j true).setIfInBounds i true := Array.setIfInBounds_comm _ _ (Ne.symm hji)
    have next : ∀ {v : Value} {w' : World}, anyT P md ops C n L (f + 1) (listed.setIfInBounds i true) (a.put oi.dst v) w' → stepE P ops C oj (anyT P md ops C n L f ((listed.setIfInBounds j true).setIfInBounds i true)) (a.put oi.dst v) w' := fun h => by
      have := (h.2 j (ready_mono hj hji)).2 oj hoj
      rwa [hcomm] at this
    rcases H with ⟨v, hv, hK⟩ | hm
    · rcases next hK with ⟨u, hu, hK'⟩ | hm'
      · refine .inl ⟨u, stillV_same (ej v).symm (wj v).symm hu, ih _ _ _ hw inv' hlow' hfree' hr' (.inl ⟨v, stillV_same (ei u) (wi u) hv, ?_⟩)⟩
        rw [Act.put_comm a v u h2] at hK'
        exact hK'
      · refine .inr (moveV_mono (fun u w' hc hk => ih _ _ _ hc inv' hlow' hfree' hr' (.inl ⟨v, stillV_same (ei u) (wi u) hv, ?_⟩)) (moveV_same (ej v).symm (wj v).symm hm'))
        rw [Act.put_comm a v u h2] at hk
        exact hk
    · have hpi := hm.2.1
      have still : ∀ {v : Value} {w' : World}, anyT P md ops C n L (f + 1) (listed.setIfInBounds i true) (a.put oi.dst v) w' → ∃ u, stillV P ops C oj u a ∧ anyT P md ops C n L f ((listed.setIfInBounds j true).setIfInBounds i true) ((a.put oi.dst v).put oj.dst u) w' := fun {v w'} h => by
        rcases next h with ⟨u, hu, hK'⟩ | hm'
        · exact ⟨u, stillV_same (ej v).symm (wj v).symm hu, hK'⟩
        · exact absurd hj (hch i j oi oj hij hi hoj hpi hm'.2.1 listed (headInv_all' inv) hun)
      obtain ⟨v0, w0, hc0, hK0⟩ := callUpon_some hm.2.2
      obtain ⟨u, hu, _⟩ := still hK0
      refine .inl ⟨u, hu, ih _ _ _ hw inv' hlow' hfree' hr' (.inr (moveV_same (ei u) (wi u) (moveV_mono (fun v w' hc hk => ?_) hm)))⟩
      obtain ⟨u', hu', hk'⟩ := still hk
      rw [stillV_uniq hw hu hu', ← Act.put_comm a v u' h2]
      exact hk'
theorem anyT_lex {n g : Nat} {Lq : Act → World → Prop} (hsel : Region.noSelect ops = true) (hch : Chain md ops) (hs : Region.sinkB md ops n = true) (hc1 : Region.chainB md ops n = true) (hn1 : n < ops.size) :
    ∀ (l : List Oper) (k : Nat) (listed : Array Bool) (a : Act) (w : World), C w → (∀ j, j < l.length → l[j]? = ops[k + j]?) → k + l.length = n → HeadInv md ops n listed → (∀ m, m < k → listed.getD m false = true) →
    Region.lexHead md ops g l.length k listed = true → seqE P ops C Lq l a w →
    anyT P md ops C n (fun listed' a' w' => Region.seqB md ops g n listed' = true ∧ Lq a' w') l.length listed a w
  | [], k, listed, a, w, _, _, hk, _, _, hB, h => by
    have : k = n := by simpa using hk
    subst this
    exact ⟨by simpa [Region.lexHead] using hB, h⟩
  | o :: l, k, listed, a, w, hw, hl, hk, inv, hlow, hB, h => by
    have h0 : ops[k]? = some o := by simpa using (hl 0 (by simp)).symm
    simp only [List.length_cons, Region.lexHead, Bool.and_eq_true] at hB
    obtain ⟨⟨hr, hf⟩, hB'⟩ := hB
    have hkn : k < n := by simp only [List.length_cons] at hk; omega
    have hks : k < ops.size := by omega
    have hr' : k ∈ Region.ready md ops listed := by simpa using hr
    refine anyT_first h0 (Region.noSelect_spec hsel) hch hs hc1 hn1 hkn (fun listed' a' w' hL => seqB_ready hL.1) l.length listed a w hw inv hlow (Region.free_spec h0 hf) hr' (stepE_mono hw (fun a' w' hw' h' => ?_) h)
    refine anyT_lex hsel hch hs hc1 hn1 l (k + 1) _ a' w' hw' (fun j hj => by have := hl (j + 1) (by simp; omega); simpa [Nat.add_assoc, Nat.add_comm 1 j] using this) (by simp only [List.length_cons] at hk; omega) (inv.set hr' hkn) (fun m hm => ?_) hB' h'
    rcases Nat.lt_or_ge m k with h5 | h5
    · exact getD_set_true (hlow m h5)
    · have : m = k := by omega
      subst this
      have : m < listed.size := by rw [inv.size]; exact hks
      simp [this]
theorem wpAny_of_anyT {n g : Nat} {L : Array Bool → Act → World → Prop} {Q' : Exit → Act → World → Prop} (hL : ∀ listed a w, C w → L listed a w → wpAny P md ops Q' g listed a w) :
    ∀ (f : Nat) (listed : Array Bool) (a : Act) (w : World), C w → anyT P md ops C n L f listed a w → wpAny P md ops Q' (f + g) listed a w
  | 0, listed, a, w, hw, h => by rw [Nat.zero_add]; exact hL _ _ _ hw h
  | f + 1, listed, a, w, hw, h => by
    rw [show f + 1 + g = (f + g) + 1 by omega]
    refine ⟨fun h0 => absurd h0 h.1, fun i hi => ?_⟩
    obtain ⟨_, o, ho, _⟩ := mem_ready.1 hi
    exact wpOp_of_stepE ho hw (fun a' w' hw' h' => wpAny_of_anyT hL f _ a' w' hw' h') ((h.2 i hi).2 o ho)
/-- The region: its first n operations in the text's order, over a class of worlds; then the others. -/
theorem region_seqT {id : Nat} {Q : Exit → Act → World → Prop} {a : Act} {w : World} (C : World → Prop) (n : Nat) (h0 : C { w with drawn := w.drawn + 1 }) {l : List Oper} (hm : P.follows .mixedOrders = true) (hB : Region.lexTailB .any l.toArray n = true) (hM : movesB .any l.toArray = true)
    (h : ∀ w1, w1 = { w with drawn := w.drawn + 1 } → seqE P l.toArray C (fun a' w' => wpList P l.toArray Q (l.drop n) a' w') (l.take n) a w1) : (Code.region id l.toArray true).wp P Q a w := by
  simp only [Region.lexTailB, Bool.and_eq_true, decide_eq_true_eq] at hB
  obtain ⟨⟨⟨⟨hsel, hn⟩, hs⟩, hc⟩, hlex⟩ := hB
  have hn' : n < l.length := by simpa using hn
  have htl : (l.take n).length = n := by simp; omega
  have hdl : (l.drop n).length = l.toArray.size - n := by simp
  have inv0 : HeadInv .any l.toArray n (Array.replicate l.toArray.size false) :=
    ⟨by simp, fun j oj _ hl => (by rw [getD_replicate_false] at hl; cases hl), fun t _ ht => getD_in (by simpa using ht) (getD_replicate_false _ _)⟩
  have H := anyT_lex (P := P) (C := C) (md := .any) (g := l.toArray.size - n) hsel (chain_of hM) hs hc hn (l.take n) 0 _ a _ h0 (fun j hj => by
    have hj' : j < n := by rw [htl] at hj; exact hj
    simp [hj']) (by simpa using htl) inv0 (fun m hm => by omega) (by rw [htl]; exact hlex) (h _ rfl)
  refine wp_region_any hm ?_
  have := wpAny_of_anyT (C := C) (Q' := Q) (g := l.toArray.size - n) (fun listed a' w' _ hL => by
    have := wpAny_of_seq (md := .any) (Q' := Q) (l.drop n) n listed a' w' (fun j => by simp [List.getElem?_drop]) (by rw [hdl]; exact hL.1) hL.2
    rwa [hdl] at this) _ _ _ _ h0 H
  rw [htl, show n + (l.toArray.size - n) = l.toArray.size by omega] at this
  exact this
end
end Pg
