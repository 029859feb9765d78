/- What is kept, length by length. Plain Lean, no program. -/
import Derived.Test.YtjkhdjonlppdoaaMathK2
import Derived.Test.YtjkhdjonlppdoaaRib4
namespace Pg
open Go
theorem insR_front (r : Rt) : ∀ (a b : List Rt), (∀ s ∈ a, ltR s r) → insR r (a ++ b) = a ++ insR r b
  | [], _, _ => rfl
  | s :: a, b, h => by
    have h1 : cmpP s.x s.n r.x r.n < 0 := (cmpP_lt _ _ _ _).2 (h s (List.mem_cons_self ..))
    show (if 0 < cmpP s.x s.n r.x r.n then r :: s :: (a ++ b) else s :: insR r (a ++ b)) = s :: (a ++ insR r b)
    rw [if_neg (by omega), insR_front r a b fun t ht => h t (List.mem_cons_of_mem _ ht)]
theorem insR_back (r : Rt) (b : List Rt) (h : ∀ s ∈ b, ltR r s) : insR r b = r :: b := by
  cases b with
  | nil => rfl
  | cons s b =>
    have h1 : cmpP r.x r.n s.x s.n < 0 := (cmpP_lt _ _ _ _).2 (h s (List.mem_cons_self ..))
    have h2 := cmpP_neg s.x s.n r.x r.n
    unfold insR
    rw [if_pos (by omega)]
theorem put_filter {l : List Rt} (h : Tab l) {r : Rt} (hr : r ∈ l) (q : Rt → Bool) (hq : q r = false) : insR r ((l.filter q).filter fun s => !eqR r.x r.n s) = l.filter fun s => q s || decide (s = r) := by
  have e1 : (l.filter q).filter (fun s => !eqR r.x r.n s) = l.filter q := by
    rw [List.filter_eq_self]
    intro s hs
    obtain ⟨hsl, hsq⟩ := List.mem_filter.1 hs
    cases he : eqR r.x r.n s
    · rfl
    · unfold eqR at he
      simp only [Bool.and_eq_true, decide_eq_true_eq] at he
      rw [h.same hsl hr he.1 he.2, hq] at hsq; cases hsq
  rw [e1]
  obtain ⟨a, b, rfl⟩ := List.append_of_mem hr
  have hm := h.sorted
  rw [List.pairwise_append, List.pairwise_cons] at hm
  have ha : ∀ s ∈ a, ltR s r := fun s hs => hm.2.2 s hs r (List.mem_cons_self ..)
  have hb : ∀ s ∈ b, ltR r s := hm.2.1.1
  rw [List.filter_append, List.filter_append, List.filter_cons_of_neg (by simp [hq]), List.filter_cons_of_pos (by simp), insR_front r _ _ fun s hs => ha s (List.mem_filter.1 hs).1, insR_back r _ fun s hs => hb s (List.mem_filter.1 hs).1]
  have c1 : a.filter (fun s => q s || decide (s = r)) = a.filter q := List.filter_congr fun s hs => by
    have : s ≠ r := fun e => ltR_irrefl (e ▸ ha s hs : ltR r r)
    simp [this]
  have c2 : b.filter (fun s => q s || decide (s = r)) = b.filter q := List.filter_congr fun s hs => by
    have : s ≠ r := fun e => ltR_irrefl (e ▸ hb s hs : ltR r r)
    simp [this]
  rw [c1, c2]
def inK (l : List Rt) (n : Int) (i : Nat) (s : Rt) : Bool := decide (s ∈ keepL l) && (decide (s.n < n) || (decide (s.n = n) && decide (s ∈ l.take i)))
def stateK (l : List Rt) (n : Int) (i : Nat) : List Rt := l.filter (inK l n i)
theorem stateK_len (l : List Rt) (n : Int) (i : Nat) : (stateK l n i).length ≤ l.length := List.length_filter_le _ _
theorem stateK_first {l : List Rt} (h : Tab l) : stateK l 0 0 = [] := by
  unfold stateK
  rw [List.filter_eq_nil_iff]
  intro s hs
  have := (right_len (h.right s hs)).1
  unfold inK
  simp
  intro _; omega
theorem stateK_next (l : List Rt) (n : Int) : stateK l n l.length = stateK l (n + 1) 0 := by
  unfold stateK
  apply List.filter_congr
  intro s hs
  unfold inK
  rw [List.take_length]
  congr 1
  rw [decide_eq_true hs, Bool.and_true]
  have : decide (s ∈ l.take 0) = false := by simp
  rw [this, Bool.and_false, Bool.or_false, ← Bool.decide_or, decide_eq_decide]
  omega
theorem stateK_last {l : List Rt} (h : Tab l) : stateK l 129 0 = keepL l := by
  refine Eq.trans ?_ (sub_filter (keepL_sub h) h.nodup).symm
  unfold stateK
  apply List.filter_congr
  intro s hs
  have := (right_len (h.right s hs)).2
  unfold inK
  rw [decide_eq_true (show s.n < 129 by omega), Bool.true_or, Bool.and_true]
theorem stateK_skip {l : List Rt} {n : Int} {i : Nat} (hi : i < l.length) (hs : l[i].n ≠ n ∨ l[i] ∉ keepL l) : stateK l n (i + 1) = stateK l n i := by
  unfold stateK
  apply List.filter_congr
  intro s _
  unfold inK
  rw [Bool.eq_iff_iff]
  simp only [Bool.and_eq_true, Bool.or_eq_true, decide_eq_true_eq, List.take_succ_eq_append_getElem hi, List.mem_append, List.mem_singleton]
  constructor
  · rintro ⟨hk, h | ⟨hn, h | h⟩⟩
    · exact ⟨hk, .inl h⟩
    · exact ⟨hk, .inr ⟨hn, h⟩⟩
    · subst h
      rcases hs with hs | hs
      · exact absurd hn hs
      · exact absurd hk hs
  · rintro ⟨hk, h | ⟨hn, h⟩⟩
    · exact ⟨hk, .inl h⟩
    · exact ⟨hk, .inr ⟨hn, .inl h⟩⟩
theorem stateK_put {l : List Rt} (h : Tab l) {n : Int} {i : Nat} (hi : i < l.length) (hn : l[i].n = n) (hk : l[i] ∈ keepL l) : insR l[i] ((stateK l n i).filter fun s => !eqR l[i].x l[i].n s) = stateK l n (i + 1) := by
  have hni : l[i] ∉ l.take i := by
    intro hc
    have hp := h.nodup
    have hl : l.take (i + 1) = l.take i ++ [l[i]] := List.take_succ_eq_append_getElem hi
    have hnd : (l.take (i + 1)).Nodup := hp.sublist (List.take_sublist _ _)
    rw [hl, List.nodup_append] at hnd
    exact hnd.2.2 _ hc _ (List.mem_singleton.2 rfl) rfl
  unfold stateK
  rw [put_filter h (List.getElem_mem hi) (inK l n i) (by
    unfold inK
    rw [decide_eq_false hni, Bool.and_false, Bool.or_false, decide_eq_false (show ¬ l[i].n < n by omega), Bool.and_false])]
  apply List.filter_congr
  intro s _
  unfold inK
  rw [Bool.eq_iff_iff]
  simp only [Bool.and_eq_true, Bool.or_eq_true, decide_eq_true_eq, List.take_succ_eq_append_getElem hi, List.mem_append, List.mem_singleton]
  constructor
  · rintro (⟨hk, h | ⟨hn, h⟩⟩ | rfl)
    · exact ⟨hk, .inl h⟩
    · exact ⟨hk, .inr ⟨hn, .inl h⟩⟩
    · exact ⟨hk, .inr ⟨hn, .inr rfl⟩⟩
  · rintro ⟨hk, h | ⟨hn, h | h⟩⟩
    · exact .inl ⟨hk, .inl h⟩
    · exact .inl ⟨hk, .inr ⟨hn, h⟩⟩
    · exact .inr h
theorem stateK_sub {l : List Rt} (h : Tab l) (n : Int) (i : Nat) : (stateK l n i).Sublist (keepL l) := by
  rw [sub_filter (keepL_sub h) h.nodup]
  have : stateK l n i = (l.filter fun r => decide (r ∈ keepL l)).filter (inK l n i) := by
    rw [List.filter_filter]
    unfold stateK
    apply List.filter_congr
    intro s _
    unfold inK
    cases decide (s ∈ keepL l) <;> simp
  rw [this]
  exact List.filter_sublist
theorem stateK_near {l : List Rt} (h : Tab l) {n : Int} {i : Nat} {r : Rt} (hn : r.n = n) : bestO (fun s => decide (s.n < r.n) && matchR r.x s) (stateK l n i) = nearK (keepL l) r := by
  refine bestO_congr (keepL_tab h) (a := r.x) (fun s _ hp => ?_) (stateK_sub h n i) fun s hs hp => ?_
  · simp only [Bool.and_eq_true] at hp; exact hp.2
  · simp only [Bool.and_eq_true, decide_eq_true_eq] at hp
    refine List.mem_filter.2 ⟨(keepL_sub h).subset hs, ?_⟩
    unfold inK
    rw [decide_eq_true hs, decide_eq_true (show s.n < n by omega)]; rfl
end Pg
