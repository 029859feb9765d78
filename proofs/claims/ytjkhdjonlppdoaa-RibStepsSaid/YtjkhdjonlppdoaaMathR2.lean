/- Routes put into a table and dropped: what is found, best, nearest, how deep. Plain Lean, no program. The best route without one, the nearest one, how deep routes lie, the document's chain, what is kept with a route more. Plain Lean, no program. -/
import Derived.Test.YtjkhdjonlppdoaaDrop
import Derived.Test.YtjkhdjonlppdoaaMathK3
import Derived.Test.YtjkhdjonlppdoaaMathC
namespace Pg
open Go
def putR (r : Rt) (l : List Rt) : List Rt := insR r (l.filter fun s => !eqR r.x r.n s)
theorem cmpP_pos {r s : Rt} : 0 < cmpP s.x s.n r.x r.n ↔ ltR r s := by
  have h1 := cmpP_neg s.x s.n r.x r.n
  have h2 := cmpP_lt r.x r.n s.x s.n
  constructor
  · intro h; exact h2.1 (by omega)
  · intro h; have := h2.2 h; omega
theorem insR_mem (r : Rt) (s : Rt) : ∀ l : List Rt, s ∈ insR r l ↔ s = r ∨ s ∈ l
  | [] => by simp [insR]
  | t :: l => by
    unfold insR
    split
    · simp
    · rw [List.mem_cons, insR_mem r s l, List.mem_cons]
      constructor
      · rintro (h | h | h)
        · exact .inr (.inl h)
        · exact .inl h
        · exact .inr (.inr h)
      · rintro (h | h | h)
        · exact .inr (.inl h)
        · exact .inl h
        · exact .inr (.inr h)
theorem putR_mem {r s : Rt} {l : List Rt} : s ∈ putR r l ↔ s = r ∨ (s ∈ l ∧ ¬ (s.x = r.x ∧ s.n = r.n)) := by
  unfold putR
  rw [insR_mem, List.mem_filter]
  simp only [eqR, Bool.not_eq_true', Bool.and_eq_false_iff, decide_eq_false_iff_not]
  constructor
  · rintro (h | ⟨h1, h2⟩)
    · exact .inl h
    · exact .inr ⟨h1, fun h => h2.elim (fun h2 => h2 h.1) (fun h2 => h2 h.2)⟩
  · rintro (h | ⟨h1, h2⟩)
    · exact .inl h
    · exact .inr ⟨h1, Classical.not_and_iff_not_or_not.1 h2⟩
theorem insR_sorted (r : Rt) : ∀ l : List Rt, l.Pairwise ltR → (∀ s ∈ l, ¬ (s.x = r.x ∧ s.n = r.n)) → (insR r l).Pairwise ltR
  | [], _, _ => by simp [insR]
  | s :: l, h, hn => by
    rw [List.pairwise_cons] at h
    unfold insR
    split
    · rename_i hp
      have hp := cmpP_pos.1 hp
      rw [List.pairwise_cons]
      refine ⟨fun t ht => ?_, List.pairwise_cons.2 h⟩
      rcases List.mem_cons.1 ht with rfl | ht
      · exact hp
      · exact ltR_trans hp (h.1 t ht)
    · rename_i hp
      rw [List.pairwise_cons]
      refine ⟨fun t ht => ?_, insR_sorted r l h.2 fun t ht => hn t (by simp [ht])⟩
      rcases (insR_mem r t l).1 ht with rfl | ht
      · have h0 : ¬ cmpP s.x s.n t.x t.n = 0 := fun e => hn s (by simp) ((cmpP_zero _ _ _ _).1 e)
        exact (cmpP_lt _ _ _ _).1 (by omega)
      · exact h.1 t ht
theorem putR_tab {l : List Rt} (h : Tab l) {r : Rt} (hr : rightB 128 r.x r.n = true) : Tab (putR r l) := by
  refine ⟨fun s hs => ?_, insR_sorted r _ (h.filter _).sorted fun s hs => ?_⟩
  · rcases putR_mem.1 hs with rfl | ⟨hs, _⟩
    · exact hr
    · exact h.right s hs
  · have := (List.mem_filter.1 hs).2
    simp only [eqR, Bool.not_eq_true', Bool.and_eq_false_iff, decide_eq_false_iff_not] at this
    exact fun e => this.elim (fun h2 => h2 e.1) (fun h2 => h2 e.2)
theorem putR_len (r : Rt) (l : List Rt) : (putR r l).length ≤ l.length + 1 := by
  unfold putR
  rw [insR_len]
  have := List.length_filter_le (fun s => !eqR r.x r.n s) l
  omega
theorem insR_split (r : Rt) (B : List Rt) (hB : ∀ s ∈ B, ltR r s) : ∀ A : List Rt, (∀ s ∈ A, ltR s r) → insR r (A ++ B) = A ++ r :: B
  | [], _ => insR_back r B hB
  | s :: A, hA => by
    have h1 := hA s (by simp)
    rw [List.cons_append]
    conv => lhs; unfold insR
    rw [if_neg (fun h => ltR_asymm h1 (cmpP_pos.1 h)), insR_split r B hB A fun t ht => hA t (by simp [ht])]
    rfl
/-- Where a route is put. -/
theorem IsAt.put {l : List Rt} {r : Rt} {c : Nat} {is : Bool} (h : IsAt l r.x r.n c is) (hT : Tab l) : putR r l = if is then l.set c r else l.take c ++ r :: l.drop c := by
  have hd := h.drop hT
  have hA : ∀ s ∈ l.take c, ltR s r := fun s hs => by
    obtain ⟨t, ht, rfl⟩ := List.getElem_of_mem hs
    rw [List.length_take] at ht
    rw [List.getElem_take]
    exact (cmpP_lt _ _ _ _).1 (h.below t (by omega) (by omega))
  unfold putR
  cases hi : is
  · rw [hi] at hd
    simp only [Bool.false_eq_true, if_false] at hd ⊢
    rw [hd]
    conv => lhs; rw [← List.take_append_drop c l]
    refine insR_split r _ (fun s hs => ?_) _ hA
    have hin : s ∈ l := List.mem_of_mem_drop hs
    obtain ⟨t, ht, rfl⟩ := List.getElem_of_mem hs
    rw [List.length_drop] at ht
    rw [List.getElem_drop] at hin ⊢
    have h1 := h.above (c + t) (by omega) (by omega)
    have h2 : ¬ cmpP l[c + t].x l[c + t].n r.x r.n = 0 := fun e => by
      have := (eqR_iff r.x r.n l[c + t]).2 e
      rw [List.filter_eq_self] at hd
      have h5 := hd _ hin
      rw [this] at h5; cases h5
    exact cmpP_pos.1 (by omega)
  · rw [hi] at hd
    obtain ⟨hc, h0⟩ := h.found.1 hi
    simp only [if_true] at hd ⊢
    rw [hd, List.eraseIdx_eq_take_drop_succ, insR_split r _ (fun s hs => ?_) _ hA, List.set_eq_take_append_cons_drop, if_pos hc]
    obtain ⟨t, ht, rfl⟩ := List.getElem_of_mem hs
    rw [List.length_drop] at ht
    rw [List.getElem_drop]
    have hs := List.pairwise_iff_getElem.1 hT.sorted c (c + 1 + t) hc (by omega) (by omega)
    rw [cmpP_zero] at h0
    unfold ltR at hs ⊢
    rw [← h0.1, ← h0.2]
    exact hs
theorem findR_mem {l : List Rt} (h : Tab l) {e : Rt} (he : e ∈ l) : l.find? (eqR e.x e.n) = some e := by
  cases hf : l.find? (eqR e.x e.n) with
  | none => rw [List.find?_eq_none] at hf; exact absurd (by simp [eqR]) (hf e he)
  | some s =>
    have h1 := List.find?_some hf
    unfold eqR at h1
    simp only [Bool.and_eq_true, decide_eq_true_eq] at h1
    rw [h.same (List.mem_of_find?_eq_some hf) he h1.1 h1.2]
theorem findR_put {l : List Rt} (h : Tab l) {r : Rt} (hr : rightB 128 r.x r.n = true) : (putR r l).find? (eqR r.x r.n) = some r := findR_mem (putR_tab h hr) (putR_mem.2 (.inl rfl))
theorem findR_drop (l : List Rt) (x : B) (n : Int) : (l.filter fun s => !eqR x n s).find? (eqR x n) = none := by
  rw [List.find?_eq_none]
  intro s hs
  have := (List.mem_filter.1 hs).2
  simp at this ⊢
  exact this
theorem tab_ext {l l' : List Rt} (h : Tab l) (h' : Tab l') (hm : ∀ s, s ∈ l ↔ s ∈ l') : l = l' := by
  induction l generalizing l' with
  | nil => cases l' with
    | nil => rfl
    | cons s l' => exact absurd ((hm s).2 (by simp)) (by simp)
  | cons r l ih => cases l' with
    | nil => exact absurd ((hm r).1 (by simp)) (by simp)
    | cons s l' =>
      have p := List.pairwise_cons.1 h.sorted
      have p' := List.pairwise_cons.1 h'.sorted
      have e : r = s := by
        rcases List.mem_cons.1 ((hm r).1 (by simp)) with e | hr
        · exact e
        · rcases List.mem_cons.1 ((hm s).2 (by simp)) with e | hs
          · exact e.symm
          · exact (ltR_asymm (p.1 s hs) (p'.1 r hr)).elim
      subst e
      rw [ih (h.sub (List.sublist_cons_self ..)) (h'.sub (List.sublist_cons_self ..)) fun t => ?_]
      constructor
      · intro ht
        rcases List.mem_cons.1 ((hm t).1 (by simp [ht])) with e | h2
        · subst e; exact (ltR_irrefl (p.1 t ht)).elim
        · exact h2
      · intro ht
        rcases List.mem_cons.1 ((hm t).2 (by simp [ht])) with e | h2
        · subst e; exact (ltR_irrefl (p'.1 t ht)).elim
        · exact h2
theorem putR_twice {l : List Rt} (h : Tab l) {r : Rt} (hr : rightB 128 r.x r.n = true) : putR r (putR r l) = putR r l := by
  refine tab_ext (putR_tab (putR_tab h hr) hr) (putR_tab h hr) fun s => ?_
  rw [putR_mem, putR_mem]
  constructor
  · rintro (h | ⟨h1, _⟩)
    · exact .inl h
    · exact h1
  · rintro (h | h1)
    · exact .inl h
    · exact .inr ⟨.inr h1, h1.2⟩
theorem dropR_put {l : List Rt} (h : Tab l) {r : Rt} (hr : rightB 128 r.x r.n = true) : ((putR r l).filter fun s => !eqR r.x r.n s) = l.filter fun s => !eqR r.x r.n s := by
  refine tab_ext ((putR_tab h hr).filter _) (h.filter _) fun s => ?_
  rw [List.mem_filter, List.mem_filter, putR_mem]
  constructor
  · rintro ⟨h1 | ⟨h1, _⟩, h2⟩
    · subst h1; simp [eqR] at h2
    · exact ⟨h1, h2⟩
  · rintro ⟨h1, h2⟩
    refine ⟨.inr ⟨h1, ?_⟩, h2⟩
    simp only [eqR, Bool.not_eq_true', Bool.and_eq_false_iff, decide_eq_false_iff_not] at h2
    exact fun e => h2.elim (fun h2 => h2 e.1) (fun h2 => h2 e.2)
end Pg
namespace Pg
open Go
theorem bestO_same {p q : Rt → Bool} : ∀ (l : List Rt), (∀ s ∈ l, p s = q s) → bestO p l = bestO q l := by
  intro l
  induction l using rev_ind with
  | h0 => intro _; rfl
  | hs l s ih =>
    intro hk
    rw [bestO_snoc, bestO_snoc, ih fun t ht => hk t (by simp [ht]), hk s (by simp)]
theorem notEq_iff {x : B} {n : Int} {s : Rt} : (!eqR x n s) = true ↔ ¬ (s.x = x ∧ s.n = n) := by
  unfold eqR
  simp only [Bool.not_eq_true', Bool.and_eq_false_iff, decide_eq_false_iff_not]
  exact Classical.not_and_iff_not_or_not.symm
/-- The nearest one that covers a prefix. -/
theorem cover_near {l : List Rt} (h : Tab l) {r : Rt} (hrr : rightB 128 r.x r.n = true) : bestO (covP r.x r.n) l = nearK l r := by
  refine bestO_same l fun s hs => ?_
  rw [Bool.eq_iff_iff]
  unfold covP nearP
  rw [Bool.and_eq_true, notEq_iff, Bool.and_eq_true]
  unfold coversB
  simp only [Bool.and_eq_true, decide_eq_true_eq]
  constructor
  · rintro ⟨h1, h2, h3⟩
    refine ⟨?_, h3⟩
    rcases Int.lt_or_le s.n r.n with hlt | hle
    · exact hlt
    · exfalso
      have hn : s.n = r.n := by omega
      have hx := same_of_match (h.right s hs) hrr (show matchR r.x s = true from h3) (match_self hrr) hn
      exact h1 ⟨hx, hn⟩
  · rintro ⟨h1, h2⟩
    exact ⟨fun e => by omega, by omega, h2⟩
/-- Without the best route for an address: the one that covers it. -/
theorem best_next {l : List Rt} (h : Tab l) {a : B} {r : Rt} (hb : bestO (matchR a) l = some r) : bestO (matchR a) (l.filter fun s => !eqR r.x r.n s) = bestO (covP r.x r.n) l := by
  rw [bestO_filter]
  have ht := bestO_top (matchR a) l
  rw [hb] at ht
  refine bestO_same l fun s hs => ?_
  rw [Bool.eq_iff_iff]
  unfold covP
  rw [Bool.and_eq_true, Bool.and_eq_true]
  refine and_congr_right fun _ => ?_
  constructor
  · intro h2
    exact cov_of_match (h.right s hs) (h.right r ht.1) h2 ht.2.1 (ht.2.2 s hs h2)
  · intro h2
    exact match_of_cov (h.right s hs) (h.right r ht.1) h2 ht.2.1
theorem insR_count (p : Rt → Bool) (r : Rt) : ∀ l : List Rt, ((insR r l).filter p).length = (l.filter p).length + (if p r then 1 else 0)
  | [] => by unfold insR; cases hp : p r <;> simp [hp]
  | s :: l => by
    unfold insR
    split
    · rw [List.filter_cons]
      cases hp : p r <;> simp
    · have ih := insR_count p r l
      rw [List.filter_cons, List.filter_cons]
      cases hs : p s <;> simp [ih]
      omega
theorem depth_ins (r s : Rt) (l : List Rt) : depthR (insR r l) s = depthR l s + (if covR r s then 1 else 0) := insR_count (covers_ s) r l
theorem depth_ge {l : List Rt} (h : Tab l) {r : Rt} (hr : r ∈ l) : depthR l r ≤ chainN l := by have := chain_ge l [] (by simpa using h) r hr; rw [List.append_nil] at this; exact this
theorem depth_le {l : List Rt} (h : Tab l) (M : Nat) (hd : ∀ r ∈ l, depthR l r ≤ M) : chainN l ≤ M := chain_le l [] M (by simpa using h) fun r hr => by simpa using hd r hr
theorem covR_px {r r' s : Rt} (hx : r.x = r'.x) (hn : r.n = r'.n) : covR r s = covR r' s := by unfold covR; rw [hx, hn]
theorem covers_px {r r' : Rt} (hx : r.x = r'.x) (hn : r.n = r'.n) : covers_ r = covers_ r' := by funext s; unfold covers_ covR; rw [hx, hn]
theorem chain_swap {L : List Rt} {r r' : Rt} (hx : r.x = r'.x) (hn : r.n = r'.n) (h : Tab (insR r L)) (h' : Tab (insR r' L)) : chainN (insR r L) ≤ chainN (insR r' L) := by
  refine depth_le h _ fun s hs => ?_
  rw [depth_ins]
  rcases (insR_mem r s L).1 hs with rfl | hs
  · have h1 := depth_ge h' ((insR_mem r' r' L).2 (.inl rfl))
    rw [depth_ins] at h1
    rw [covR_px hx hn]
    unfold depthR at h1 ⊢
    rw [covers_px hx hn]
    have e : covR r' s = covR r' r' := by unfold covR; rw [hx, hn]
    rw [e]; exact h1
  · have h1 := depth_ge h' ((insR_mem r' s L).2 (.inr hs))
    rw [depth_ins] at h1
    rw [covR_px hx hn]; exact h1
theorem putR_self {l : List Rt} (h : Tab l) {r : Rt} (hr : r ∈ l) : putR r l = l := by
  refine tab_ext (putR_tab h (h.right r hr)) h fun s => ?_
  rw [putR_mem]
  constructor
  · rintro (rfl | h1)
    · exact hr
    · exact h1.1
  · intro hs
    by_cases e : s.x = r.x ∧ s.n = r.n
    · exact .inl (h.same hs hr e.1 e.2)
    · exact .inr ⟨hs, e⟩
/-- As many of a table cover a prefix as its chain at most. -/
theorem covers_few {l : List Rt} (h : Tab l) {r : Rt} (_hr : rightB 128 r.x r.n = true) : (l.filter (covers_ r)).length ≤ chainN l := by
  have ht := bestO_top (covers_ r) l
  cases hb : bestO (covers_ r) l with
  | none =>
    rw [hb] at ht
    rw [List.filter_eq_nil_iff.2 fun s hs => by rw [ht s hs]; decide]
    exact Nat.zero_le _
  | some c =>
    rw [hb] at ht
    refine Nat.le_trans ?_ (depth_ge h ht.1)
    have hcr : covR c r = true := ht.2.1
    have : (l.filter (covers_ r)).Sublist (l.filter (covers_ c)) := by
      have e : l.filter (covers_ r) = (l.filter (covers_ c)).filter (covers_ r) := by
        rw [List.filter_filter]
        apply List.filter_congr
        intro s hs
        cases hsr : covers_ r s
        · simp
        · have hsr' : covR s r = true := hsr
          have : covers_ c s = true := cov_of_match (h.right s hs) (h.right c ht.1) ((covR_iff s r).1 hsr').2 ((covR_iff c r).1 hcr).2 (ht.2.2 s hs hsr)
          rw [this]; rfl
      rw [e]; exact List.filter_sublist
    exact this.length_le
/-- With a route more the chain is as long, or one longer. -/
theorem chain_put {l : List Rt} (h : Tab l) {r : Rt} (hr : rightB 128 r.x r.n = true) : chainN (putR r l) = chainN l ∨ chainN (putR r l) = chainN l + 1 := by
  have hp := putR_tab h hr
  cases hf : l.find? (eqR r.x r.n) with
  | some r' =>
    have h1 := List.find?_some hf
    unfold eqR at h1
    simp only [Bool.and_eq_true, decide_eq_true_eq] at h1
    have hm := List.mem_of_find?_eq_some hf
    have hs := putR_self h hm
    have hl : insR r' (l.filter fun s => !eqR r.x r.n s) = l := by
      have : putR r' l = insR r' (l.filter fun s => !eqR r.x r.n s) := by unfold putR; rw [h1.1, h1.2]
      rw [← this]; exact hs
    have hTl : Tab (insR r' (l.filter fun s => !eqR r.x r.n s)) := by rw [hl]; exact h
    have a := chain_swap (L := l.filter fun s => !eqR r.x r.n s) h1.1.symm h1.2.symm hp hTl
    have b := chain_swap (L := l.filter fun s => !eqR r.x r.n s) h1.1 h1.2 hTl hp
    rw [hl] at a b
    exact .inl (Nat.le_antisymm a b)
  | none =>
    have hl : (l.filter fun s => !eqR r.x r.n s) = l := by
      rw [List.filter_eq_self]
      intro s hs
      rw [List.find?_eq_none] at hf
      have := hf s hs
      simpa using this
    have e : putR r l = insR r l := by unfold putR; rw [hl]
    rw [e] at hp ⊢
    have h1 : chainN l ≤ chainN (insR r l) := depth_le h _ fun s hs => by
      have := depth_ge hp ((insR_mem r s l).2 (.inr hs))
      rw [depth_ins] at this
      omega
    have h2 : chainN (insR r l) ≤ chainN l + 1 := depth_le hp _ fun s hs => by
      rw [depth_ins]
      rcases (insR_mem r s l).1 hs with rfl | hs
      · have := covers_few h hr
        unfold depthR
        split <;> omega
      · have := depth_ge h hs
        split <;> omega
    omega
def underL (l : List Rt) (x : B) (n : Int) : List Rt := l.filter fun s => !eqR x n s && coversB x n s.x s.n
/-- The document's chain. -/
def refC : Nat → List Rt → Nat
  | 0, _ => 0
  | f + 1, l => l.foldl (fun n r => max n (1 + refC f (underL l r.x r.n))) 0
theorem fold_max (g : Rt → Nat) : ∀ (l : List Rt) (a M : Nat), l.foldl (fun n r => max n (g r)) a ≤ M ↔ a ≤ M ∧ ∀ r ∈ l, g r ≤ M
  | [], a, M => by simp
  | r :: l, a, M => by
    rw [List.foldl_cons, fold_max g l]
    simp only [List.mem_cons, forall_eq_or_imp, Nat.max_le]
    exact and_assoc
theorem under_mem {l : List Rt} {r s : Rt} : s ∈ underL l r.x r.n ↔ s ∈ l ∧ ¬ (s.x = r.x ∧ s.n = r.n) ∧ covR r s = true := by
  unfold underL
  rw [List.mem_filter, Bool.and_eq_true, notEq_iff]
  exact Iff.rfl
theorem under_len {l : List Rt} {r : Rt} (hr : r ∈ l) : (underL l r.x r.n).length < l.length := by
  refine Nat.lt_of_le_of_ne (List.length_filter_le _ _) fun e => ?_
  have h1 : underL l r.x r.n = l := List.Sublist.eq_of_length List.filter_sublist e
  have h2 : r ∈ underL l r.x r.n := by rw [h1]; exact hr
  exact (under_mem.1 h2).2.1 ⟨rfl, rfl⟩
theorem refC_is (f : Nat) : ∀ l : List Rt, Tab l → l.length ≤ f → refC f l = chainN l := by
  induction f with
  | zero =>
    intro l _ hl
    obtain rfl := List.eq_nil_of_length_eq_zero (Nat.le_zero.1 hl)
    rfl
  | succ f ih =>
    intro l h hl
    have hU : ∀ r ∈ l, refC f (underL l r.x r.n) = chainN (underL l r.x r.n) := fun r hr => ih _ (h.filter _) (by have := under_len hr; omega)
    apply Nat.le_antisymm
    · refine (fold_max (fun r => 1 + refC f (underL l r.x r.n)) l 0 _).2 ⟨Nat.zero_le _, fun r hr => ?_⟩
      rw [hU r hr]
      have hr1 : 1 ≤ chainN l := by
        refine Nat.le_trans ?_ (depth_ge h hr)
        unfold depthR
        exact List.length_pos_of_mem (List.mem_filter.2 ⟨hr, (covR_iff r r).2 ⟨Int.le_refl _, match_self (h.right r hr)⟩⟩)
      have : chainN (underL l r.x r.n) ≤ chainN l - 1 := depth_le (h.filter _) _ fun t ht => by
        have ht' := under_mem.1 ht
        have h1 := depth_ge h ht'.1
        have h2 : depthR (underL l r.x r.n) t < depthR l t := by
          unfold depthR
          have hs : ((underL l r.x r.n).filter (covers_ t)).Sublist (l.filter (covers_ t)) := List.Sublist.filter _ List.filter_sublist
          refine Nat.lt_of_le_of_ne hs.length_le fun e => ?_
          have h3 := hs.eq_of_length e
          have h4 : r ∈ (underL l r.x r.n).filter (covers_ t) := by rw [h3]; exact List.mem_filter.2 ⟨hr, ht'.2.2⟩
          exact (under_mem.1 (List.mem_filter.1 h4).1).2.1 ⟨rfl, rfl⟩
        show depthR (underL l r.x r.n) t ≤ _
        omega
      omega
    · refine depth_le h _ fun t ht => ?_
      have hself : t ∈ l.filter (covers_ t) := List.mem_filter.2 ⟨ht, (covR_iff t t).2 ⟨Int.le_refl _, match_self (h.right t ht)⟩⟩
      unfold depthR
      cases hc : l.filter (covers_ t) with
      | nil => exact Nat.zero_le _
      | cons r rest =>
        have hrm : r ∈ l.filter (covers_ t) := by rw [hc]; simp
        obtain ⟨hr, hrt⟩ := List.mem_filter.1 hrm
        have hrt : covR r t = true := hrt
        have hsort := (h.filter (covers_ t)).sorted
        rw [hc, List.pairwise_cons] at hsort
        have hrest : ∀ s ∈ rest, s ∈ l ∧ covR s t = true := fun s hs => by
          have : s ∈ l.filter (covers_ t) := by rw [hc]; simp [hs]
          exact List.mem_filter.1 this
        have hcov : ∀ s ∈ rest, covR r s = true := fun s hs => by
          have h1 := hrest s hs
          rcases Int.lt_or_le s.n r.n with hlt | hle
          · have h2 := cov_of_match (h.right s h1.1) (h.right r hr) ((covR_iff s t).1 h1.2).2 ((covR_iff r t).1 hrt).2 (by omega)
            exact (ltR_asymm (hsort.1 s hs) (cov_lt (h.right s h1.1) (h.right r hr) h2 hlt)).elim
          · exact cov_of_match (h.right r hr) (h.right s h1.1) ((covR_iff r t).1 hrt).2 ((covR_iff s t).1 h1.2).2 hle
        have hin : ∀ s ∈ rest, s ∈ underL l r.x r.n := fun s hs => under_mem.2 ⟨(hrest s hs).1, fun e => by
          have := hsort.1 s hs
          rw [h.same (hrest s hs).1 hr e.1 e.2] at this
          exact ltR_irrefl this, hcov s hs⟩
        have hval : 1 + refC f (underL l r.x r.n) ≤ l.foldl (fun n r => max n (1 + refC f (underL l r.x r.n))) 0 :=
          ((fold_max (fun r => 1 + refC f (underL l r.x r.n)) l 0 _).1 (Nat.le_refl _)).2 r hr
        refine Nat.le_trans ?_ hval
        rw [hU r hr, List.length_cons]
        have hlen : rest.length ≤ depthR (underL l r.x r.n) t := by
          unfold depthR underL
          rw [List.filter_filter]
          have e : (l.filter (covers_ t)).filter (fun s => !eqR r.x r.n s && coversB r.x r.n s.x s.n) = rest := by
            rw [hc, List.filter_cons_of_neg (by simp [eqR]), List.filter_eq_self]
            intro s hs
            exact (List.mem_filter.1 (hin s hs)).2
          rw [List.filter_filter] at e
          have e2 : (l.filter fun a => covers_ t a && (!eqR r.x r.n a && coversB r.x r.n a.x a.n)) = rest := by
            rw [← e]; apply List.filter_congr; intro s _; rw [Bool.and_comm]
          rw [e2]; exact Nat.le_refl _
        cases rest with
        | nil => simp
        | cons s rest =>
          have htU : t ∈ underL l r.x r.n := by
            rw [hc] at hself
            rcases List.mem_cons.1 hself with e | h1
            · exfalso
              subst e
              have hs := hrest s (by simp)
              have h2 := (covR_iff s t).1 hs.2
              have h3 := (covR_iff t s).1 (hcov s (by simp))
              have hn : s.n = t.n := by omega
              have hx := same_of_match (h.right s hs.1) (h.right t ht) h2.2 (match_self (h.right t ht)) hn
              have := hsort.1 s (by simp)
              rw [h.same hs.1 ht hx hn] at this
              exact ltR_irrefl this
            · exact hin t h1
          have hd : depthR (underL l r.x r.n) t ≤ chainN (underL l r.x r.n) := depth_ge (h.filter _) htU
          simp only [List.length_cons] at hlen ⊢
          omega
theorem fold_same {f g : Nat → Rt → Nat} : ∀ (l : List Rt) (a : Nat), (∀ n, ∀ r ∈ l, f n r = g n r) → l.foldl f a = l.foldl g a
  | [], _, _ => rfl
  | r :: l, a, h => by
    rw [List.foldl_cons, List.foldl_cons, h a r (by simp)]
    exact fold_same l _ fun n s hs => h n s (by simp [hs])
theorem chain_fold {l : List Rt} (h : Tab l) : l.foldl (fun n r => max n (1 + chainN (underL l r.x r.n))) 0 = chainN l := by
  rw [← refC_is (l.length + 1) l h (by omega)]
  show _ = l.foldl (fun n r => max n (1 + refC l.length (underL l r.x r.n))) 0
  refine fold_same _ _ fun n r hr => ?_
  have e : refC l.length (underL l r.x r.n) = chainN (underL l r.x r.n) := refC_is l.length _ (h.filter _) (by have := under_len hr; omega)
  rw [e]
/-- What is kept is told by how it is chosen. -/
theorem keep_uniq {m K : List Rt} (h : Tab m) (hK : Tab K) (hs : ∀ r ∈ K, r ∈ m) (spec : ∀ r ∈ m, r ∈ K ↔ ∀ c, nearK K r = some c → c.act ≠ r.act) : keepL m = K := by
  have hKm := keepL_tab h
  have hsub := keepL_sub h
  have key : ∀ k : Nat, ∀ r ∈ m, r.n < (k : Int) → (r ∈ K ↔ r ∈ keepL m) := by
    intro k
    induction k with
    | zero => intro r hr hk; have := (right_len (h.right r hr)).1; omega
    | succ k ih =>
      intro r hr hk
      rw [spec r hr, keepL_spec h hr]
      have e : nearK K r = nearK (keepL m) r := by
        refine isTop_uniq hK (p := nearP r) (a := r.x) (fun s _ hp => by unfold nearP at hp; simp only [Bool.and_eq_true] at hp; exact hp.2) (bestO_top (nearP r) K) ?_
        have ht := bestO_top (nearP r) (keepL m)
        have low : ∀ s, nearP r s = true → s.n < (k : Int) := fun s hp => by
          unfold nearP at hp
          simp only [Bool.and_eq_true, decide_eq_true_eq] at hp
          omega
        show isTop (nearP r) K (bestO (nearP r) (keepL m))
        cases hb : bestO (nearP r) (keepL m) with
        | none =>
          rw [hb] at ht
          intro s hsK
          cases hp : nearP r s
          · rfl
          · have := ht s ((ih s (hs s hsK) (low s hp)).1 hsK)
            rw [hp] at this; cases this
        | some b =>
          rw [hb] at ht
          exact ⟨(ih b (hsub.subset ht.1) (low b ht.2.1)).2 ht.1, ht.2.1, fun s hsK hp => ht.2.2 s ((ih s (hs s hsK) (low s hp)).1 hsK) hp⟩
      rw [e]
  refine tab_ext hKm hK fun s => ?_
  constructor
  · intro h1
    have hm := hsub.subset h1
    exact (key 129 s hm (by have := (right_len (h.right s hm)).2; omega)).2 h1
  · intro h1
    have hm := hs s h1
    exact (key 129 s hm (by have := (right_len (h.right s hm)).2; omega)).1 h1
/-- A route more of the action that its prefix's cover has is not kept. -/
theorem keep_put {l : List Rt} (h : Tab l) {r c : Rt} (hr : rightB 128 r.x r.n = true) (hno : l.find? (eqR r.x r.n) = none) (hc : bestO (covP r.x r.n) (keepL l) = some c) (ha : c.act = r.act) : keepL (putR r l) = keepL l := by
  have hK := keepL_tab h
  have hsub := keepL_sub h
  rw [List.find?_eq_none] at hno
  have hne : ∀ s ∈ l, ¬ (s.x = r.x ∧ s.n = r.n) := fun s hs e => hno s hs (by simp [eqR, e.1, e.2])
  rw [cover_near hK hr] at hc
  refine keep_uniq (putR_tab h hr) hK (fun s hs => putR_mem.2 (.inr ⟨hsub.subset hs, hne s (hsub.subset hs)⟩)) fun s hs => ?_
  rcases putR_mem.1 hs with rfl | ⟨hs, _⟩
  · constructor
    · intro h1
      exact absurd ⟨rfl, rfl⟩ (hne s (hsub.subset h1))
    · intro h1
      exact absurd ha (h1 c hc)
  · exact keepL_spec h hs
end Pg
