/- What is kept of a table: the stack's way and the document's. Plain Lean, no program. -/
import Derived.Test.YtjkhdjonlppdoaaMathT
namespace Pg
open Go
def nearP (r s : Rt) : Bool := decide (s.n < r.n) && matchR r.x s
def nearK (K : List Rt) (r : Rt) : Option Rt := bestO (nearP r) K
def covers_ (r : Rt) (s : Rt) : Bool := covR s r
def stepK (st : List Rt × List Rt) (r : Rt) : List Rt × List Rt :=
  match (st.1.filter (covers_ r)).getLast? with
  | some c => if c.act = r.act then (st.1.filter (covers_ r), st.2) else (st.1.filter (covers_ r) ++ [r], st.2 ++ [r])
  | none => (st.1.filter (covers_ r) ++ [r], st.2 ++ [r])
def foldK (l : List Rt) : List Rt × List Rt := l.foldl stepK ([], [])
def openL (l : List Rt) : List Rt := (foldK l).1
def keepL (l : List Rt) : List Rt := (foldK l).2
theorem foldK_snoc (l : List Rt) (r : Rt) : foldK (l ++ [r]) = stepK (foldK l) r := by unfold foldK; rw [List.foldl_append]; rfl
def chainR (s t : Rt) : Prop := covR s t = true ∧ s.n < t.n
structure InvK (pre post o K : List Rt) : Prop where
  sub : K.Sublist pre
  osub : o.Sublist K
  chain : o.Pairwise chainR
  comp : ∀ s ∈ K, ∀ r ∈ post, covR s r = true → s ∈ o
  spec : ∀ r ∈ pre, r ∈ K ↔ ∀ c, nearK K r = some c → c.act ≠ r.act
theorem last_pair {R : Rt → Rt → Prop} : ∀ {l : List Rt} {c s : Rt}, l.Pairwise R → l.getLast? = some c → s ∈ l → s = c ∨ R s c := by
  intro l c s hp hc hs
  have hne : l ≠ [] := by intro e; rw [e] at hs; cases hs
  rw [List.getLast?_eq_some_getLast hne] at hc
  injection hc with hc
  have hl := List.dropLast_concat_getLast hne
  rw [← hl] at hp hs
  rw [hc] at hp hs
  rw [List.pairwise_append] at hp
  rcases List.mem_append.1 hs with h | h
  · exact .inr (hp.2.2 s h c (by simp))
  · exact .inl (List.mem_singleton.1 h)
theorem mid_lt {pre post : List Rt} {r : Rt} (h : Tab (pre ++ r :: post)) : (∀ s ∈ pre, ltR s r) ∧ ∀ t ∈ post, ltR r t := by
  have := h.sorted
  rw [List.pairwise_append] at this
  refine ⟨fun s hs => this.2.2 s hs r (by simp), fun t ht => ?_⟩
  have h2 := this.2.1
  rw [List.pairwise_cons] at h2
  exact h2.1 t ht
theorem near_top {pre post o K : List Rt} {r : Rt} (h : Tab (pre ++ r :: post)) (hi : InvK pre (r :: post) o K) : nearK K r = (o.filter (covers_ r)).getLast? := by
  have hr := h.right r (by simp)
  have hm := mid_lt h
  have hTK : Tab K := (h.sub (List.sublist_append_left _ _)).sub hi.sub
  refine isTop_uniq hTK (a := r.x) (fun s _ hs => ?_) (bestO_top (nearP r) K) ?_
  · unfold nearP at hs; simp only [Bool.and_eq_true] at hs; exact hs.2
  · have key : ∀ s ∈ K, nearP r s = true → s ∈ o.filter (covers_ r) := fun s hs hp => by
      unfold nearP at hp
      simp only [Bool.and_eq_true, decide_eq_true_eq] at hp
      have hc : covR s r = true := (covR_iff s r).2 ⟨by omega, hp.2⟩
      exact List.mem_filter.2 ⟨hi.comp s hs r (by simp) hc, hc⟩
    cases hg : (o.filter (covers_ r)).getLast? with
    | none =>
      intro s hs
      cases hp : nearP r s
      · rfl
      · have := key s hs hp
        rw [List.getLast?_eq_none_iff] at hg
        rw [hg] at this; cases this
    | some c =>
      have hcm : c ∈ o.filter (covers_ r) := List.mem_of_getLast? hg
      obtain ⟨hco, hcr⟩ := List.mem_filter.1 hcm
      have hcK := hi.osub.subset hco
      have hcp := hi.sub.subset hcK
      have hcr : covR c r = true := hcr
      have hc2 := (covR_iff c r).1 hcr
      refine ⟨hcK, ?_, fun s hs hp => ?_⟩
      · unfold nearP
        simp only [Bool.and_eq_true, decide_eq_true_eq]
        refine ⟨?_, hc2.2⟩
        rcases Int.lt_or_le c.n r.n with hlt | hle
        · exact hlt
        · have he : c.n = r.n := by omega
          have hx := same_of_match (h.right c (by simp [hcp])) hr hc2.2 (match_self hr) he
          rcases hm.1 c hcp with h5 | ⟨_, h5⟩
          · rw [hx] at h5; omega
          · omega
      · rcases last_pair (hi.chain.sublist List.filter_sublist) hg (key s hs hp) with rfl | h5
        · exact Int.le_refl _
        · have := h5.2; omega
theorem near_pre {pre post K : List Rt} {r r' : Rt} (h : Tab (pre ++ r :: post)) (hr' : r' ∈ pre ∨ r' = r) : nearK (K ++ [r]) r' = nearK K r' := by
  have hp : nearP r' r = false := by
    cases hp : nearP r' r
    · rfl
    · exfalso
      unfold nearP at hp
      simp only [Bool.and_eq_true, decide_eq_true_eq] at hp
      rcases hr' with hr' | rfl
      · exact ltR_asymm ((mid_lt h).1 r' hr') (cov_lt (h.right r (by simp)) (h.right r' (by simp [hr'])) ((covR_iff r r').2 ⟨by omega, hp.2⟩) hp.1)
      · omega
  unfold nearK
  rw [bestO_snoc, hp]; rfl
theorem invK_step {pre post o K : List Rt} {r : Rt} (h : Tab (pre ++ r :: post)) (hi : InvK pre (r :: post) o K) : InvK (pre ++ [r]) post (stepK (o, K) r).1 (stepK (o, K) r).2 := by
  have hm := mid_lt h
  have hr := h.right r (by simp)
  have hn := near_top h hi
  have hrK : r ∉ K := fun hc => ltR_irrefl (hm.1 r (hi.sub.subset hc))
  have hcomp : ∀ s ∈ K, ∀ t ∈ post, covR s t = true → s ∈ o.filter (covers_ r) := fun s hs t ht hc =>
    List.mem_filter.2 ⟨hi.comp s hs t (by simp [ht]) hc, cov_mid (h.right s (by simp [hi.sub.subset hs])) hr (hm.1 s (hi.sub.subset hs)) (hm.2 t ht) hc⟩
  have hskip : ∀ c, nearK K r = some c → c.act = r.act → InvK (pre ++ [r]) post (o.filter (covers_ r)) K := fun c hc ha =>
    ⟨hi.sub.trans (List.sublist_append_left _ _), List.filter_sublist.trans hi.osub, hi.chain.sublist List.filter_sublist, hcomp, fun r' hr' => by
      rcases List.mem_append.1 hr' with h1 | h1
      · exact hi.spec r' h1
      · obtain rfl := List.mem_singleton.1 h1
        exact ⟨fun hk => absurd hk hrK, fun hk => absurd ha (hk c hc)⟩⟩
  have hpush : (∀ c, nearK K r = some c → c.act ≠ r.act) → InvK (pre ++ [r]) post (o.filter (covers_ r) ++ [r]) (K ++ [r]) := fun ha =>
    ⟨hi.sub.append (List.Sublist.refl _), (List.filter_sublist.trans hi.osub).append (List.Sublist.refl _), by
      rw [List.pairwise_append]
      refine ⟨hi.chain.sublist List.filter_sublist, by simp, fun s hs t ht => ?_⟩
      obtain rfl := List.mem_singleton.1 ht
      obtain ⟨hso, hsr⟩ := List.mem_filter.1 hs
      have hsr : covR s t = true := hsr
      have hsp := hi.sub.subset (hi.osub.subset hso)
      refine ⟨hsr, ?_⟩
      have h2 := (covR_iff s t).1 hsr
      rcases Int.lt_or_le s.n t.n with hlt | hle
      · exact hlt
      · have hx := same_of_match (h.right s (by simp [hsp])) hr h2.2 (match_self hr) (by omega)
        rcases hm.1 s hsp with h5 | ⟨_, h5⟩
        · rw [hx] at h5; omega
        · omega, fun s hs t ht hc => by
      rcases List.mem_append.1 hs with h1 | h1
      · exact List.mem_append.2 (.inl (hcomp s h1 t ht hc))
      · exact List.mem_append.2 (.inr h1), fun r' hr' => by
      rcases List.mem_append.1 hr' with h1 | h1
      · rw [near_pre h (.inl h1), ← hi.spec r' h1]
        constructor
        · intro hk
          rcases List.mem_append.1 hk with h2 | h2
          · exact h2
          · obtain rfl := List.mem_singleton.1 h2
            exact (ltR_irrefl (hm.1 r' h1)).elim
        · intro hk; exact List.mem_append.2 (.inl hk)
      · obtain rfl := List.mem_singleton.1 h1
        rw [near_pre h (.inr rfl)]
        exact ⟨fun _ => ha, fun _ => by simp⟩⟩
  unfold stepK
  rw [← hn]
  cases hc : nearK K r with
  | none => exact hpush fun c h1 => by rw [hc] at h1; cases h1
  | some c =>
    by_cases ha : c.act = r.act
    · simp only [ha, if_true]; exact hskip c hc ha
    · simp only [ha, if_false]; exact hpush fun c' h1 => by rw [hc] at h1; injection h1 with h1; rw [← h1]; exact ha
theorem invK (pre : List Rt) : ∀ post : List Rt, Tab (pre ++ post) → InvK pre post (openL pre) (keepL pre) := by
  induction pre using rev_ind with
  | h0 => exact fun post _ => ⟨List.Sublist.refl _, List.Sublist.refl _, List.Pairwise.nil, by simp [keepL, foldK], by simp⟩
  | hs pre r ih =>
    intro post h
    rw [List.append_assoc] at h
    have h2 := invK_step h (ih _ h)
    unfold openL keepL
    rw [foldK_snoc]
    exact h2
theorem keepL_sub {l : List Rt} (h : Tab l) : (keepL l).Sublist l := (invK l [] (by simpa using h)).sub
theorem keepL_tab {l : List Rt} (h : Tab l) : Tab (keepL l) := h.sub (keepL_sub h)
theorem keepL_spec {l : List Rt} (h : Tab l) {r : Rt} (hr : r ∈ l) : r ∈ keepL l ↔ ∀ c, nearK (keepL l) r = some c → c.act ≠ r.act := (invK l [] (by simpa using h)).spec r hr
theorem openL_chain {pre post : List Rt} (h : Tab (pre ++ post)) : (openL pre).Pairwise chainR := (invK pre post h).chain
theorem covR_trans {r s t : Rt} (h : covR r s = true) (h' : covR s t = true) : covR r t = true := covers_trans h h'
/-- The stack behind popping. -/
theorem pop_keep {o : List Rt} (h : o.Pairwise chainR) (r : Rt) (m : Nat) (hm : m < o.length) (hc : covR o[m] r = true) : (o.take (m + 1)).filter (covers_ r) = o.take (m + 1) := by
  rw [List.filter_eq_self]
  intro s hs
  rw [List.take_succ_eq_append_getElem hm] at hs
  rcases List.mem_append.1 hs with h1 | h1
  · have h2 := h.sublist (List.take_sublist (m + 1) o)
    rw [List.take_succ_eq_append_getElem hm, List.pairwise_append] at h2
    exact covR_trans (h2.2.2 s h1 o[m] (by simp)).1 hc
  · rw [List.mem_singleton.1 h1]; exact hc
theorem pop_drop {o : List Rt} (r : Rt) (m : Nat) (hm : m < o.length) (hc : covR o[m] r = false) : (o.take (m + 1)).filter (covers_ r) = (o.take m).filter (covers_ r) := by
  rw [List.take_succ_eq_append_getElem hm, List.filter_append]
  simp [covers_, hc]
end Pg
