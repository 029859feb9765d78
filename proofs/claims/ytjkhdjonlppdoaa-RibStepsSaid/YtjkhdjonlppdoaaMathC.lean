/- How many routes of a table cover one another. Plain Lean, no program. -/
import Derived.Test.YtjkhdjonlppdoaaMathK2
namespace Pg
open Go
def stepC (st : List Rt × Nat) (r : Rt) : List Rt × Nat := (st.1.filter (covers_ r) ++ [r], max st.2 ((st.1.filter (covers_ r)).length + 1))
def foldC (l : List Rt) : List Rt × Nat := l.foldl stepC ([], 0)
def chainN (l : List Rt) : Nat := (foldC l).2
theorem foldC_snoc (l : List Rt) (r : Rt) : foldC (l ++ [r]) = stepC (foldC l) r := by unfold foldC; rw [List.foldl_append]; rfl
theorem foldC_take (l : List Rt) (k : Nat) (hk : k < l.length) : foldC (l.take (k + 1)) = stepC (foldC (l.take k)) l[k] := by rw [List.take_succ_eq_append_getElem hk, foldC_snoc]
structure InvC (pre post o : List Rt) : Prop where
  sub : o.Sublist pre
  chain : o.Pairwise chainR
  comp : ∀ s ∈ pre, ∀ r ∈ post, covR s r = true → s ∈ o
theorem invC_step {pre post o : List Rt} {r : Rt} (h : Tab (pre ++ r :: post)) (hi : InvC pre (r :: post) o) : InvC (pre ++ [r]) post (o.filter (covers_ r) ++ [r]) := by
  have hm := mid_lt h
  have hr := h.right r (by simp)
  refine ⟨(List.filter_sublist.trans hi.sub).append (List.Sublist.refl _), ?_, fun s hs t ht hc => ?_⟩
  · rw [List.pairwise_append]
    refine ⟨hi.chain.sublist List.filter_sublist, by simp, fun s hs t ht => ?_⟩
    obtain rfl := List.mem_singleton.1 ht
    obtain ⟨hso, hsr⟩ := List.mem_filter.1 hs
    have hsr : covR s t = true := hsr
    have hsp := hi.sub.subset hso
    refine ⟨hsr, ?_⟩
    have h2 := (covR_iff s t).1 hsr
    rcases Int.lt_or_le s.n t.n with hlt | hle
    · exact hlt
    · have hx := same_of_match (h.right s (by simp [hsp])) hr h2.2 (match_self hr) (by omega)
      rcases hm.1 s hsp with h5 | ⟨_, h5⟩
      · rw [hx] at h5; omega
      · omega
  · rcases List.mem_append.1 hs with h1 | h1
    · exact List.mem_append.2 (.inl (List.mem_filter.2 ⟨hi.comp s h1 t (by simp [ht]) hc, cov_mid (h.right s (by simp [h1])) hr (hm.1 s h1) (hm.2 t ht) hc⟩))
    · exact List.mem_append.2 (.inr h1)
theorem invC (pre : List Rt) : ∀ post : List Rt, Tab (pre ++ post) → InvC pre post (foldC pre).1 := by
  induction pre using rev_ind with
  | h0 => exact fun post _ => ⟨List.Sublist.refl _, List.Pairwise.nil, by simp⟩
  | hs pre r ih =>
    intro post h
    rw [List.append_assoc] at h
    rw [foldC_snoc]
    exact invC_step h (ih _ h)
def depthR (l : List Rt) (r : Rt) : Nat := (l.filter (covers_ r)).length
theorem open_depth {pre post : List Rt} {r : Rt} (h : Tab (pre ++ r :: post)) : ((foldC pre).1.filter (covers_ r)).length + 1 = depthR (pre ++ r :: post) r := by
  have hi := invC pre (r :: post) h
  have hm := mid_lt h
  have hr := h.right r (by simp)
  have hTp : Tab pre := h.sub (List.sublist_append_left _ _)
  have e1 : (foldC pre).1.filter (covers_ r) = pre.filter (covers_ r) := by
    refine sub_all (hi.sub.filter _) (hTp.filter _).nodup fun s hs => ?_
    obtain ⟨hsp, hsr⟩ := List.mem_filter.1 hs
    exact List.mem_filter.2 ⟨hi.comp s hsp r (by simp) hsr, hsr⟩
  have e2 : post.filter (covers_ r) = [] := by
    rw [List.filter_eq_nil_iff]
    intro t ht hc
    have hc : covR t r = true := hc
    have h2 := (covR_iff t r).1 hc
    rcases Int.lt_or_le t.n r.n with hlt | hle
    · exact ltR_asymm (hm.2 t ht) (cov_lt (h.right t (by simp [ht])) hr hc hlt)
    · have hx := same_of_match (h.right t (by simp [ht])) hr h2.2 (match_self hr) (by omega)
      rcases hm.2 t ht with h5 | ⟨_, h5⟩
      · rw [hx] at h5; omega
      · omega
  have e3 : covers_ r r = true := (covR_iff r r).2 ⟨Int.le_refl _, match_self hr⟩
  unfold depthR
  rw [List.filter_append, List.filter_cons_of_pos e3, e2, e1, List.length_append]
  rfl
theorem chain_ge (pre : List Rt) : ∀ post : List Rt, Tab (pre ++ post) → ∀ r ∈ pre, depthR (pre ++ post) r ≤ (foldC pre).2 := by
  induction pre using rev_ind with
  | h0 => intro post _ r hr; simp at hr
  | hs pre r ih =>
    intro post h s hs
    rw [List.append_assoc] at h ⊢
    rw [foldC_snoc]
    show _ ≤ max (foldC pre).2 _
    rcases List.mem_append.1 hs with h1 | h1
    · exact Nat.le_trans (ih _ h s h1) (Nat.le_max_left _ _)
    · obtain rfl := List.mem_singleton.1 h1
      rw [open_depth h]
      exact Nat.le_max_right _ _
theorem chain_le (pre : List Rt) : ∀ (post : List Rt) (M : Nat), Tab (pre ++ post) → (∀ r ∈ pre, depthR (pre ++ post) r ≤ M) → (foldC pre).2 ≤ M := by
  induction pre using rev_ind with
  | h0 => intro post M _ _; exact Nat.zero_le _
  | hs pre r ih =>
    intro post M h hd
    rw [List.append_assoc] at h hd
    rw [foldC_snoc]
    show max (foldC pre).2 _ ≤ M
    rw [open_depth h]
    exact Nat.max_le.2 ⟨ih _ M h fun s hs => hd s (by simp [hs]), hd r (by simp)⟩
theorem chainN_sub {l K : List Rt} (h : Tab l) (hs : K.Sublist l) : chainN K ≤ chainN l := by
  refine chain_le K [] _ (by simpa using h.sub hs) fun r hr => ?_
  have h1 := chain_ge l [] (by simpa using h) r (hs.subset hr)
  simp only [List.append_nil] at h1 ⊢
  exact Nat.le_trans (hs.filter (covers_ r)).length_le h1
theorem chainN_len (l : List Rt) (h : Tab l) : chainN l ≤ l.length := chain_le l [] _ (by simpa using h) fun r _ => by simp only [List.append_nil]; exact List.length_filter_le _ _
end Pg
