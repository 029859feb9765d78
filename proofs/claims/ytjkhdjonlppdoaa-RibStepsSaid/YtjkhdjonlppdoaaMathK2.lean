/- What is told of what is kept; kept once more. Plain Lean, no program. -/
import Derived.Test.YtjkhdjonlppdoaaMathK
namespace Pg
open Go
instance : DecidableEq Rt := fun r s => if h : r.x = s.x ∧ r.n = s.n ∧ r.act = s.act then isTrue (by cases r; cases s; simp_all) else isFalse (fun e => h (by rw [e]; exact ⟨rfl, rfl, rfl⟩))
theorem sub_filter {K L : List Rt} (hs : K.Sublist L) : L.Nodup → K = L.filter (fun r => decide (r ∈ K)) := by
  induction hs with
  | slnil => intro _; rfl
  | @cons K L a hs ih =>
    intro hn
    rw [List.nodup_cons] at hn
    rw [List.filter_cons_of_neg (by simp; exact fun h => hn.1 (hs.subset h))]
    exact ih hn.2
  | @cons_cons K L a hs ih =>
    intro hn
    rw [List.nodup_cons] at hn
    rw [List.filter_cons_of_pos (by simp)]
    congr 1
    refine (ih hn.2).trans (List.filter_congr fun x hx => ?_)
    rw [decide_eq_decide]
    exact ⟨fun h => List.mem_cons_of_mem _ h, fun h => (List.mem_cons.1 h).resolve_left fun e => hn.1 (e ▸ hx)⟩
theorem sub_all {K L : List Rt} (hs : K.Sublist L) (hn : L.Nodup) (h : ∀ r ∈ L, r ∈ K) : K = L := by
  have := sub_filter hs hn
  rw [this, List.filter_eq_self]
  exact fun r hr => by simpa using h r hr
def tellR (l : List Rt) (a : B) : Int := ((bestO (matchR a) l).map Rt.act).getD 0
theorem tell_keep {l : List Rt} (h : Tab l) (a : B) : tellR (keepL l) a = tellR l a := by
  have hK := keepL_sub h
  have hTK := keepL_tab h
  have hl := bestO_top (matchR a) l
  have key : ∀ c, isTop (matchR a) (keepL l) c → bestO (matchR a) (keepL l) = c := fun c hc => isTop_uniq hTK (fun _ _ h => h) (bestO_top _ _) hc
  unfold tellR
  cases hb : bestO (matchR a) l with
  | none =>
    rw [hb] at hl
    rw [key none fun r hr => hl r (hK.subset hr)]
  | some b =>
    rw [hb] at hl
    have hbr := h.right b hl.1
    by_cases hbK : b ∈ keepL l
    · rw [key (some b) ⟨hbK, hl.2.1, fun r hr hp => hl.2.2 r (hK.subset hr) hp⟩]
    · rw [keepL_spec h hl.1] at hbK
      simp only [Classical.not_forall, Classical.not_not] at hbK
      obtain ⟨c, hc, hac⟩ := hbK
      have ht := bestO_top (nearP b) (keepL l)
      unfold nearK at hc
      rw [hc] at ht
      have hcl := hK.subset ht.1
      have hcr := h.right c hcl
      have hcp := ht.2.1
      unfold nearP at hcp
      simp only [Bool.and_eq_true, decide_eq_true_eq] at hcp
      have hcov : covR c b = true := (covR_iff c b).2 ⟨by omega, hcp.2⟩
      have hbn : b ∉ keepL l := fun hm => (keepL_spec h hl.1).1 hm c hc hac
      rw [key (some c) ⟨ht.1, match_of_cov hcr hbr hcov hl.2.1, fun s hs hp => ?_⟩]
      · simp [hac]
      · have hsl := hK.subset hs
        have hsr := h.right s hsl
        have h1 := hl.2.2 s hsl hp
        have h2 : s.n < b.n := by
          rcases Int.lt_or_le s.n b.n with h3 | h3
          · exact h3
          · have he : s.n = b.n := by omega
            have := h.same hsl hl.1 (same_of_match hsr hbr hp hl.2.1 he) he
            rw [this] at hs; exact absurd hs hbn
        refine ht.2.2 s hs ?_
        unfold nearP
        simp only [Bool.and_eq_true, decide_eq_true_eq]
        exact ⟨h2, ((covR_iff s b).1 (cov_of_match hsr hbr hp hl.2.1 h1)).2⟩
theorem bestO_congr {p : Rt → Bool} {l : List Rt} (h : Tab l) {a : B} (hp : ∀ r ∈ l, p r = true → matchR a r = true) {l' : List Rt} (hs : l'.Sublist l) (hin : ∀ r ∈ l, p r = true → r ∈ l') : bestO p l' = bestO p l := by
  refine (isTop_uniq h hp (bestO_top p l) ?_).symm
  have ht := bestO_top p l'
  cases hb : bestO p l' with
  | none => rw [hb] at ht; intro r hr
            cases hc : p r
            · rfl
            · rw [ht r (hin r hr hc)] at hc; cases hc
  | some b => rw [hb] at ht; exact ⟨hs.subset ht.1, ht.2.1, fun r hr hc => ht.2.2 r (hin r hr hc) hc⟩
theorem keepL_twice {l : List Rt} (h : Tab l) : keepL (keepL l) = keepL l := by
  have hT := keepL_tab h
  have hs := keepL_sub hT
  refine sub_all hs hT.nodup ?_
  have key : ∀ (n : Nat) (r : Rt), r.n.toNat < n → r ∈ keepL l → r ∈ keepL (keepL l) := by
    intro n
    induction n with
    | zero => intro r h1; omega
    | succ n ih =>
      intro r h1 hr
      have hrr := h.right r ((keepL_sub h).subset hr)
      rw [keepL_spec hT hr]
      have e : nearK (keepL (keepL l)) r = nearK (keepL l) r := by
        refine bestO_congr hT (a := r.x) (fun s _ hp => ?_) hs fun s hsK hp => ?_
        · unfold nearP at hp; simp only [Bool.and_eq_true] at hp; exact hp.2
        · unfold nearP at hp
          simp only [Bool.and_eq_true, decide_eq_true_eq] at hp
          refine ih s ?_ hsK
          have := (right_len (h.right s ((keepL_sub h).subset hsK))).1
          omega
      rw [e]
      exact (keepL_spec h ((keepL_sub h).subset hr)).1 hr
  exact fun r hr => key (r.n.toNat + 1) r (Nat.lt_succ_self _) hr
end Pg
