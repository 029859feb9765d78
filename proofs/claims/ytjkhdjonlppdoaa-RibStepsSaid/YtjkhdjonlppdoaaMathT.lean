/- Tables of routes: sorted rows of prefixes; what is kept of them. Plain Lean, no program. -/
import Derived.Test.YtjkhdjonlppdoaaMathP
import Derived.Test.YtjkhdjonlppdoaaInfo
namespace Pg
open Go
def matchR (a : B) (r : Rt) : Bool := matchB r.x r.n a
def covR (r s : Rt) : Bool := coversB r.x r.n s.x s.n
def ltR (r s : Rt) : Prop := r.x.toNat < s.x.toNat ∨ (r.x = s.x ∧ r.n < s.n)
theorem cmpP_lt (x : B) (n : Int) (y : B) (m : Int) : cmpP x n y m < 0 ↔ x.toNat < y.toNat ∨ (x = y ∧ n < m) := by
  unfold cmpP
  by_cases h : cmpB x y = 0
  · have hxy := (cmp_zero x y).1 h
    subst hxy
    rw [if_pos h]
    unfold cmpI
    constructor
    · intro h1
      refine .inr ⟨rfl, ?_⟩
      revert h1
      split
      · intro _; assumption
      · split <;> intro h1 <;> omega
    · rintro (h1 | ⟨_, h1⟩)
      · omega
      · rw [if_pos h1]; omega
  · rw [if_neg h]
    have hne : x ≠ y := fun e => h ((cmp_zero x y).2 e)
    unfold cmpB
    constructor
    · intro h1
      refine .inl ?_
      revert h1
      split
      · intro _; assumption
      · split <;> intro h1 <;> omega
    · rintro (h1 | ⟨h1, _⟩)
      · rw [if_pos h1]; omega
      · exact absurd h1 hne
theorem ltR_irrefl {r : Rt} (h : ltR r r) : False := by
  rcases h with h | ⟨_, h⟩ <;> omega
theorem ltR_trans {r s t : Rt} (h : ltR r s) (h' : ltR s t) : ltR r t := by
  unfold ltR at *
  rcases h with h | ⟨e, h⟩ <;> rcases h' with h' | ⟨e', h'⟩
  · exact .inl (by omega)
  · exact .inl (by rw [← e']; exact h)
  · exact .inl (by rw [e]; exact h')
  · exact .inr ⟨e.trans e', by omega⟩
theorem ltR_asymm {r s : Rt} (h : ltR r s) (h' : ltR s r) : False := ltR_irrefl (ltR_trans h h')
/-- A row whose prefixes may be, in order. -/
structure Tab (l : List Rt) : Prop where
  right : ∀ r ∈ l, rightB 128 r.x r.n = true
  sorted : l.Pairwise ltR
theorem Tab.nil : Tab [] := ⟨by simp, List.Pairwise.nil⟩
theorem Tab.sub {l l' : List Rt} (h : Tab l) (hs : l'.Sublist l) : Tab l' := ⟨fun r hr => h.right r (hs.subset hr), h.sorted.sublist hs⟩
theorem Tab.filter {l : List Rt} (h : Tab l) (p : Rt → Bool) : Tab (l.filter p) := h.sub List.filter_sublist
theorem Tab.nodup {l : List Rt} (h : Tab l) : l.Nodup := List.Pairwise.imp (S := fun a b => a ≠ b) (fun {a b} h e => by subst e; exact ltR_irrefl h) h.sorted

theorem near_int {n : Int} (h0 : 0 ≤ n) (h1 : n ≤ 128) (k : Nat) : k < near n ↔ (k : Int) < n := by have := near_of h0 h1; omega
section
variable {r s t : Rt}
theorem right_zero (h : rightB 128 r.x r.n = true) (k : Nat) (h1 : r.n ≤ (k : Int)) (h2 : k < 128) : bt r.x k = false := by
  obtain ⟨_, n0, n1, e⟩ := rightB_parts h
  exact (cut_self_iff r.x (near r.n)).1 e k (by have := near_of n0 n1; omega) h2
theorem right_len (h : rightB 128 r.x r.n = true) : 0 ≤ r.n ∧ r.n ≤ 128 := by
  obtain ⟨_, n0, n1, _⟩ := rightB_parts h
  exact ⟨n0, n1⟩
theorem matchR_iff (h : rightB 128 r.x r.n = true) (a : B) : matchR a r = true ↔ ∀ k : Nat, (k : Int) < r.n → bt r.x k = bt a k := by
  obtain ⟨n0, n1⟩ := right_len h
  unfold matchR
  rw [matchB_iff]
  exact ⟨fun h k hk => h k ((near_int n0 n1 k).2 hk), fun h k hk => h k ((near_int n0 n1 k).1 hk)⟩
theorem covR_iff (r s : Rt) : covR r s = true ↔ r.n ≤ s.n ∧ matchR s.x r = true := by unfold covR coversB matchR; simp
/-- Two of one length that match one address are one. -/
theorem same_of_match (hr : rightB 128 r.x r.n = true) (hs : rightB 128 s.x s.n = true) {a : B} (h1 : matchR a r = true) (h2 : matchR a s = true) (hn : r.n = s.n) : r.x = s.x := by
  rw [matchR_iff hr] at h1
  rw [matchR_iff hs] at h2
  apply ext_bt
  intro k hk
  rcases Int.lt_or_le (k : Int) r.n with h | h
  · rw [h1 k h, h2 k (by omega)]
  · rw [right_zero hr k h hk, right_zero hs k (by omega) hk]
/-- Of two that match one address the shorter one covers the other one. -/
theorem cov_of_match (hr : rightB 128 r.x r.n = true) (hs : rightB 128 s.x s.n = true) {a : B} (h1 : matchR a r = true) (h2 : matchR a s = true) (hn : r.n ≤ s.n) : covR r s = true := by
  rw [covR_iff, matchR_iff hr]
  rw [matchR_iff hr] at h1
  rw [matchR_iff hs] at h2
  exact ⟨hn, fun k hk => by rw [h1 k hk, h2 k (by omega)]⟩
theorem match_of_cov (hr : rightB 128 r.x r.n = true) (hs : rightB 128 s.x s.n = true) {a : B} (h : covR r s = true) (h2 : matchR a s = true) : matchR a r = true := by
  rw [covR_iff, matchR_iff hr] at h
  rw [matchR_iff hs] at h2
  rw [matchR_iff hr]
  exact fun k hk => by rw [h.2 k hk, h2 k (by omega)]
theorem match_self (hr : rightB 128 r.x r.n = true) : matchR r.x r = true := by rw [matchR_iff hr]; exact fun _ _ => rfl
/-- What covers stands ahead. -/
theorem cov_lt (hr : rightB 128 r.x r.n = true) (hs : rightB 128 s.x s.n = true) (h : covR r s = true) (hne : r.n < s.n) : ltR r s := by
  have h1 := covers_le hr hs h
  rcases Int.lt_or_le (cmpP r.x r.n s.x s.n) 0 with h2 | h2
  · exact (cmpP_lt _ _ _ _).1 h2
  · have := (cmpP_zero r.x r.n s.x s.n).1 (by omega)
    omega
theorem mask128_self (a : B) : a &&& maskB (near 128) = a := by
  rw [show near 128 = 128 by decide]; exact and_mask_ge a 128 (Nat.le_refl _)
/-- What stands between one that covers and one that is covered is covered, too. -/
theorem cov_mid (hs : rightB 128 s.x s.n = true) (hr : rightB 128 r.x r.n = true) (h1 : ltR s r) (h2 : ltR r t) (h : covR s t = true) : covR s r = true := by
  have hm := ((covR_iff s t).1 h).2
  have hb := between (a := t.x) hs (mask128_self _)
  unfold matchR at hm
  rw [hm] at hb
  have hb := hb.symm
  simp only [Bool.and_eq_true, decide_eq_true_eq, cmp_le_iff, cmp_ge_iff] at hb
  have hxt : r.x.toNat ≤ t.x.toNat := by
    rcases h2 with h2 | ⟨e, _⟩
    · omega
    · rw [e]; exact Nat.le_refl _
  have hsx : s.x.toNat ≤ r.x.toNat := by
    rcases h1 with h1 | ⟨e, _⟩
    · omega
    · rw [e]; exact Nat.le_refl _
  have hmr : matchR r.x s = true := by
    unfold matchR
    rw [between (a := r.x) hs (mask128_self _)]
    simp only [Bool.and_eq_true, decide_eq_true_eq, cmp_le_iff, cmp_ge_iff]
    omega
  rw [covR_iff]
  refine ⟨?_, hmr⟩
  rcases h1 with h1 | ⟨_, h1⟩
  · rcases Int.lt_or_le r.n s.n with hlt | hle
    · exfalso
      have e : s.x = r.x := by
        rw [matchR_iff hs] at hmr
        apply ext_bt
        intro k hk
        rcases Int.lt_or_le (k : Int) s.n with h | h
        · exact hmr k h
        · rw [right_zero hs k h hk, right_zero hr k (by omega) hk]
      rw [e] at h1; omega
    · exact hle
  · omega
end
theorem rev_ind {P : List Rt → Prop} (h0 : P []) (hs : ∀ l r, P l → P (l ++ [r])) (l : List Rt) : P l := by
  rw [← List.reverse_reverse l]
  induction l.reverse with
  | nil => exact h0
  | cons r l ih => rw [List.reverse_cons]; exact hs _ _ ih
/-- The longest one for which something holds. -/
def bestO (p : Rt → Bool) (l : List Rt) : Option Rt := l.foldl (fun o r => if p r then (match o with
  | none => some r
  | some b => if b.n < r.n then some r else some b) else o) none
def isTop (p : Rt → Bool) (l : List Rt) : Option Rt → Prop
  | none => ∀ r ∈ l, p r = false
  | some b => b ∈ l ∧ p b = true ∧ ∀ r ∈ l, p r = true → r.n ≤ b.n
theorem bestO_snoc (p : Rt → Bool) (l : List Rt) (r : Rt) : bestO p (l ++ [r]) = if p r then (match bestO p l with
  | none => some r
  | some b => if b.n < r.n then some r else some b) else bestO p l := by unfold bestO; rw [List.foldl_append]; rfl
theorem bestO_top (p : Rt → Bool) (l : List Rt) : isTop p l (bestO p l) := by
  induction l using rev_ind with
  | h0 => intro r hr; cases hr
  | hs l r ih =>
    rw [bestO_snoc]
    cases hp : p r
    · simp only [Bool.false_eq_true, if_false]
      cases hb : bestO p l with
      | none => rw [hb] at ih; intro s hs; rcases List.mem_append.1 hs with h | h
                · exact ih s h
                · rw [List.mem_singleton.1 h]; exact hp
      | some b =>
        rw [hb] at ih
        refine ⟨List.mem_append.2 (.inl ih.1), ih.2.1, fun s hs hps => ?_⟩
        rcases List.mem_append.1 hs with h | h
        · exact ih.2.2 s h hps
        · rw [List.mem_singleton.1 h, hp] at hps; cases hps
    · simp only [if_true]
      cases hb : bestO p l with
      | none =>
        rw [hb] at ih
        refine ⟨by simp, hp, fun s hs hps => ?_⟩
        rcases List.mem_append.1 hs with h | h
        · rw [ih s h] at hps; cases hps
        · rw [List.mem_singleton.1 h]; exact Int.le_refl _
      | some b =>
        rw [hb] at ih
        by_cases hlt : b.n < r.n
        · simp only [hlt, if_true]
          refine ⟨by simp, hp, fun s hs hps => ?_⟩
          rcases List.mem_append.1 hs with h | h
          · have := ih.2.2 s h hps; omega
          · rw [List.mem_singleton.1 h]; exact Int.le_refl _
        · simp only [hlt, if_false]
          refine ⟨List.mem_append.2 (.inl ih.1), ih.2.1, fun s hs hps => ?_⟩
          rcases List.mem_append.1 hs with h | h
          · exact ih.2.2 s h hps
          · rw [List.mem_singleton.1 h]; omega
/-- Two of a table of one prefix are one. -/
theorem Tab.same {l : List Rt} (h : Tab l) {r s : Rt} (hr : r ∈ l) (hs : s ∈ l) (hx : r.x = s.x) (hn : r.n = s.n) : r = s := by
  have := h.sorted
  induction l with
  | nil => cases hr
  | cons t l ih =>
    rw [List.pairwise_cons] at this
    have no : ∀ u : Rt, u ∈ l → t.x = u.x → t.n = u.n → False := fun u hu e1 e2 => by
      rcases this.1 u hu with h | ⟨_, h⟩
      · rw [e1] at h; omega
      · omega
    rcases List.mem_cons.1 hr with rfl | hr' <;> rcases List.mem_cons.1 hs with rfl | hs'
    · rfl
    · exact (no s hs' hx hn).elim
    · exact (no r hr' hx.symm hn.symm).elim
    · exact ih (h.sub (List.sublist_cons_self ..)) hr' hs' this.2
/-- Of a table: the top one is one alone, where what holds are some that match one address. -/
theorem isTop_uniq {l : List Rt} (h : Tab l) {p : Rt → Bool} {a : B} (hp : ∀ r ∈ l, p r = true → matchR a r = true) {x y : Option Rt} (hx : isTop p l x) (hy : isTop p l y) : x = y := by
  cases x with
  | none => cases y with
    | none => rfl
    | some b => have := hx b hy.1; rw [hy.2.1] at this; cases this
  | some c => cases y with
    | none => have := hy c hx.1; rw [hx.2.1] at this; cases this
    | some b =>
      have h1 := hx.2.2 b hy.1 hy.2.1
      have h2 := hy.2.2 c hx.1 hx.2.1
      have hn : c.n = b.n := by omega
      rw [h.same hx.1 hy.1 (same_of_match (h.right c hx.1) (h.right b hy.1) (hp c hx.1 hx.2.1) (hp b hy.1 hy.2.1) hn) hn]
end Pg
