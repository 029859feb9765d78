/- Routes: rib.Drop. -/
import Derived.Test.YtdoghlncoinhoaaFind
import Derived.Test.YtdoghlncoinhoaaRow2
namespace Pg
open Go
theorem eqR_iff (x : B) (n : Int) (s : Rt) : eqR x n s = true ↔ cmpP s.x s.n x n = 0 := by
  unfold eqR
  rw [cmpP_zero]
  simp
theorem IsAt.drop {l : List Rt} {x : B} {n : Int} {c : Nat} {is : Bool} (h : IsAt l x n c is) (hT : Tab l) : (l.filter fun s => !eqR x n s) = if is then l.eraseIdx c else l := by
  cases hi : is
  · have hf := h.find hT
    rw [hi] at hf
    simp only [Bool.false_eq_true, if_false] at hf ⊢
    rw [List.find?_eq_none] at hf
    rw [List.filter_eq_self]
    intro s hs
    have := hf s hs
    simpa using this
  · obtain ⟨hc, h0⟩ := h.found.1 hi
    simp only [if_true]
    have hl : l = l.take c ++ l[c] :: l.drop (c + 1) := by rw [← List.drop_eq_getElem_cons hc, List.take_append_drop]
    have h1 : ((l.take c).filter fun s => !eqR x n s) = l.take c := by
      rw [List.filter_eq_self]
      intro s hs
      obtain ⟨t, ht, rfl⟩ := List.getElem_of_mem hs
      rw [List.length_take] at ht
      have hb := h.below t (by omega) (by omega)
      rw [List.getElem_take]
      cases he : eqR x n l[t]
      · rfl
      · rw [eqR_iff] at he; omega
    have h2 : ((l.drop (c + 1)).filter fun s => !eqR x n s) = l.drop (c + 1) := by
      rw [List.filter_eq_self]
      intro s hs
      obtain ⟨t, ht, rfl⟩ := List.getElem_of_mem hs
      rw [List.length_drop] at ht
      rw [List.getElem_drop]
      cases he : eqR x n l[c + 1 + t]
      · rfl
      · have hs := List.pairwise_iff_getElem.1 hT.sorted c (c + 1 + t) hc (by omega) (by omega)
        rw [eqR_iff, cmpP_zero] at he
        rw [cmpP_zero] at h0
        have h4 : ltR l[c] l[c + 1 + t] := hs
        have h5 := (cmpP_lt _ _ _ _).2 h4
        rw [h0.1, h0.2, he.1, he.2, (cmpP_zero x n x n).2 ⟨rfl, rfl⟩] at h5
        omega
    have h3 : eqR x n l[c] = true := (eqR_iff _ _ _).2 h0
    rw [List.eraseIdx_eq_take_drop_succ]
    conv => lhs; rw [hl]
    rw [List.filter_append, List.filter_cons, h1, h2, h3]
    simp
end Pg
namespace Go.Proofs.Ytdoghlncoinhoaa
open Go.RowKit Pg

set_option maxHeartbeats 1000000 in
set_option maxRecDepth 100000 in
theorem ribdrop_any {l : List Rt} {v : Value} (x : B) (n : Int) (w : World) (hl : Els w v 4 Rt.cells l) (hT : Tab l) (hn : l.length ≤ 1000) : Calls Try.prog 26 #[v, pv x n] w (RetEls 48 4 Rt.cells (l.filter fun s => !eqR x n s) w) := by
  obtain ⟨c, is, hat⟩ := isAt_exists hT x n
  have hd := hat.drop hT
  have hb := Lib.hid (fun W (h' : Els W v 4 Rt.cells l) => at_any x n c is W h' hn hat)
  have hcl := Lib.hid (fun W (h' : Els W v 4 Rt.cells l) => cloneRt_any W h' (by omega))
  have HE := Lib.hid hl
  obtain ⟨ad, cap, rfl, hcap, he⟩ := hl.form
  cases is
  · simp only [Bool.false_eq_true, if_false] at hd
    rw [hd]
    clear hl he hat hT hd
    go_enter Try.func26, Try.ntmps26
    go_wp2_with fail
    refine (hb.out _ (HE.out.alloc _)).mono ?_
    rintro e w1 ⟨rfl, q1, rfl⟩
    go_wp2_with fail
    refine (hcl.out _ ((HE.out.alloc _).ext _)).mono ?_
    rintro e w2 ⟨v2, rfl, ho2⟩
    have HO2 := Lib.hid ho2
    clear ho2
    go_wp2_with fail
    go_ret
    exact RetEls.mk (Kept.ext ((Kept.refl w).alloc _) _) HO2.out
  · obtain ⟨hc, _⟩ := hat.found.1 rfl
    simp only [if_true] at hd
    rw [hd]
    have hdl := Lib.hid (fun W0 W u (h : Own W0 W 48 4 u l.length (l.flatMap Rt.cells)) => deleteRt_any W0 W h c hc (by omega))
    clear hl he hat hT hd
    go_enter Try.func26, Try.ntmps26
    go_wp2_with fail
    refine (hb.out _ (HE.out.alloc _)).mono ?_
    rintro e w1 ⟨rfl, q1, rfl⟩
    go_wp2_with fail
    refine (hcl.out _ ((HE.out.alloc _).ext _)).mono ?_
    rintro e w2 ⟨v2, rfl, ho2⟩
    have HO2 := Lib.hid ho2
    clear ho2
    go_wp2_with fail
    refine (hdl.out _ _ _ HO2.out).mono ?_
    rintro e w3 ⟨v3, rfl, ho3⟩
    have HO3 := Lib.hid ho3
    clear ho3
    go_wp2_with fail
    go_ret
    exact RetEls.mk (Kept.ext ((Kept.refl w).alloc _) _) HO3.out
end Go.Proofs.Ytdoghlncoinhoaa
