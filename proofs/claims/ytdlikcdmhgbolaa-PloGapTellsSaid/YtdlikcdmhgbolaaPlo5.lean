/- Slots in the order of lengths: plo.Insert; the reference's Insert. -/
import Derived.Test.YtdlikcdmhgbolaaPlo4
namespace Pg
open Go Go.RowKit
/-- A call hands back a row of its own, and a number. -/
def RetWE (e : TypeId) (l : List Wr) (er : Int) (w : World) (en : Ending) (w' : World) : Prop :=
  ∃ v, en = .returned (.tuple #[v, .int .i64 er]) ∧ Own w w' e 8 v l.length (l.flatMap Wr.cells)
theorem RetWE.mk {e : TypeId} {l : List Wr} {er : Int} {W w w' : World} {v : Value} (hk : Kept W w) (h : Own w w' e 8 v l.length (l.flatMap Wr.cells)) : RetWE e l er W (.returned (.tuple #[v, .int .i64 er])) w' := by
  obtain ⟨v', he, ho⟩ := RetEls.mk hk h
  injection he with he
  subst he
  exact ⟨_, rfl, ho⟩
theorem own_one {W0 w : World} (e : TypeId) (g : Nat) (x : Wr) (hk : Kept W0 w) (hg : W0.heap.size ≤ g) (hb : Blk w g e (Wr.cells x).toArray) : Own W0 w e 8 (.slice (some ⟨g, 0, none⟩) 1 1) [x].length ([x].flatMap Wr.cells) :=
  ⟨hk, by simp [Wr.cells], .inr ⟨g, 1, (Wr.cells x).toArray, rfl, hg, hb, Nat.le_refl _, by unfold maxLen; omega, by simp [Wr.cells], by simp [Wr.cells]⟩⟩
theorem els_none {α : Type} (w : World) (a : Option Addr) (c k : Nat) (enc : α → List Value) : Els w (.slice a 0 c) k enc [] := ⟨a, c, rfl, Nat.zero_le _, fun h => absurd h (by simp)⟩
theorem els_mid {l : List Slot} {w : World} {b o c : Nat} (h : Els w (.slice (some ⟨b, o, none⟩) l.length c) 7 Slot.cells l) (F T : Nat) (hF : F ≤ T) (hT : T ≤ l.length) : Els w (.slice (some ⟨b, o + F * 7, none⟩) (T - F) (c - F)) 7 Slot.cells ((l.drop F).take (T - F)) := by
  have hlen : ((l.drop F).take (T - F)).length = T - F := by rw [List.length_take, List.length_drop]; omega
  have h9 := h
  obtain ⟨a, c', e, hc, _⟩ := h9
  injection e with e1 e2 e3
  refine ⟨some ⟨b, o + F * 7, none⟩, c - F, by rw [hlen], by rw [hlen]; omega, fun h0 => ⟨b, o + F * 7, rfl, ?_, fun i hi j hj => ?_⟩⟩
  · rw [hlen] at h0
    exact (h.at2 F (by omega)).1
  · rw [hlen] at hi
    have h1 := (h.at2 (F + i) (by omega)).2 j hj
    rw [List.getElem_take, List.getElem_drop, ← h1]
    congr 2
    rw [Nat.add_mul]; omega
theorem els_some {α : Type} {w : World} {a : Option Addr} {c k : Nat} {enc : α → List Value} {l : List α} (h : Els w (.slice a l.length c) k enc l) (hn : 0 < l.length) : ∃ b o, a = some ⟨b, o, none⟩ := by
  obtain ⟨b, o, e, _⟩ := h.at_ 0 hn
  exact ⟨b, o, e⟩
end Pg
namespace Go.Proofs.Ytdlikcdmhgbolaa
open Go.RowKit Pg

theorem gap_as {l : List Slot} {v : Value} {n : Int} {F T : Nat} (hk : keptS l = true) (hF : fromS n l = F) (hT : toS n l = T) (w : World) (hl : Els w v 7 Slot.cells l) (hn : l.length ≤ 1000) : Calls Try.prog 15 #[v, .int .i64 n] w (Ret (.tuple #[.int .i64 (F : Int), .int .i64 (T : Int)]) w) := by
  have := plogap_any n w hl hn
  rwa [hk, if_pos rfl, hF, hT] at this
theorem idx_as {l : List Slot} {v : Value} {i : Int} (h : idxI emptyB l = i) (w : World) (hl : Els w v 7 Slot.cells l) (hn : l.length ≤ 1000) : Calls Try.prog 28 #[v, .func (.func 29) #[] #[]] w (Ret (.int .i64 i) w) := by
  rw [← h]
  exact indexFuncSlot_any emptyB 29 #[] w hl (by omega) (enters_of Try.func29 (by kernel_rfl) rfl) (ploempty_gives w)

set_option maxHeartbeats 20000000 in
set_option maxRecDepth 100000 in
theorem ploinsert_any {l : List Slot} {v : Value} (x : Ent) (w : World) (hl : Els w v 7 Slot.cells l) (hn : l.length ≤ 900) : Calls Try.prog 10 #[v, ev x] w (RetWE 60 (insW l x).1 (insW l x).2 w) := by
  have HE := Lib.hid hl
  obtain ⟨a, c, rfl, hc, he⟩ := hl.form
  cases hr : rightE x
  · have hv : insW l x = ([], 1) := by unfold insW; rw [if_pos hr]
    rw [hv]
    have hri := Lib.hid (fun W => eright_as hr W)
    clear hl he hr hv
    go_enter Try.func10, Try.ntmps10
    go_wp2_with fail
    obtain ⟨wa, hwa⟩ : ∃ wa, wa = w.alloc (.cells #[.int .u64 (hi x.x), .int .u64 (lo x.x), .int .u64 (hi x.m), .int .u64 (lo x.m), .int .i64 x.len, .int .i64 x.act] 29) := ⟨_, rfl⟩
    have HKa := Lib.hid (show Kept w wa by rw [hwa]; exact Kept.alloc (Kept.refl w) _)
    have HBa := Lib.hid (show Blk wa w.heap.size 29 #[.int .u64 (hi x.x), .int .u64 (lo x.x), .int .u64 (hi x.m), .int .u64 (lo x.m), .int .i64 x.len, .int .i64 x.act] by rw [hwa]; exact Blk.new' w _ _ rfl)
    rw [← hwa]
    clear hwa
    have x0 := fun j => (HBa.out).cell j
    have xl := (HBa.out).lt
    go_wp2_with fail
    refine (hri.out _).mono ?_
    rintro e w1 ⟨rfl, q1, rfl⟩
    obtain ⟨w1, hw1⟩ : ∃ w1, w1 = ext wa q1 := ⟨_, rfl⟩
    have HS1 := Lib.hid (show Kept wa w1 by rw [hw1]; exact kept_extP _ _)
    have HK1 := Lib.hid (HKa.out.trans HS1.out)
    have HB1 := Lib.hid (HBa.out.kept HS1.out)
    rw [← hw1]
    clear hw1 x0 xl
    have x0 := fun j => (HB1.out).cell j
    have xl := (HB1.out).lt
    go_wp2_with fail
    exact bodyPost_ret (v := .tuple #[.slice none 0 0, .int .i64 1]) (by simp [results, Try.results10, go_sem]) rfl (RetWE.mk (Kept.refl w) (Own.nil _ _ HK1.out _ _))
  have hri := Lib.hid (fun W => eright_as hr W)
  have hv0 : insW l x = if keptS l = false then ([], 7) else insR2 l x (fromS x.len l) (toS x.len l) := by unfold insW; rw [if_neg (by rw [hr]; decide)]
  cases hk : keptS l
  · rw [hk, if_pos rfl] at hv0
    rw [hv0]
    have hkp := Lib.hid (fun W (h : Els W (.slice a l.length c) 7 Slot.cells l) => plokept_as hk W h (by omega))
    clear hl he hr hv0 hk
    go_enter Try.func10, Try.ntmps10
    go_wp2_with fail
    obtain ⟨wa, hwa⟩ : ∃ wa, wa = w.alloc (.cells #[.int .u64 (hi x.x), .int .u64 (lo x.x), .int .u64 (hi x.m), .int .u64 (lo x.m), .int .i64 x.len, .int .i64 x.act] 29) := ⟨_, rfl⟩
    have HKa := Lib.hid (show Kept w wa by rw [hwa]; exact Kept.alloc (Kept.refl w) _)
    have HBa := Lib.hid (show Blk wa w.heap.size 29 #[.int .u64 (hi x.x), .int .u64 (lo x.x), .int .u64 (hi x.m), .int .u64 (lo x.m), .int .i64 x.len, .int .i64 x.act] by rw [hwa]; exact Blk.new' w _ _ rfl)
    rw [← hwa]
    clear hwa
    have x0 := fun j => (HBa.out).cell j
    have xl := (HBa.out).lt
    refine (hri.out _).mono ?_
    rintro e w1 ⟨rfl, q1, rfl⟩
    obtain ⟨w1, hw1⟩ : ∃ w1, w1 = ext wa q1 := ⟨_, rfl⟩
    have HS1 := Lib.hid (show Kept wa w1 by rw [hw1]; exact kept_extP _ _)
    have HK1 := Lib.hid (HKa.out.trans HS1.out)
    have HB1 := Lib.hid (HBa.out.kept HS1.out)
    rw [← hw1]
    clear hw1 x0 xl
    have x0 := fun j => (HB1.out).cell j
    have xl := (HB1.out).lt
    go_wp2_with fail
    refine (hkp.out _ (HE.out.kept HK1.out)).mono ?_
    rintro e w1 ⟨rfl, q2, rfl⟩
    obtain ⟨w2, hw2⟩ : ∃ w2, w2 = ext w1 q2 := ⟨_, rfl⟩
    have HS2 := Lib.hid (show Kept w1 w2 by rw [hw2]; exact kept_extP _ _)
    have HK2 := Lib.hid (HK1.out.trans HS2.out)
    have HB2 := Lib.hid (HB1.out.kept HS2.out)
    rw [← hw2]
    clear hw2 x0 xl
    have x0 := fun j => (HB2.out).cell j
    have xl := (HB2.out).lt
    go_wp2_with fail
    exact bodyPost_ret (v := .tuple #[.slice none 0 0, .int .i64 7]) (by simp [results, Try.results10, go_sem]) rfl (RetWE.mk (Kept.refl w) (Own.nil _ _ HK2.out _ _))
  rw [hk, if_neg (by decide)] at hv0
  have hkp := Lib.hid (fun W (h : Els W (.slice a l.length c) 7 Slot.cells l) => plokept_as hk W h (by omega))
  obtain ⟨F, hF⟩ : ∃ F, fromS x.len l = F := ⟨_, rfl⟩
  obtain ⟨T, hT⟩ : ∃ T, toS x.len l = T := ⟨_, rfl⟩
  have hFT : F ≤ T := by rw [← hF, ← hT]; exact gap_le hk
  have hTl : T ≤ l.length := by rw [← hT]; exact toS_le _ _
  rw [hF, hT] at hv0
  have hga := Lib.hid (fun W (h : Els W (.slice a l.length c) 7 Slot.cells l) => gap_as hk hF hT W h (by omega))
  have hfu := full_iff (l := l) hFT hTl
  have hle := entsS_len l
  obtain ⟨R, hR⟩ : ∃ R : Int, (l.length : Int) - ((entsS l).length : Int) = R := ⟨_, rfl⟩
  have hfr := Lib.hid (fun W (h : Els W (.slice a l.length c) 7 Slot.cells l) => show Calls Try.prog 22 #[.slice a l.length c] W (Ret (.int .i64 R) W) by rw [← hR]; exact bfree_any W h (by omega))
  by_cases hR0 : R = 0
  · obtain ⟨f1, f2, f3⟩ := hfu.1 (by omega)
    have hv : insW l x = ([], 3) := by rw [hv0]; unfold insR2; rw [f1, f2, f3]
    rw [hv]
    subst hR0
    clear hl he hr hv0 hk hv hF hT hfu f1 f2 f3 hR hle
    go_enter Try.func10, Try.ntmps10
    go_wp2_with fail
    obtain ⟨wa, hwa⟩ : ∃ wa, wa = w.alloc (.cells #[.int .u64 (hi x.x), .int .u64 (lo x.x), .int .u64 (hi x.m), .int .u64 (lo x.m), .int .i64 x.len, .int .i64 x.act] 29) := ⟨_, rfl⟩
    have HKa := Lib.hid (show Kept w wa by rw [hwa]; exact Kept.alloc (Kept.refl w) _)
    have HBa := Lib.hid (show Blk wa w.heap.size 29 #[.int .u64 (hi x.x), .int .u64 (lo x.x), .int .u64 (hi x.m), .int .u64 (lo x.m), .int .i64 x.len, .int .i64 x.act] by rw [hwa]; exact Blk.new' w _ _ rfl)
    rw [← hwa]
    clear hwa
    have x0 := fun j => (HBa.out).cell j
    have xl := (HBa.out).lt
    refine (hri.out _).mono ?_
    rintro e w1 ⟨rfl, q1, rfl⟩
    obtain ⟨w1, hw1⟩ : ∃ w1, w1 = ext wa q1 := ⟨_, rfl⟩
    have HS1 := Lib.hid (show Kept wa w1 by rw [hw1]; exact kept_extP _ _)
    have HK1 := Lib.hid (HKa.out.trans HS1.out)
    have HB1 := Lib.hid (HBa.out.kept HS1.out)
    rw [← hw1]
    clear hw1 x0 xl
    have x0 := fun j => (HB1.out).cell j
    have xl := (HB1.out).lt
    go_wp2_with fail
    refine (hkp.out _ (HE.out.kept HK1.out)).mono ?_
    rintro e w1 ⟨rfl, q2, rfl⟩
    obtain ⟨w2, hw2⟩ : ∃ w2, w2 = ext w1 q2 := ⟨_, rfl⟩
    have HS2 := Lib.hid (show Kept w1 w2 by rw [hw2]; exact kept_extP _ _)
    have HK2 := Lib.hid (HK1.out.trans HS2.out)
    have HB2 := Lib.hid (HB1.out.kept HS2.out)
    rw [← hw2]
    clear hw2 x0 xl
    have x0 := fun j => (HB2.out).cell j
    have xl := (HB2.out).lt
    go_wp2_with fail
    refine (hfr.out _ (HE.out.kept HK2.out)).mono ?_
    rintro e w1 ⟨rfl, q3, rfl⟩
    obtain ⟨w3, hw3⟩ : ∃ w3, w3 = ext w2 q3 := ⟨_, rfl⟩
    have HS3 := Lib.hid (show Kept w2 w3 by rw [hw3]; exact kept_extP _ _)
    have HK3 := Lib.hid (HK2.out.trans HS3.out)
    have HB3 := Lib.hid (HB2.out.kept HS3.out)
    rw [← hw3]
    clear hw3 x0 xl
    have x0 := fun j => (HB3.out).cell j
    have xl := (HB3.out).lt
    go_wp2_with fail
    exact bodyPost_ret (v := .tuple #[.slice none 0 0, .int .i64 3]) (by simp [results, Try.results10, go_sem]) rfl (RetWE.mk (Kept.refl w) (Own.nil _ _ HK3.out _ _))
  have hnf : ¬ (firstE l (T - F) F = none ∧ firstE l (l.length - T) T = none ∧ lastE l F = none) := fun h => hR0 (by have := hfu.2 h; omega)
  have hl0 : 0 < l.length := by omega
  obtain ⟨b, o, rfl⟩ := els_some hl hl0
  have hRb : (R == 0) = false := by simp [hR0]
  have hla := Lib.hid (fun W (h : Els W (.slice (some ⟨b, o, none⟩) l.length c) 7 Slot.cells l) => plolast_any F W h (by omega) (by omega))
  have hi1 := idx_first l F T hFT hTl
  have hi2 := idx_first l T l.length hTl (Nat.le_refl _)
  have HM1 := Lib.hid (fun W (h : Els W (.slice (some ⟨b, o, none⟩) l.length c) 7 Slot.cells l) => els_mid h F T hFT hTl)
  have HM2 := Lib.hid (fun W (h : Els W (.slice (some ⟨b, o, none⟩) l.length c) 7 Slot.cells l) => els_mid h T l.length hTl (Nat.le_refl _))
  have hl1 : ((l.drop F).take (T - F)).length ≤ 1000 := by rw [List.length_take, List.length_drop]; omega
  have hl2 : ((l.drop T).take (l.length - T)).length ≤ 1000 := by rw [List.length_take, List.length_drop]; omega
  have F0 : (0 : Int) ≤ F := by omega
  have T0 : (0 : Int) ≤ T := by omega
  have hFTi : (F : Int) ≤ T := by omega
  have hTli : (T : Int) ≤ (l.length : Int) := by omega
  have hTc : T ≤ c := by omega
  have hTci : (T : Int) ≤ (c : Int) := by omega
  cases hg : firstE l (T - F) F with
  | some g =>
    obtain ⟨g1, g2, _, _⟩ := firstE_some l _ _ g hg
    have hv : insW l x = ([⟨g, ⟨true, x⟩⟩], 0) := by rw [hv0]; unfold insR2; rw [hg]
    rw [hv]
    rw [hg] at hi1
    obtain ⟨K, hK⟩ : ∃ K : Nat, g = F + K := ⟨g - F, by omega⟩
    have hKi : (g : Int) - (F : Int) = (K : Int) := by omega
    simp only at hi1
    rw [hKi] at hi1
    have hix := Lib.hid (fun W (u : Value) (h : Els W u 7 Slot.cells ((l.drop F).take (T - F))) => idx_as hi1 W h hl1)
    have hFK : (F : Int) + (K : Int) = (g : Int) := by omega
    have K0 : (0 : Int) ≤ K := by omega
    have K0d : decide ((0 : Int) ≤ (K : Int)) = true := by simp
    have hcF : ¬ c = F := by omega
    clear hl he hr hv0 hk hv hF hT hfu hR hle hnf hg hi1 hi2 hK hKi
    go_enter Try.func10, Try.ntmps10
    go_wp2_with fail
    obtain ⟨wa, hwa⟩ : ∃ wa, wa = w.alloc (.cells #[.int .u64 (hi x.x), .int .u64 (lo x.x), .int .u64 (hi x.m), .int .u64 (lo x.m), .int .i64 x.len, .int .i64 x.act] 29) := ⟨_, rfl⟩
    have HKa := Lib.hid (show Kept w wa by rw [hwa]; exact Kept.alloc (Kept.refl w) _)
    have HBa := Lib.hid (show Blk wa w.heap.size 29 #[.int .u64 (hi x.x), .int .u64 (lo x.x), .int .u64 (hi x.m), .int .u64 (lo x.m), .int .i64 x.len, .int .i64 x.act] by rw [hwa]; exact Blk.new' w _ _ rfl)
    rw [← hwa]
    clear hwa
    have x0 := fun j => (HBa.out).cell j
    have xl := (HBa.out).lt
    refine (hri.out _).mono ?_
    rintro e w1 ⟨rfl, q1, rfl⟩
    obtain ⟨w1, hw1⟩ : ∃ w1, w1 = ext wa q1 := ⟨_, rfl⟩
    have HS1 := Lib.hid (show Kept wa w1 by rw [hw1]; exact kept_extP _ _)
    have HK1 := Lib.hid (HKa.out.trans HS1.out)
    have HB1 := Lib.hid (HBa.out.kept HS1.out)
    rw [← hw1]
    clear hw1 x0 xl
    have x0 := fun j => (HB1.out).cell j
    have xl := (HB1.out).lt
    go_wp2_with fail
    refine (hkp.out _ (HE.out.kept HK1.out)).mono ?_
    rintro e w1 ⟨rfl, q2, rfl⟩
    obtain ⟨w2, hw2⟩ : ∃ w2, w2 = ext w1 q2 := ⟨_, rfl⟩
    have HS2 := Lib.hid (show Kept w1 w2 by rw [hw2]; exact kept_extP _ _)
    have HK2 := Lib.hid (HK1.out.trans HS2.out)
    have HB2 := Lib.hid (HB1.out.kept HS2.out)
    rw [← hw2]
    clear hw2 x0 xl
    have x0 := fun j => (HB2.out).cell j
    have xl := (HB2.out).lt
    go_wp2_with fail
    refine (hfr.out _ (HE.out.kept HK2.out)).mono ?_
    rintro e w1 ⟨rfl, q3, rfl⟩
    obtain ⟨w3, hw3⟩ : ∃ w3, w3 = ext w2 q3 := ⟨_, rfl⟩
    have HS3 := Lib.hid (show Kept w2 w3 by rw [hw3]; exact kept_extP _ _)
    have HK3 := Lib.hid (HK2.out.trans HS3.out)
    have HB3 := Lib.hid (HB2.out.kept HS3.out)
    rw [← hw3]
    clear hw3 x0 xl
    have x0 := fun j => (HB3.out).cell j
    have xl := (HB3.out).lt
    go_wp2_with fail
    refine (hga.out _ (HE.out.kept HK3.out)).mono ?_
    rintro e w1 ⟨rfl, q4, rfl⟩
    obtain ⟨w4, hw4⟩ : ∃ w4, w4 = ext w3 q4 := ⟨_, rfl⟩
    have HS4 := Lib.hid (show Kept w3 w4 by rw [hw4]; exact kept_extP _ _)
    have HK4 := Lib.hid (HK3.out.trans HS4.out)
    have HB4 := Lib.hid (HB3.out.kept HS4.out)
    rw [← hw4]
    clear hw4 x0 xl
    have x0 := fun j => (HB4.out).cell j
    have xl := (HB4.out).lt
    go_wp2_with fail
    refine (hix.out _ _ (HM1.out _ (HE.out.kept HK4.out))).mono ?_
    rintro e w1 ⟨rfl, q5, rfl⟩
    obtain ⟨w5, hw5⟩ : ∃ w5, w5 = ext w4 q5 := ⟨_, rfl⟩
    have HS5 := Lib.hid (show Kept w4 w5 by rw [hw5]; exact kept_extP _ _)
    have HK5 := Lib.hid (HK4.out.trans HS5.out)
    have HB5 := Lib.hid (HB4.out.kept HS5.out)
    rw [← hw5]
    clear hw5 x0 xl
    have x0 := fun j => (HB5.out).cell j
    have xl := (HB5.out).lt
    go_wp2_with fail
    exact bodyPost_ret (v := .tuple #[.slice (some ⟨w5.heap.size, 0, none⟩) 1 1, .int .i64 0]) (by simp [results, Try.results10, go_sem]) rfl (RetWE.mk HK5.out (own_one _ _ ⟨g, ⟨true, x⟩⟩ (Kept.alloc (Kept.refl _) _) (Nat.le_refl _) (Blk.new' _ _ _ rfl)))
  | none =>
    rw [hg] at hi1
    simp only at hi1
    cases hd : firstE l (l.length - T) T with
    | some d =>
      obtain ⟨g1, g2, _, g4⟩ := firstE_some l _ _ d hd
      rw [hd] at hi2
      obtain ⟨K, hK⟩ : ∃ K : Nat, d = T + K := ⟨d - T, by omega⟩
      have hKi : (d : Int) - (T : Int) = (K : Int) := by omega
      simp only at hi2
      rw [hKi] at hi2
      have hix := Lib.hid (fun W (u : Value) (h : Els W u 7 Slot.cells ((l.drop F).take (T - F))) => idx_as hi1 W h hl1)
      have hiy := Lib.hid (fun W (u : Value) (h : Els W u 7 Slot.cells ((l.drop T).take (l.length - T))) => idx_as hi2 W h hl2)
      have hTK : (T : Int) + (K : Int) = (d : Int) := by omega
      have K0 : (0 : Int) ≤ K := by omega
      have K0d : decide ((0 : Int) ≤ (K : Int)) = true := by simp
      have hcF : ¬ c = F := by omega
      have hcT : ¬ c = T := by omega
      have hdl : d < l.length := by omega
      have hsd := Lib.hid (fun W (h : Els W (.slice (some ⟨b, o, none⟩) l.length c) 7 Slot.cells l) => ploshiftD_any d T x W h hdl (by omega) (by omega))
      have hsD := shiftD_ne l T x d d
      have hsDl := shiftD_len l T x d d
      obtain ⟨D, hD⟩ : ∃ D, shiftD l T x d d = D := ⟨_, rfl⟩
      rw [hD] at hsd hsD hsDl
      cases hu : lastE l F with
      | none =>
        have hv : insW l x = (D, 0) := by rw [hv0]; unfold insR2; rw [hg, hd, hu]; show (shiftD l T x d d, (0 : Int)) = _; rw [hD]
        rw [hv]
        rw [hu] at hla
        have hDb : ((D.length : Int) == 0) = false := by rw [beq_eq_false_iff_ne]; omega
        clear hl he hr hv0 hk hv hF hT hfu hR hle hnf hg hi1 hi2 hK hKi hd hu hD
        go_enter Try.func10, Try.ntmps10
        go_wp2_with fail
        obtain ⟨wa, hwa⟩ : ∃ wa, wa = w.alloc (.cells #[.int .u64 (hi x.x), .int .u64 (lo x.x), .int .u64 (hi x.m), .int .u64 (lo x.m), .int .i64 x.len, .int .i64 x.act] 29) := ⟨_, rfl⟩
        have HKa := Lib.hid (show Kept w wa by rw [hwa]; exact Kept.alloc (Kept.refl w) _)
        have HBa := Lib.hid (show Blk wa w.heap.size 29 #[.int .u64 (hi x.x), .int .u64 (lo x.x), .int .u64 (hi x.m), .int .u64 (lo x.m), .int .i64 x.len, .int .i64 x.act] by rw [hwa]; exact Blk.new' w _ _ rfl)
        rw [← hwa]
        clear hwa
        have x0 := fun j => (HBa.out).cell j
        have xl := (HBa.out).lt
        refine (hri.out _).mono ?_
        rintro e w1 ⟨rfl, q1, rfl⟩
        obtain ⟨w1, hw1⟩ : ∃ w1, w1 = ext wa q1 := ⟨_, rfl⟩
        have HS1 := Lib.hid (show Kept wa w1 by rw [hw1]; exact kept_extP _ _)
        have HK1 := Lib.hid (HKa.out.trans HS1.out)
        have HB1 := Lib.hid (HBa.out.kept HS1.out)
        rw [← hw1]
        clear hw1 x0 xl
        have x0 := fun j => (HB1.out).cell j
        have xl := (HB1.out).lt
        go_wp2_with fail
        refine (hkp.out _ (HE.out.kept HK1.out)).mono ?_
        rintro e w1 ⟨rfl, q2, rfl⟩
        obtain ⟨w2, hw2⟩ : ∃ w2, w2 = ext w1 q2 := ⟨_, rfl⟩
        have HS2 := Lib.hid (show Kept w1 w2 by rw [hw2]; exact kept_extP _ _)
        have HK2 := Lib.hid (HK1.out.trans HS2.out)
        have HB2 := Lib.hid (HB1.out.kept HS2.out)
        rw [← hw2]
        clear hw2 x0 xl
        have x0 := fun j => (HB2.out).cell j
        have xl := (HB2.out).lt
        go_wp2_with fail
        refine (hfr.out _ (HE.out.kept HK2.out)).mono ?_
        rintro e w1 ⟨rfl, q3, rfl⟩
        obtain ⟨w3, hw3⟩ : ∃ w3, w3 = ext w2 q3 := ⟨_, rfl⟩
        have HS3 := Lib.hid (show Kept w2 w3 by rw [hw3]; exact kept_extP _ _)
        have HK3 := Lib.hid (HK2.out.trans HS3.out)
        have HB3 := Lib.hid (HB2.out.kept HS3.out)
        rw [← hw3]
        clear hw3 x0 xl
        have x0 := fun j => (HB3.out).cell j
        have xl := (HB3.out).lt
        go_wp2_with fail
        refine (hga.out _ (HE.out.kept HK3.out)).mono ?_
        rintro e w1 ⟨rfl, q4, rfl⟩
        obtain ⟨w4, hw4⟩ : ∃ w4, w4 = ext w3 q4 := ⟨_, rfl⟩
        have HS4 := Lib.hid (show Kept w3 w4 by rw [hw4]; exact kept_extP _ _)
        have HK4 := Lib.hid (HK3.out.trans HS4.out)
        have HB4 := Lib.hid (HB3.out.kept HS4.out)
        rw [← hw4]
        clear hw4 x0 xl
        have x0 := fun j => (HB4.out).cell j
        have xl := (HB4.out).lt
        go_wp2_with fail
        refine (hix.out _ _ (HM1.out _ (HE.out.kept HK4.out))).mono ?_
        rintro e w1 ⟨rfl, q5, rfl⟩
        obtain ⟨w5, hw5⟩ : ∃ w5, w5 = ext w4 q5 := ⟨_, rfl⟩
        have HS5 := Lib.hid (show Kept w4 w5 by rw [hw5]; exact kept_extP _ _)
        have HK5 := Lib.hid (HK4.out.trans HS5.out)
        have HB5 := Lib.hid (HB4.out.kept HS5.out)
        rw [← hw5]
        clear hw5 x0 xl
        have x0 := fun j => (HB5.out).cell j
        have xl := (HB5.out).lt
        go_wp2_with fail
        refine (hiy.out _ _ (HM2.out _ (HE.out.kept HK5.out))).mono ?_
        rintro e w1 ⟨rfl, q6, rfl⟩
        obtain ⟨w6, hw6⟩ : ∃ w6, w6 = ext w5 q6 := ⟨_, rfl⟩
        have HS6 := Lib.hid (show Kept w5 w6 by rw [hw6]; exact kept_extP _ _)
        have HK6 := Lib.hid (HK5.out.trans HS6.out)
        have HB6 := Lib.hid (HB5.out.kept HS6.out)
        rw [← hw6]
        clear hw6 x0 xl
        have x0 := fun j => (HB6.out).cell j
        have xl := (HB6.out).lt
        go_wp2_with fail
        refine (hsd.out _ (HE.out.kept HK6.out)).mono ?_
        rintro e w7 hR
        obtain ⟨a7, c7, rfl, hlc7, hown7, hels7⟩ := RetEls.out2 Wr.cells_len hR
        have HO7 := Lib.hid hown7
        have HS7 := Lib.hid hown7.1
        have HK7 := Lib.hid (HK6.out.trans HS7.out)
        have HB7 := Lib.hid (HB6.out.kept HS7.out)
        clear hown7 hels7 hR x0 xl
        have x0 := fun j => (HB7.out).cell j
        have xl := (HB7.out).lt
        go_wp2_with fail
        refine (show Calls Try.prog 31 #[.slice (some ⟨b, o, none⟩) l.length c, .int .i64 (F : Int)] w7 (Ret (.int .i64 (-1)) w7) from hla.out _ (HE.out.kept HK7.out)).mono ?_
        rintro e w1 ⟨rfl, q8, rfl⟩
        obtain ⟨w8, hw8⟩ : ∃ w8, w8 = ext w7 q8 := ⟨_, rfl⟩
        have HS8 := Lib.hid (show Kept w7 w8 by rw [hw8]; exact kept_extP _ _)
        have HK8 := Lib.hid (HK7.out.trans HS8.out)
        have HB8 := Lib.hid (HB7.out.kept HS8.out)
        rw [← hw8]
        clear hw8 x0 xl
        have x0 := fun j => (HB8.out).cell j
        have xl := (HB8.out).lt
        go_wp2_with fail
        exact bodyPost_ret (v := .tuple #[.slice a7 D.length c7, .int .i64 0]) (by simp [results, Try.results10, go_sem]) rfl (RetWE.mk HK6.out (HO7.out.step HS8.out))
      | some u =>
        obtain ⟨u1, u2, _⟩ := lastE_some l F u hu
        have hsu := Lib.hid (fun W (h : Els W (.slice (some ⟨b, o, none⟩) l.length c) 7 Slot.cells l) => ploshiftU_any F u (F - 1) x W h (by omega) (by omega) (by omega) (by omega) (by omega))
        have hsU := shiftU_ne l (F - 1) x F u
        have hsUl := shiftU_len l (F - 1) x F u
        obtain ⟨U, hU⟩ : ∃ U, shiftU l (F - 1) x F u = U := ⟨_, rfl⟩
        rw [hU] at hsu hsU hsUl
        rw [hu] at hla
        obtain ⟨P, hP⟩ : ∃ P : Nat, P = F - 1 := ⟨_, rfl⟩
        have hPi : (F : Int) - 1 = (P : Int) := by omega
        rw [← hP] at hsu
        have u0 : (0 : Int) ≤ u := by omega
        have u0d : decide ((0 : Int) ≤ (u : Int)) = true := by simp
        have hDb : ((D.length : Int) == 0) = false := by rw [beq_eq_false_iff_ne]; omega
        have hUp : decide ((0 : Int) < (U.length : Int)) = true := by simp; omega
        have hUp2 : (0 : Int) < (U.length : Int) := by omega
        by_cases hlt : U.length < D.length
        · have hv : insW l x = (U, 0) := by rw [hv0]; unfold insR2; rw [hg, hd, hu]; show (if (shiftU l (F - 1) x F u).length < (shiftD l T x d d).length then (shiftU l (F - 1) x F u, (0 : Int)) else (shiftD l T x d d, 0)) = _; rw [hU, hD, if_pos hlt]
          rw [hv]
          have hltd : decide ((U.length : Int) < (D.length : Int)) = true := by simp; omega
          have hlti : (U.length : Int) < (D.length : Int) := by omega
          clear hl he hr hv0 hk hv hF hT hfu hR hle hnf hg hi1 hi2 hK hKi hd hu hD hU hP
          go_enter Try.func10, Try.ntmps10
          go_wp2_with fail
          obtain ⟨wa, hwa⟩ : ∃ wa, wa = w.alloc (.cells #[.int .u64 (hi x.x), .int .u64 (lo x.x), .int .u64 (hi x.m), .int .u64 (lo x.m), .int .i64 x.len, .int .i64 x.act] 29) := ⟨_, rfl⟩
          have HKa := Lib.hid (show Kept w wa by rw [hwa]; exact Kept.alloc (Kept.refl w) _)
          have HBa := Lib.hid (show Blk wa w.heap.size 29 #[.int .u64 (hi x.x), .int .u64 (lo x.x), .int .u64 (hi x.m), .int .u64 (lo x.m), .int .i64 x.len, .int .i64 x.act] by rw [hwa]; exact Blk.new' w _ _ rfl)
          rw [← hwa]
          clear hwa
          have x0 := fun j => (HBa.out).cell j
          have xl := (HBa.out).lt
          refine (hri.out _).mono ?_
          rintro e w1 ⟨rfl, q1, rfl⟩
          obtain ⟨w1, hw1⟩ : ∃ w1, w1 = ext wa q1 := ⟨_, rfl⟩
          have HS1 := Lib.hid (show Kept wa w1 by rw [hw1]; exact kept_extP _ _)
          have HK1 := Lib.hid (HKa.out.trans HS1.out)
          have HB1 := Lib.hid (HBa.out.kept HS1.out)
          rw [← hw1]
          clear hw1 x0 xl
          have x0 := fun j => (HB1.out).cell j
          have xl := (HB1.out).lt
          go_wp2_with fail
          refine (hkp.out _ (HE.out.kept HK1.out)).mono ?_
          rintro e w1 ⟨rfl, q2, rfl⟩
          obtain ⟨w2, hw2⟩ : ∃ w2, w2 = ext w1 q2 := ⟨_, rfl⟩
          have HS2 := Lib.hid (show Kept w1 w2 by rw [hw2]; exact kept_extP _ _)
          have HK2 := Lib.hid (HK1.out.trans HS2.out)
          have HB2 := Lib.hid (HB1.out.kept HS2.out)
          rw [← hw2]
          clear hw2 x0 xl
          have x0 := fun j => (HB2.out).cell j
          have xl := (HB2.out).lt
          go_wp2_with fail
          refine (hfr.out _ (HE.out.kept HK2.out)).mono ?_
          rintro e w1 ⟨rfl, q3, rfl⟩
          obtain ⟨w3, hw3⟩ : ∃ w3, w3 = ext w2 q3 := ⟨_, rfl⟩
          have HS3 := Lib.hid (show Kept w2 w3 by rw [hw3]; exact kept_extP _ _)
          have HK3 := Lib.hid (HK2.out.trans HS3.out)
          have HB3 := Lib.hid (HB2.out.kept HS3.out)
          rw [← hw3]
          clear hw3 x0 xl
          have x0 := fun j => (HB3.out).cell j
          have xl := (HB3.out).lt
          go_wp2_with fail
          refine (hga.out _ (HE.out.kept HK3.out)).mono ?_
          rintro e w1 ⟨rfl, q4, rfl⟩
          obtain ⟨w4, hw4⟩ : ∃ w4, w4 = ext w3 q4 := ⟨_, rfl⟩
          have HS4 := Lib.hid (show Kept w3 w4 by rw [hw4]; exact kept_extP _ _)
          have HK4 := Lib.hid (HK3.out.trans HS4.out)
          have HB4 := Lib.hid (HB3.out.kept HS4.out)
          rw [← hw4]
          clear hw4 x0 xl
          have x0 := fun j => (HB4.out).cell j
          have xl := (HB4.out).lt
          go_wp2_with fail
          refine (hix.out _ _ (HM1.out _ (HE.out.kept HK4.out))).mono ?_
          rintro e w1 ⟨rfl, q5, rfl⟩
          obtain ⟨w5, hw5⟩ : ∃ w5, w5 = ext w4 q5 := ⟨_, rfl⟩
          have HS5 := Lib.hid (show Kept w4 w5 by rw [hw5]; exact kept_extP _ _)
          have HK5 := Lib.hid (HK4.out.trans HS5.out)
          have HB5 := Lib.hid (HB4.out.kept HS5.out)
          rw [← hw5]
          clear hw5 x0 xl
          have x0 := fun j => (HB5.out).cell j
          have xl := (HB5.out).lt
          go_wp2_with fail
          refine (hiy.out _ _ (HM2.out _ (HE.out.kept HK5.out))).mono ?_
          rintro e w1 ⟨rfl, q6, rfl⟩
          obtain ⟨w6, hw6⟩ : ∃ w6, w6 = ext w5 q6 := ⟨_, rfl⟩
          have HS6 := Lib.hid (show Kept w5 w6 by rw [hw6]; exact kept_extP _ _)
          have HK6 := Lib.hid (HK5.out.trans HS6.out)
          have HB6 := Lib.hid (HB5.out.kept HS6.out)
          rw [← hw6]
          clear hw6 x0 xl
          have x0 := fun j => (HB6.out).cell j
          have xl := (HB6.out).lt
          go_wp2_with fail
          refine (hsd.out _ (HE.out.kept HK6.out)).mono ?_
          rintro e w7 hR
          obtain ⟨a7, c7, rfl, hlc7, hown7, hels7⟩ := RetEls.out2 Wr.cells_len hR
          have HO7 := Lib.hid hown7
          have HS7 := Lib.hid hown7.1
          have HK7 := Lib.hid (HK6.out.trans HS7.out)
          have HB7 := Lib.hid (HB6.out.kept HS7.out)
          clear hown7 hels7 hR x0 xl
          have x0 := fun j => (HB7.out).cell j
          have xl := (HB7.out).lt
          go_wp2_with fail
          refine (show Calls Try.prog 31 #[.slice (some ⟨b, o, none⟩) l.length c, .int .i64 (F : Int)] w7 (Ret (.int .i64 (u : Int)) w7) from hla.out _ (HE.out.kept HK7.out)).mono ?_
          rintro e w1 ⟨rfl, q8, rfl⟩
          obtain ⟨w8, hw8⟩ : ∃ w8, w8 = ext w7 q8 := ⟨_, rfl⟩
          have HS8 := Lib.hid (show Kept w7 w8 by rw [hw8]; exact kept_extP _ _)
          have HK8 := Lib.hid (HK7.out.trans HS8.out)
          have HB8 := Lib.hid (HB7.out.kept HS8.out)
          rw [← hw8]
          clear hw8 x0 xl
          have x0 := fun j => (HB8.out).cell j
          have xl := (HB8.out).lt
          go_wp2_with fail
          refine (hsu.out _ (HE.out.kept HK8.out)).mono ?_
          rintro e w9 hR
          obtain ⟨a9, c9, rfl, hlc9, hown9, hels9⟩ := RetEls.out2 Wr.cells_len hR
          have HO9 := Lib.hid hown9
          have HS9 := Lib.hid hown9.1
          have HK9 := Lib.hid (HK8.out.trans HS9.out)
          have HB9 := Lib.hid (HB8.out.kept HS9.out)
          clear hown9 hels9 hR x0 xl
          have x0 := fun j => (HB9.out).cell j
          have xl := (HB9.out).lt
          go_wp2_with fail
          exact bodyPost_ret (v := .tuple #[.slice a9 U.length c9, .int .i64 0]) (by simp [results, Try.results10, go_sem]) rfl (RetWE.mk HK8.out HO9.out)
        · have hv : insW l x = (D, 0) := by rw [hv0]; unfold insR2; rw [hg, hd, hu]; show (if (shiftU l (F - 1) x F u).length < (shiftD l T x d d).length then (shiftU l (F - 1) x F u, (0 : Int)) else (shiftD l T x d d, 0)) = _; rw [hU, hD, if_neg hlt]
          rw [hv]
          have hltd : decide ((U.length : Int) < (D.length : Int)) = false := by simp; omega
          have hlti : ¬ (U.length : Int) < (D.length : Int) := by omega
          clear hl he hr hv0 hk hv hF hT hfu hR hle hnf hg hi1 hi2 hK hKi hd hu hD hU hP
          go_enter Try.func10, Try.ntmps10
          go_wp2_with fail
          obtain ⟨wa, hwa⟩ : ∃ wa, wa = w.alloc (.cells #[.int .u64 (hi x.x), .int .u64 (lo x.x), .int .u64 (hi x.m), .int .u64 (lo x.m), .int .i64 x.len, .int .i64 x.act] 29) := ⟨_, rfl⟩
          have HKa := Lib.hid (show Kept w wa by rw [hwa]; exact Kept.alloc (Kept.refl w) _)
          have HBa := Lib.hid (show Blk wa w.heap.size 29 #[.int .u64 (hi x.x), .int .u64 (lo x.x), .int .u64 (hi x.m), .int .u64 (lo x.m), .int .i64 x.len, .int .i64 x.act] by rw [hwa]; exact Blk.new' w _ _ rfl)
          rw [← hwa]
          clear hwa
          have x0 := fun j => (HBa.out).cell j
          have xl := (HBa.out).lt
          refine (hri.out _).mono ?_
          rintro e w1 ⟨rfl, q1, rfl⟩
          obtain ⟨w1, hw1⟩ : ∃ w1, w1 = ext wa q1 := ⟨_, rfl⟩
          have HS1 := Lib.hid (show Kept wa w1 by rw [hw1]; exact kept_extP _ _)
          have HK1 := Lib.hid (HKa.out.trans HS1.out)
          have HB1 := Lib.hid (HBa.out.kept HS1.out)
          rw [← hw1]
          clear hw1 x0 xl
          have x0 := fun j => (HB1.out).cell j
          have xl := (HB1.out).lt
          go_wp2_with fail
          refine (hkp.out _ (HE.out.kept HK1.out)).mono ?_
          rintro e w1 ⟨rfl, q2, rfl⟩
          obtain ⟨w2, hw2⟩ : ∃ w2, w2 = ext w1 q2 := ⟨_, rfl⟩
          have HS2 := Lib.hid (show Kept w1 w2 by rw [hw2]; exact kept_extP _ _)
          have HK2 := Lib.hid (HK1.out.trans HS2.out)
          have HB2 := Lib.hid (HB1.out.kept HS2.out)
          rw [← hw2]
          clear hw2 x0 xl
          have x0 := fun j => (HB2.out).cell j
          have xl := (HB2.out).lt
          go_wp2_with fail
          refine (hfr.out _ (HE.out.kept HK2.out)).mono ?_
          rintro e w1 ⟨rfl, q3, rfl⟩
          obtain ⟨w3, hw3⟩ : ∃ w3, w3 = ext w2 q3 := ⟨_, rfl⟩
          have HS3 := Lib.hid (show Kept w2 w3 by rw [hw3]; exact kept_extP _ _)
          have HK3 := Lib.hid (HK2.out.trans HS3.out)
          have HB3 := Lib.hid (HB2.out.kept HS3.out)
          rw [← hw3]
          clear hw3 x0 xl
          have x0 := fun j => (HB3.out).cell j
          have xl := (HB3.out).lt
          go_wp2_with fail
          refine (hga.out _ (HE.out.kept HK3.out)).mono ?_
          rintro e w1 ⟨rfl, q4, rfl⟩
          obtain ⟨w4, hw4⟩ : ∃ w4, w4 = ext w3 q4 := ⟨_, rfl⟩
          have HS4 := Lib.hid (show Kept w3 w4 by rw [hw4]; exact kept_extP _ _)
          have HK4 := Lib.hid (HK3.out.trans HS4.out)
          have HB4 := Lib.hid (HB3.out.kept HS4.out)
          rw [← hw4]
          clear hw4 x0 xl
          have x0 := fun j => (HB4.out).cell j
          have xl := (HB4.out).lt
          go_wp2_with fail
          refine (hix.out _ _ (HM1.out _ (HE.out.kept HK4.out))).mono ?_
          rintro e w1 ⟨rfl, q5, rfl⟩
          obtain ⟨w5, hw5⟩ : ∃ w5, w5 = ext w4 q5 := ⟨_, rfl⟩
          have HS5 := Lib.hid (show Kept w4 w5 by rw [hw5]; exact kept_extP _ _)
          have HK5 := Lib.hid (HK4.out.trans HS5.out)
          have HB5 := Lib.hid (HB4.out.kept HS5.out)
          rw [← hw5]
          clear hw5 x0 xl
          have x0 := fun j => (HB5.out).cell j
          have xl := (HB5.out).lt
          go_wp2_with fail
          refine (hiy.out _ _ (HM2.out _ (HE.out.kept HK5.out))).mono ?_
          rintro e w1 ⟨rfl, q6, rfl⟩
          obtain ⟨w6, hw6⟩ : ∃ w6, w6 = ext w5 q6 := ⟨_, rfl⟩
          have HS6 := Lib.hid (show Kept w5 w6 by rw [hw6]; exact kept_extP _ _)
          have HK6 := Lib.hid (HK5.out.trans HS6.out)
          have HB6 := Lib.hid (HB5.out.kept HS6.out)
          rw [← hw6]
          clear hw6 x0 xl
          have x0 := fun j => (HB6.out).cell j
          have xl := (HB6.out).lt
          go_wp2_with fail
          refine (hsd.out _ (HE.out.kept HK6.out)).mono ?_
          rintro e w7 hR
          obtain ⟨a7, c7, rfl, hlc7, hown7, hels7⟩ := RetEls.out2 Wr.cells_len hR
          have HO7 := Lib.hid hown7
          have HS7 := Lib.hid hown7.1
          have HK7 := Lib.hid (HK6.out.trans HS7.out)
          have HB7 := Lib.hid (HB6.out.kept HS7.out)
          clear hown7 hels7 hR x0 xl
          have x0 := fun j => (HB7.out).cell j
          have xl := (HB7.out).lt
          go_wp2_with fail
          refine (show Calls Try.prog 31 #[.slice (some ⟨b, o, none⟩) l.length c, .int .i64 (F : Int)] w7 (Ret (.int .i64 (u : Int)) w7) from hla.out _ (HE.out.kept HK7.out)).mono ?_
          rintro e w1 ⟨rfl, q8, rfl⟩
          obtain ⟨w8, hw8⟩ : ∃ w8, w8 = ext w7 q8 := ⟨_, rfl⟩
          have HS8 := Lib.hid (show Kept w7 w8 by rw [hw8]; exact kept_extP _ _)
          have HK8 := Lib.hid (HK7.out.trans HS8.out)
          have HB8 := Lib.hid (HB7.out.kept HS8.out)
          rw [← hw8]
          clear hw8 x0 xl
          have x0 := fun j => (HB8.out).cell j
          have xl := (HB8.out).lt
          go_wp2_with fail
          refine (hsu.out _ (HE.out.kept HK8.out)).mono ?_
          rintro e w9 hR
          obtain ⟨a9, c9, rfl, hlc9, hown9, hels9⟩ := RetEls.out2 Wr.cells_len hR
          have HO9 := Lib.hid hown9
          have HS9 := Lib.hid hown9.1
          have HK9 := Lib.hid (HK8.out.trans HS9.out)
          have HB9 := Lib.hid (HB8.out.kept HS9.out)
          clear hown9 hels9 hR x0 xl
          have x0 := fun j => (HB9.out).cell j
          have xl := (HB9.out).lt
          go_wp2_with fail
          exact bodyPost_ret (v := .tuple #[.slice a7 D.length c7, .int .i64 0]) (by simp [results, Try.results10, go_sem]) rfl (RetWE.mk HK6.out (HO7.out.step (HS8.out.trans HS9.out)))
    | none =>
      rw [hd] at hi2
      simp only at hi2
      have hix := Lib.hid (fun W (u : Value) (h : Els W u 7 Slot.cells ((l.drop F).take (T - F))) => idx_as hi1 W h hl1)
      have hiy := Lib.hid (fun W (u : Value) (h : Els W u 7 Slot.cells ((l.drop T).take (l.length - T))) => idx_as hi2 W h hl2)
      cases hu : lastE l F with
      | none => exact absurd ⟨hg, hd, hu⟩ hnf
      | some u =>
        obtain ⟨u1, u2, _⟩ := lastE_some l F u hu
        have hsu := Lib.hid (fun W (h : Els W (.slice (some ⟨b, o, none⟩) l.length c) 7 Slot.cells l) => ploshiftU_any F u (F - 1) x W h (by omega) (by omega) (by omega) (by omega) (by omega))
        have hsU := shiftU_ne l (F - 1) x F u
        have hsUl := shiftU_len l (F - 1) x F u
        obtain ⟨U, hU⟩ : ∃ U, shiftU l (F - 1) x F u = U := ⟨_, rfl⟩
        rw [hU] at hsu hsU hsUl
        rw [hu] at hla
        obtain ⟨P, hP⟩ : ∃ P : Nat, P = F - 1 := ⟨_, rfl⟩
        have hPi : (F : Int) - 1 = (P : Int) := by omega
        rw [← hP] at hsu
        have u0 : (0 : Int) ≤ u := by omega
        have u0d : decide ((0 : Int) ≤ (u : Int)) = true := by simp
        have hv : insW l x = (U, 0) := by rw [hv0]; unfold insR2; rw [hg, hd, hu]; show (shiftU l (F - 1) x F u, (0 : Int)) = _; rw [hU]
        rw [hv]
        by_cases hcF : c = F
        · have e1 : T = F := by omega
          have e2 : l.length = F := by omega
          have z1 : (l.drop F).take (T - F) = [] := by rw [e1, Nat.sub_self]; rfl
          have z2 : (l.drop T).take (l.length - T) = [] := by rw [e1, e2, Nat.sub_self]; rfl
          rw [z1] at hix
          rw [z2] at hiy
          have HZ1 := Lib.hid (fun (W : World) (p : Option Addr) => show Els W (.slice p 0 0) 7 Slot.cells [] from els_none _ _ _ _ _)
          have HZ2 := Lib.hid (fun (W : World) (p : Option Addr) => show Els W (.slice p (l.length - T) 0) 7 Slot.cells [] by rw [e1, e2, Nat.sub_self]; exact els_none _ _ _ _ _)
          clear hl he hr hv0 hk hv hF hT hfu hR hle hnf hg hi1 hi2 hd hu hU hP z1 z2 e2
          subst e1
          subst hcF
          go_enter Try.func10, Try.ntmps10
          go_wp2_with fail
          obtain ⟨wa, hwa⟩ : ∃ wa, wa = w.alloc (.cells #[.int .u64 (hi x.x), .int .u64 (lo x.x), .int .u64 (hi x.m), .int .u64 (lo x.m), .int .i64 x.len, .int .i64 x.act] 29) := ⟨_, rfl⟩
          have HKa := Lib.hid (show Kept w wa by rw [hwa]; exact Kept.alloc (Kept.refl w) _)
          have HBa := Lib.hid (show Blk wa w.heap.size 29 #[.int .u64 (hi x.x), .int .u64 (lo x.x), .int .u64 (hi x.m), .int .u64 (lo x.m), .int .i64 x.len, .int .i64 x.act] by rw [hwa]; exact Blk.new' w _ _ rfl)
          rw [← hwa]
          clear hwa
          have x0 := fun j => (HBa.out).cell j
          have xl := (HBa.out).lt
          refine (hri.out _).mono ?_
          rintro e w1 ⟨rfl, q1, rfl⟩
          obtain ⟨w1, hw1⟩ : ∃ w1, w1 = ext wa q1 := ⟨_, rfl⟩
          have HS1 := Lib.hid (show Kept wa w1 by rw [hw1]; exact kept_extP _ _)
          have HK1 := Lib.hid (HKa.out.trans HS1.out)
          have HB1 := Lib.hid (HBa.out.kept HS1.out)
          rw [← hw1]
          clear hw1 x0 xl
          have x0 := fun j => (HB1.out).cell j
          have xl := (HB1.out).lt
          go_wp2_with fail
          refine (hkp.out _ (HE.out.kept HK1.out)).mono ?_
          rintro e w1 ⟨rfl, q2, rfl⟩
          obtain ⟨w2, hw2⟩ : ∃ w2, w2 = ext w1 q2 := ⟨_, rfl⟩
          have HS2 := Lib.hid (show Kept w1 w2 by rw [hw2]; exact kept_extP _ _)
          have HK2 := Lib.hid (HK1.out.trans HS2.out)
          have HB2 := Lib.hid (HB1.out.kept HS2.out)
          rw [← hw2]
          clear hw2 x0 xl
          have x0 := fun j => (HB2.out).cell j
          have xl := (HB2.out).lt
          go_wp2_with fail
          refine (hfr.out _ (HE.out.kept HK2.out)).mono ?_
          rintro e w1 ⟨rfl, q3, rfl⟩
          obtain ⟨w3, hw3⟩ : ∃ w3, w3 = ext w2 q3 := ⟨_, rfl⟩
          have HS3 := Lib.hid (show Kept w2 w3 by rw [hw3]; exact kept_extP _ _)
          have HK3 := Lib.hid (HK2.out.trans HS3.out)
          have HB3 := Lib.hid (HB2.out.kept HS3.out)
          rw [← hw3]
          clear hw3 x0 xl
          have x0 := fun j => (HB3.out).cell j
          have xl := (HB3.out).lt
          go_wp2_with fail
          refine (hga.out _ (HE.out.kept HK3.out)).mono ?_
          rintro e w1 ⟨rfl, q4, rfl⟩
          obtain ⟨w4, hw4⟩ : ∃ w4, w4 = ext w3 q4 := ⟨_, rfl⟩
          have HS4 := Lib.hid (show Kept w3 w4 by rw [hw4]; exact kept_extP _ _)
          have HK4 := Lib.hid (HK3.out.trans HS4.out)
          have HB4 := Lib.hid (HB3.out.kept HS4.out)
          rw [← hw4]
          clear hw4 x0 xl
          have x0 := fun j => (HB4.out).cell j
          have xl := (HB4.out).lt
          go_wp2_with fail
          refine (hix.out _ _ (HZ1.out _ _)).mono ?_
          rintro e w1 ⟨rfl, q5, rfl⟩
          obtain ⟨w5, hw5⟩ : ∃ w5, w5 = ext w4 q5 := ⟨_, rfl⟩
          have HS5 := Lib.hid (show Kept w4 w5 by rw [hw5]; exact kept_extP _ _)
          have HK5 := Lib.hid (HK4.out.trans HS5.out)
          have HB5 := Lib.hid (HB4.out.kept HS5.out)
          rw [← hw5]
          clear hw5 x0 xl
          have x0 := fun j => (HB5.out).cell j
          have xl := (HB5.out).lt
          go_wp2_with fail
          refine (hiy.out _ _ (HZ1.out _ _)).mono ?_
          rintro e w1 ⟨rfl, q6, rfl⟩
          obtain ⟨w6, hw6⟩ : ∃ w6, w6 = ext w5 q6 := ⟨_, rfl⟩
          have HS6 := Lib.hid (show Kept w5 w6 by rw [hw6]; exact kept_extP _ _)
          have HK6 := Lib.hid (HK5.out.trans HS6.out)
          have HB6 := Lib.hid (HB5.out.kept HS6.out)
          rw [← hw6]
          clear hw6 x0 xl
          have x0 := fun j => (HB6.out).cell j
          have xl := (HB6.out).lt
          go_wp2_with fail
          refine (show Calls Try.prog 31 #[.slice (some ⟨b, o, none⟩) l.length c, .int .i64 (c : Int)] w6 (Ret (.int .i64 (u : Int)) w6) from hla.out _ (HE.out.kept HK6.out)).mono ?_
          rintro e w1 ⟨rfl, q7, rfl⟩
          obtain ⟨w7, hw7⟩ : ∃ w7, w7 = ext w6 q7 := ⟨_, rfl⟩
          have HS7 := Lib.hid (show Kept w6 w7 by rw [hw7]; exact kept_extP _ _)
          have HK7 := Lib.hid (HK6.out.trans HS7.out)
          have HB7 := Lib.hid (HB6.out.kept HS7.out)
          rw [← hw7]
          clear hw7 x0 xl
          have x0 := fun j => (HB7.out).cell j
          have xl := (HB7.out).lt
          go_wp2_with fail
          refine (hsu.out _ (HE.out.kept HK7.out)).mono ?_
          rintro e w8 hR
          obtain ⟨a8, c8, rfl, hlc8, hown8, hels8⟩ := RetEls.out2 Wr.cells_len hR
          have HO8 := Lib.hid hown8
          have HS8 := Lib.hid hown8.1
          have HK8 := Lib.hid (HK7.out.trans HS8.out)
          have HB8 := Lib.hid (HB7.out.kept HS8.out)
          clear hown8 hels8 hR x0 xl
          have x0 := fun j => (HB8.out).cell j
          have xl := (HB8.out).lt
          go_wp2_with fail
          exact bodyPost_ret (v := .tuple #[.slice a8 U.length c8, .int .i64 0]) (by simp [results, Try.results10, go_sem]) rfl (RetWE.mk HK7.out HO8.out)
        · by_cases hcT : c = T
          · have e2 : l.length = T := by omega
            have z2 : (l.drop T).take (l.length - T) = [] := by rw [e2, Nat.sub_self]; rfl
            rw [z2] at hiy
            have HZ2 := Lib.hid (fun (W : World) (p : Option Addr) => show Els W (.slice p 0 0) 7 Slot.cells [] from els_none _ _ _ _ _)
            clear hl he hr hv0 hk hv hF hT hfu hR hle hnf hg hi1 hi2 hd hu hU hP z2 e2
            subst hcT
            go_enter Try.func10, Try.ntmps10
            go_wp2_with fail
            obtain ⟨wa, hwa⟩ : ∃ wa, wa = w.alloc (.cells #[.int .u64 (hi x.x), .int .u64 (lo x.x), .int .u64 (hi x.m), .int .u64 (lo x.m), .int .i64 x.len, .int .i64 x.act] 29) := ⟨_, rfl⟩
            have HKa := Lib.hid (show Kept w wa by rw [hwa]; exact Kept.alloc (Kept.refl w) _)
            have HBa := Lib.hid (show Blk wa w.heap.size 29 #[.int .u64 (hi x.x), .int .u64 (lo x.x), .int .u64 (hi x.m), .int .u64 (lo x.m), .int .i64 x.len, .int .i64 x.act] by rw [hwa]; exact Blk.new' w _ _ rfl)
            rw [← hwa]
            clear hwa
            have x0 := fun j => (HBa.out).cell j
            have xl := (HBa.out).lt
            refine (hri.out _).mono ?_
            rintro e w1 ⟨rfl, q1, rfl⟩
            obtain ⟨w1, hw1⟩ : ∃ w1, w1 = ext wa q1 := ⟨_, rfl⟩
            have HS1 := Lib.hid (show Kept wa w1 by rw [hw1]; exact kept_extP _ _)
            have HK1 := Lib.hid (HKa.out.trans HS1.out)
            have HB1 := Lib.hid (HBa.out.kept HS1.out)
            rw [← hw1]
            clear hw1 x0 xl
            have x0 := fun j => (HB1.out).cell j
            have xl := (HB1.out).lt
            go_wp2_with fail
            refine (hkp.out _ (HE.out.kept HK1.out)).mono ?_
            rintro e w1 ⟨rfl, q2, rfl⟩
            obtain ⟨w2, hw2⟩ : ∃ w2, w2 = ext w1 q2 := ⟨_, rfl⟩
            have HS2 := Lib.hid (show Kept w1 w2 by rw [hw2]; exact kept_extP _ _)
            have HK2 := Lib.hid (HK1.out.trans HS2.out)
            have HB2 := Lib.hid (HB1.out.kept HS2.out)
            rw [← hw2]
            clear hw2 x0 xl
            have x0 := fun j => (HB2.out).cell j
            have xl := (HB2.out).lt
            go_wp2_with fail
            refine (hfr.out _ (HE.out.kept HK2.out)).mono ?_
            rintro e w1 ⟨rfl, q3, rfl⟩
            obtain ⟨w3, hw3⟩ : ∃ w3, w3 = ext w2 q3 := ⟨_, rfl⟩
            have HS3 := Lib.hid (show Kept w2 w3 by rw [hw3]; exact kept_extP _ _)
            have HK3 := Lib.hid (HK2.out.trans HS3.out)
            have HB3 := Lib.hid (HB2.out.kept HS3.out)
            rw [← hw3]
            clear hw3 x0 xl
            have x0 := fun j => (HB3.out).cell j
            have xl := (HB3.out).lt
            go_wp2_with fail
            refine (hga.out _ (HE.out.kept HK3.out)).mono ?_
            rintro e w1 ⟨rfl, q4, rfl⟩
            obtain ⟨w4, hw4⟩ : ∃ w4, w4 = ext w3 q4 := ⟨_, rfl⟩
            have HS4 := Lib.hid (show Kept w3 w4 by rw [hw4]; exact kept_extP _ _)
            have HK4 := Lib.hid (HK3.out.trans HS4.out)
            have HB4 := Lib.hid (HB3.out.kept HS4.out)
            rw [← hw4]
            clear hw4 x0 xl
            have x0 := fun j => (HB4.out).cell j
            have xl := (HB4.out).lt
            go_wp2_with fail
            refine (hix.out _ _ (HM1.out _ (HE.out.kept HK4.out))).mono ?_
            rintro e w1 ⟨rfl, q5, rfl⟩
            obtain ⟨w5, hw5⟩ : ∃ w5, w5 = ext w4 q5 := ⟨_, rfl⟩
            have HS5 := Lib.hid (show Kept w4 w5 by rw [hw5]; exact kept_extP _ _)
            have HK5 := Lib.hid (HK4.out.trans HS5.out)
            have HB5 := Lib.hid (HB4.out.kept HS5.out)
            rw [← hw5]
            clear hw5 x0 xl
            have x0 := fun j => (HB5.out).cell j
            have xl := (HB5.out).lt
            go_wp2_with fail
            refine (hiy.out _ _ (HZ2.out _ _)).mono ?_
            rintro e w1 ⟨rfl, q6, rfl⟩
            obtain ⟨w6, hw6⟩ : ∃ w6, w6 = ext w5 q6 := ⟨_, rfl⟩
            have HS6 := Lib.hid (show Kept w5 w6 by rw [hw6]; exact kept_extP _ _)
            have HK6 := Lib.hid (HK5.out.trans HS6.out)
            have HB6 := Lib.hid (HB5.out.kept HS6.out)
            rw [← hw6]
            clear hw6 x0 xl
            have x0 := fun j => (HB6.out).cell j
            have xl := (HB6.out).lt
            go_wp2_with fail
            refine (show Calls Try.prog 31 #[.slice (some ⟨b, o, none⟩) l.length c, .int .i64 (F : Int)] w6 (Ret (.int .i64 (u : Int)) w6) from hla.out _ (HE.out.kept HK6.out)).mono ?_
            rintro e w1 ⟨rfl, q7, rfl⟩
            obtain ⟨w7, hw7⟩ : ∃ w7, w7 = ext w6 q7 := ⟨_, rfl⟩
            have HS7 := Lib.hid (show Kept w6 w7 by rw [hw7]; exact kept_extP _ _)
            have HK7 := Lib.hid (HK6.out.trans HS7.out)
            have HB7 := Lib.hid (HB6.out.kept HS7.out)
            rw [← hw7]
            clear hw7 x0 xl
            have x0 := fun j => (HB7.out).cell j
            have xl := (HB7.out).lt
            go_wp2_with fail
            refine (hsu.out _ (HE.out.kept HK7.out)).mono ?_
            rintro e w8 hR
            obtain ⟨a8, c8, rfl, hlc8, hown8, hels8⟩ := RetEls.out2 Wr.cells_len hR
            have HO8 := Lib.hid hown8
            have HS8 := Lib.hid hown8.1
            have HK8 := Lib.hid (HK7.out.trans HS8.out)
            have HB8 := Lib.hid (HB7.out.kept HS8.out)
            clear hown8 hels8 hR x0 xl
            have x0 := fun j => (HB8.out).cell j
            have xl := (HB8.out).lt
            go_wp2_with fail
            exact bodyPost_ret (v := .tuple #[.slice a8 U.length c8, .int .i64 0]) (by simp [results, Try.results10, go_sem]) rfl (RetWE.mk HK7.out HO8.out)
          · clear hl he hr hv0 hk hv hF hT hfu hR hle hnf hg hi1 hi2 hd hu hU hP
            go_enter Try.func10, Try.ntmps10
            go_wp2_with fail
            obtain ⟨wa, hwa⟩ : ∃ wa, wa = w.alloc (.cells #[.int .u64 (hi x.x), .int .u64 (lo x.x), .int .u64 (hi x.m), .int .u64 (lo x.m), .int .i64 x.len, .int .i64 x.act] 29) := ⟨_, rfl⟩
            have HKa := Lib.hid (show Kept w wa by rw [hwa]; exact Kept.alloc (Kept.refl w) _)
            have HBa := Lib.hid (show Blk wa w.heap.size 29 #[.int .u64 (hi x.x), .int .u64 (lo x.x), .int .u64 (hi x.m), .int .u64 (lo x.m), .int .i64 x.len, .int .i64 x.act] by rw [hwa]; exact Blk.new' w _ _ rfl)
            rw [← hwa]
            clear hwa
            have x0 := fun j => (HBa.out).cell j
            have xl := (HBa.out).lt
            refine (hri.out _).mono ?_
            rintro e w1 ⟨rfl, q1, rfl⟩
            obtain ⟨w1, hw1⟩ : ∃ w1, w1 = ext wa q1 := ⟨_, rfl⟩
            have HS1 := Lib.hid (show Kept wa w1 by rw [hw1]; exact kept_extP _ _)
            have HK1 := Lib.hid (HKa.out.trans HS1.out)
            have HB1 := Lib.hid (HBa.out.kept HS1.out)
            rw [← hw1]
            clear hw1 x0 xl
            have x0 := fun j => (HB1.out).cell j
            have xl := (HB1.out).lt
            go_wp2_with fail
            refine (hkp.out _ (HE.out.kept HK1.out)).mono ?_
            rintro e w1 ⟨rfl, q2, rfl⟩
            obtain ⟨w2, hw2⟩ : ∃ w2, w2 = ext w1 q2 := ⟨_, rfl⟩
            have HS2 := Lib.hid (show Kept w1 w2 by rw [hw2]; exact kept_extP _ _)
            have HK2 := Lib.hid (HK1.out.trans HS2.out)
            have HB2 := Lib.hid (HB1.out.kept HS2.out)
            rw [← hw2]
            clear hw2 x0 xl
            have x0 := fun j => (HB2.out).cell j
            have xl := (HB2.out).lt
            go_wp2_with fail
            refine (hfr.out _ (HE.out.kept HK2.out)).mono ?_
            rintro e w1 ⟨rfl, q3, rfl⟩
            obtain ⟨w3, hw3⟩ : ∃ w3, w3 = ext w2 q3 := ⟨_, rfl⟩
            have HS3 := Lib.hid (show Kept w2 w3 by rw [hw3]; exact kept_extP _ _)
            have HK3 := Lib.hid (HK2.out.trans HS3.out)
            have HB3 := Lib.hid (HB2.out.kept HS3.out)
            rw [← hw3]
            clear hw3 x0 xl
            have x0 := fun j => (HB3.out).cell j
            have xl := (HB3.out).lt
            go_wp2_with fail
            refine (hga.out _ (HE.out.kept HK3.out)).mono ?_
            rintro e w1 ⟨rfl, q4, rfl⟩
            obtain ⟨w4, hw4⟩ : ∃ w4, w4 = ext w3 q4 := ⟨_, rfl⟩
            have HS4 := Lib.hid (show Kept w3 w4 by rw [hw4]; exact kept_extP _ _)
            have HK4 := Lib.hid (HK3.out.trans HS4.out)
            have HB4 := Lib.hid (HB3.out.kept HS4.out)
            rw [← hw4]
            clear hw4 x0 xl
            have x0 := fun j => (HB4.out).cell j
            have xl := (HB4.out).lt
            go_wp2_with fail
            refine (hix.out _ _ (HM1.out _ (HE.out.kept HK4.out))).mono ?_
            rintro e w1 ⟨rfl, q5, rfl⟩
            obtain ⟨w5, hw5⟩ : ∃ w5, w5 = ext w4 q5 := ⟨_, rfl⟩
            have HS5 := Lib.hid (show Kept w4 w5 by rw [hw5]; exact kept_extP _ _)
            have HK5 := Lib.hid (HK4.out.trans HS5.out)
            have HB5 := Lib.hid (HB4.out.kept HS5.out)
            rw [← hw5]
            clear hw5 x0 xl
            have x0 := fun j => (HB5.out).cell j
            have xl := (HB5.out).lt
            go_wp2_with fail
            refine (hiy.out _ _ (HM2.out _ (HE.out.kept HK5.out))).mono ?_
            rintro e w1 ⟨rfl, q6, rfl⟩
            obtain ⟨w6, hw6⟩ : ∃ w6, w6 = ext w5 q6 := ⟨_, rfl⟩
            have HS6 := Lib.hid (show Kept w5 w6 by rw [hw6]; exact kept_extP _ _)
            have HK6 := Lib.hid (HK5.out.trans HS6.out)
            have HB6 := Lib.hid (HB5.out.kept HS6.out)
            rw [← hw6]
            clear hw6 x0 xl
            have x0 := fun j => (HB6.out).cell j
            have xl := (HB6.out).lt
            go_wp2_with fail
            refine (show Calls Try.prog 31 #[.slice (some ⟨b, o, none⟩) l.length c, .int .i64 (F : Int)] w6 (Ret (.int .i64 (u : Int)) w6) from hla.out _ (HE.out.kept HK6.out)).mono ?_
            rintro e w1 ⟨rfl, q7, rfl⟩
            obtain ⟨w7, hw7⟩ : ∃ w7, w7 = ext w6 q7 := ⟨_, rfl⟩
            have HS7 := Lib.hid (show Kept w6 w7 by rw [hw7]; exact kept_extP _ _)
            have HK7 := Lib.hid (HK6.out.trans HS7.out)
            have HB7 := Lib.hid (HB6.out.kept HS7.out)
            rw [← hw7]
            clear hw7 x0 xl
            have x0 := fun j => (HB7.out).cell j
            have xl := (HB7.out).lt
            go_wp2_with fail
            refine (hsu.out _ (HE.out.kept HK7.out)).mono ?_
            rintro e w8 hR
            obtain ⟨a8, c8, rfl, hlc8, hown8, hels8⟩ := RetEls.out2 Wr.cells_len hR
            have HO8 := Lib.hid hown8
            have HS8 := Lib.hid hown8.1
            have HK8 := Lib.hid (HK7.out.trans HS8.out)
            have HB8 := Lib.hid (HB7.out.kept HS8.out)
            clear hown8 hels8 hR x0 xl
            have x0 := fun j => (HB8.out).cell j
            have xl := (HB8.out).lt
            go_wp2_with fail
            exact bodyPost_ret (v := .tuple #[.slice a8 U.length c8, .int .i64 0]) (by simp [results, Try.results10, go_sem]) rfl (RetWE.mk HK7.out HO8.out)
end Go.Proofs.Ytdlikcdmhgbolaa
