/- slices.Delete of one route: the contract over the program. Routes: rib.at (slices.BinarySearchFunc), rib.Find. Routes: rib.Drop. -/
import Derived.Test.YtjkhdjonlppdoaaSlRt
import Derived.Test.YtjkhdjonlppdoaaRow
import Derived.Test.YtjkhdjonlppdoaaAddr
import Derived.Shelf.RegionOpenPlain
import Derived.Test.YtjkhdjonlppdoaaRib6
namespace Go.Proofs.Ytjkhdjonlppdoaa
open Go.RowKit Pg

set_option maxHeartbeats 2000000 in
set_option maxRecDepth 100000 in
theorem deleteRt_any {l : List Rt} {v : Value} (W0 w : World) (ho : Own W0 w 29 4 v l.length (l.flatMap Rt.cells)) (k : Nat) (hk : k < l.length) (hn : l.length ≤ 100000) :
    Calls Try.prog 51 #[v, .int .i64 k, .int .i64 ((k : Int) + 1)] w fun en w' => ∃ v', en = .returned v' ∧ Own W0 w' 29 4 v' (l.eraseIdx k).length ((l.eraseIdx k).flatMap Rt.cells) := by
  obtain ⟨b, c, rfl, hb0, hblt, hnc, hcl, hfz⟩ := ho.form (by omega)
  obtain ⟨cur, hrow, _, htk⟩ := ho.rowOf
  have hc63 : c ≤ 9223372036854775807 := hrow.cap
  obtain ⟨N, hN⟩ : ∃ N, N = l.length := ⟨_, rfl⟩
  obtain ⟨news, hnews⟩ : ∃ news, news = (l.drop (k + 1)).flatMap Rt.cells := ⟨_, rfl⟩
  have hlen : news.length = (N - (k + 1)) * 4 := by rw [hnews, flat_len Rt.cells_len, List.length_drop, hN]
  have hget : ∀ j u, news[j]? = some u → w.cell? ⟨b, (k + 1) * 4 + j, none⟩ = some u := by
    intro j u hj
    have h1 : (l.flatMap Rt.cells)[(k + 1) * 4 + j]? = some u := by
      rw [← List.getElem?_drop]
      have : l.flatMap Rt.cells = (l.take (k + 1)).flatMap Rt.cells ++ news := by rw [hnews, ← List.flatMap_append, List.take_append_drop]
      rw [this, List.drop_left' (by rw [flat_len Rt.cells_len, List.length_take, Nat.min_eq_left (by omega)])]
      exact hj
    rw [hcl _ (by have := (List.getElem?_eq_some_iff.1 h1).1; rwa [flat_len Rt.cells_len] at this)]
    exact h1
  have hone : ∀ u ∈ news, u.oneCell' = true := fun u hu => by
    rw [hnews] at hu
    obtain ⟨y, _, hy⟩ := List.mem_flatMap.1 hu
    exact Rt.one y u hy
  have hfin : ((splice cur (k * 4) news).take ((N - 1) * 4)) = (l.eraseIdx k).flatMap Rt.cells := by
    have h1 : cur.take (k * 4) = (l.take k).flatMap Rt.cells := by
      rw [← flat_take Rt.cells_len l k (by omega), ← htk, List.take_take, Nat.min_eq_left (by omega)]
    unfold splice
    rw [h1, ← List.append_assoc, List.take_append_of_le_length (by rw [List.length_append, flat_len Rt.cells_len, List.length_take, hlen, Nat.min_eq_left (by omega)]; omega), List.take_of_length_le (by rw [List.length_append, flat_len Rt.cells_len, List.length_take, hlen, Nat.min_eq_left (by omega)]; omega), hnews, ← List.flatMap_append, List.eraseIdx_eq_take_drop_succ]
  have hel : (l.eraseIdx k).length = N - 1 := by rw [List.length_eraseIdx_of_lt hk, hN]
  rw [← hN] at hnc hk hn ho hcl ⊢
  rw [hel, ← hfin]
  have s1 := Lib.hid hlen
  have s2 := Lib.hid hget
  have s3 := Lib.hid hone
  have s4 := Lib.hid hrow
  have hkN : (k : Int) + 1 ≤ (N : Int) := by omega
  have hkc : k + 1 ≤ c := by omega
  have hkc2 : k ≤ c := by omega
  have hkt : ((k : Int) + 1).toNat = k + 1 := by omega
  have mixed := mixed
  have hk0 : (0 : Int) ≤ (k : Int) + 1 := by omega
  have hk1 : (k : Int) ≤ (k : Int) + 1 := by omega
  clear hnews hfin hel hN hlen hget hone hrow htk hcl hfz ho hblt hb0
  by_cases hcj : c = k + 1
  · subst hcj
    go_enter Try.func51, Try.ntmps51
    go_wp2_with fail
    go_region_law_o (refine step_append_of (s4.out.step (Kept.drew (Kept.refl _))) rfl (.tmp 22) (.tmp 25) 22 rfl Try.underlying22 (by kernel_rfl) k 0 0 ⟨b, 0, none⟩ news (by simp [Act.eval, Act.put]) (by simp [Act.eval, Act.put]) (by rw [s1.out]; omega) (fun j u hj => by
      have h1 := (List.getElem?_eq_some_iff.1 hj).1
      rw [s1.out] at h1; omega) (by omega) s3.out ?_; intro w1 hrow1)
    have HO1 := Lib.hid (hrow1.own (n := N) hnc)
    clear hrow1
    go_wp2_with (first | (refine wpList_clear_own rfl (.tmp 31) 22 rfl 29 (.agg #[.int .u64 0, .int .u64 0, .int .i64 0, .int .i64 0]) 4 Try.underlying22 (fun _ => by kernel_rfl) rfl (by simp [Value.cells, Value.oneCell']) b N (k + 1) k (N - k) 1 _ rfl HO1.out (by omega) ?_; intro w2 hown2))
    go_ret
    rw [List.take_take, Nat.min_eq_left (by omega), show k = N - 1 by omega] at hown2
    exact ⟨_, rfl, by rw [show k = N - 1 by omega]; exact hown2⟩
  · go_enter Try.func51, Try.ntmps51
    go_wp2_with fail
    go_region_law_o (refine step_append_of (s4.out.step (Kept.drew (Kept.refl _))) rfl (.tmp 22) (.tmp 25) 22 rfl Try.underlying22 (by kernel_rfl) k (N - (k + 1)) (c - (k + 1)) ⟨b, (k + 1) * 4, none⟩ news (by simp [Act.eval, Act.put]) (by simp [Act.eval, Act.put]) s1.out (fun j u hj => cell_add (s2.out j u hj)) (by omega) s3.out ?_; intro w1 hrow1)
    have HO1 := Lib.hid (hrow1.own (n := N) hnc)
    clear hrow1
    go_wp2_with (first | (refine wpList_clear_own rfl (.tmp 31) 22 rfl 29 (.agg #[.int .u64 0, .int .u64 0, .int .i64 0, .int .i64 0]) 4 Try.underlying22 (fun _ => by kernel_rfl) rfl (by simp [Value.cells, Value.oneCell']) b N (c) (k + (N - (k + 1))) (N - (k + (N - (k + 1)))) (c - (k + (N - (k + 1)))) _ rfl HO1.out (by omega) ?_; intro w2 hown2))
    go_ret
    rw [List.take_take, Nat.min_eq_left (by omega), show k + (N - (k + 1)) = N - 1 by omega] at hown2
    exact ⟨_, rfl, by rw [show k + (N - (k + 1)) = N - 1 by omega]; exact hown2⟩
end Go.Proofs.Ytjkhdjonlppdoaa
namespace Pg
open Go
/-- Where a prefix's route is, or belongs. -/
structure IsAt (l : List Rt) (x : B) (n : Int) (c : Nat) (is : Bool) : Prop where
  le : c ≤ l.length
  below : ∀ t (h : t < l.length), t < c → cmpP l[t].x l[t].n x n < 0
  above : ∀ t (h : t < l.length), c ≤ t → 0 ≤ cmpP l[t].x l[t].n x n
  found : is = true ↔ ∃ h : c < l.length, cmpP l[c].x l[c].n x n = 0
theorem isAt_exists {l : List Rt} (h : Tab l) (x : B) (n : Int) : ∃ c is, IsAt l x n c is := by
  have key : ∀ k, k ≤ l.length → (∀ t (h : t < l.length), t < k → cmpP l[t].x l[t].n x n < 0) → ∃ c, c ≤ l.length ∧ (∀ t (h : t < l.length), t < c → cmpP l[t].x l[t].n x n < 0) ∧ (∀ h : c < l.length, 0 ≤ cmpP l[c].x l[c].n x n) := by
    intro k hk
    induction hj : l.length - k generalizing k with
    | zero => exact fun hb => ⟨k, hk, hb, fun h => by omega⟩
    | succ j ih =>
      intro hb
      have hlt : k < l.length := by omega
      by_cases hc : cmpP l[k].x l[k].n x n < 0
      · exact ih (k + 1) (by omega) (by omega) fun t ht h2 => by
          rcases Nat.lt_or_ge t k with h3 | h3
          · exact hb t ht h3
          · have : t = k := by omega
            subst this; exact hc
      · exact ⟨k, hk, hb, fun _ => by omega⟩
  obtain ⟨c, hc, hb, ha⟩ := key 0 (Nat.zero_le _) (fun t _ h => by omega)
  have habove : ∀ t (h : t < l.length), c ≤ t → 0 ≤ cmpP l[t].x l[t].n x n := fun t ht hct => by
    have h0 := ha (by omega)
    rcases Nat.lt_or_eq_of_le hct with hlt | rfl
    · have hs := List.pairwise_iff_getElem.1 h.sorted c t (by omega) ht hlt
      rcases Int.lt_or_le (cmpP l[t].x l[t].n x n) 0 with h3 | h3
      · have h4 : ltR l[t] ⟨x, n, 0⟩ := (cmpP_lt _ _ _ _).1 h3
        have h5 : ltR l[c] ⟨x, n, 0⟩ := ltR_trans hs h4
        have h6 := (cmpP_lt _ _ _ _).2 h5
        have h7 : cmpP l[c].x l[c].n x n < 0 := h6
        omega
      · exact h3
    · exact h0
  by_cases hf : ∃ h : c < l.length, cmpP l[c].x l[c].n x n = 0
  · exact ⟨c, true, hc, hb, habove, by simpa using hf⟩
  · exact ⟨c, false, hc, hb, habove, by simpa using hf⟩
theorem IsAt.find {l : List Rt} {x : B} {n : Int} {c : Nat} {is : Bool} (h : IsAt l x n c is) (hT : Tab l) : l.find? (eqR x n) = if is then l[c]? else none := by
  have hz : ∀ s : Rt, eqR x n s = true ↔ cmpP s.x s.n x n = 0 := fun s => by
    unfold eqR
    rw [cmpP_zero]
    simp
  cases hi : is
  · simp only [Bool.false_eq_true, if_false]
    refine find_none fun t ht => ?_
    cases he : eqR x n l[t]
    · rfl
    · rw [hz] at he
      rcases Nat.lt_trichotomy t c with h1 | h1 | h1
      · have := h.below t ht h1; omega
      · subst h1
        have := h.found.2 ⟨ht, he⟩
        rw [hi] at this; cases this
      · exfalso
        have h3 := h.above c (by omega) (Nat.le_refl _)
        have hs := List.pairwise_iff_getElem.1 hT.sorted c t (by omega) ht h1
        have he2 := (cmpP_zero _ _ _ _).1 he
        have h4 : ltR l[c] ⟨x, n, 0⟩ := by
          rcases hs with hs | ⟨hs1, hs2⟩
          · exact .inl (by rw [← he2.1]; exact hs)
          · exact .inr ⟨hs1.trans he2.1, by show l[c].n < n; rw [← he2.2]; exact hs2⟩
        have h5 : cmpP l[c].x l[c].n x n < 0 := (cmpP_lt _ _ _ _).2 h4
        omega
  · simp only [if_true]
    obtain ⟨hc, h0⟩ := h.found.1 hi
    rw [List.getElem?_eq_getElem hc]
    refine find_at c hc ((hz _).2 h0) fun t ht htc => ?_
    cases he : eqR x n l[t]
    · rfl
    · rw [hz] at he
      have := h.below t ht htc; omega
end Pg
namespace Go.Proofs.Ytjkhdjonlppdoaa
open Go.RowKit Pg

set_option maxHeartbeats 1000000 in
set_option maxRecDepth 100000 in
theorem at1_any (s : Rt) (x : B) (n : Int) (w : World) : Calls Try.prog 63 #[rv s, pv x n] w (Ret (.int .i64 (cmpP s.x s.n x n)) w) := by
  have HC := Lib.hid (fun w => cmpp_any s.x s.n x n w)
  go_enter Try.func63, Try.ntmps63
  go_wp2_with (first | (go_at_call 41; first | ((refine (calls_in (HC.out _)).mono ?_); rintro e w1 ⟨rfl, q1, rfl⟩) | ((refine (HC.out _).mono ?_); rintro e w1 ⟨rfl, q1, rfl⟩)))
  go_ret
  exact Ret.of (rfl) (by simp (maxDischargeDepth := 99))
set_option maxHeartbeats 1000000 in
set_option maxRecDepth 100000 in
theorem bsearch9_any {l : List Rt} {v : Value} (x : B) (n : Int) (c : Nat) (is : Bool) (w : World) (hl : Els w v 4 Rt.cells l) (hn : l.length ≤ 1000) (h : IsAt l x n c is) : Calls Try.prog 62 #[v, pv x n, .func (.func 63) #[] #[]] w (Ret (.tuple #[.int .i64 (c : Int), .bool is]) w) := by
  obtain ⟨ad, cap, rfl, hcap, he⟩ := hl.form
  have HE := Lib.hid he
  have HA := Lib.hid h
  clear hl he h
  go_enter Try.func62, Try.ntmps62
  go_wp2_with fail
  go_loopw [9, 10, 11] (fun v9 v10 _ wr => ∃ (lw up : Nat), v9 = .int .i64 lw ∧ v10 = .int .i64 up ∧ lw ≤ c ∧ c ≤ up ∧ up ≤ l.length ∧ Kept (w.alloc (.cells #[.int .u64 (hi x), .int .u64 (lo x), .int .i64 n] 27)) wr) (fun v9 v10 _ _ => (intOf v10 - intOf v9).toNat)
  case atStart => exact ⟨0, l.length, rfl, rfl, Nat.zero_le _, HA.out.le, Nat.le_refl _, Kept.refl _⟩
  case round =>
    obtain ⟨lw, up, rfl, rfl, h1, h2, h3, hkw⟩ := hrel
    have HX := Lib.hid hkw
    have HK := Lib.hid ((Kept.alloc (Kept.refl w) _).trans hkw)
    obtain ⟨p0, p1, p2, pl⟩ := Blk.three ((Blk.new' w 27 #[.int .u64 (hi x), .int .u64 (lo x), .int .i64 n] rfl).kept hkw)
    clear hkw
    by_cases hlt : lw < up
    · obtain ⟨m, hm⟩ : ∃ m : Nat, (lw + up) / 2 = m := ⟨_, rfl⟩
      have hml : m < l.length := by omega
      have hmi : ((lw : Int) + (up : Int)) / 2 = (m : Int) := by omega
      have m0 : (0 : Int) ≤ m := by omega
      have m1 : (m : Int) < (l.length : Int) := by omega
      obtain ⟨b, o, rfl, hb, hcell⟩ := (HE.out.kept HK.out).at_ (m) hml
      obtain ⟨e, hee⟩ : ∃ e, (l)[m]'hml = e := ⟨_, rfl⟩
      rw [hee] at hcell
      have c0 : wr.cell? ⟨b, o + m * 4, none⟩ = some (.int .u64 (hi e.x)) := hcell 0 (by omega)
      have c1 : wr.cell? ⟨b, o + m * 4 + 1, none⟩ = some (.int .u64 (lo e.x)) := hcell 1 (by omega)
      have c2 : wr.cell? ⟨b, o + m * 4 + 2, none⟩ = some (.int .i64 e.n) := hcell 2 (by omega)
      have c3 : wr.cell? ⟨b, o + m * 4 + 3, none⟩ = some (.int .i64 e.act) := hcell 3 (by omega)
      have Hee := Lib.hid hee
      clear hcell hee
      obtain ⟨cc, hcc⟩ : ∃ cc, cmpP e.x e.n x n = cc := ⟨_, rfl⟩
      have HC := Lib.hid (fun W => show Calls Try.prog 63 #[rv e, pv x n] W (Ret (.int .i64 cc) W) by rw [← hcc]; exact at1_any e x n W)
      by_cases hneg : cc < 0
      · have hmc : m < c := by
          rcases Nat.lt_or_ge m c with h5 | h5
          · exact h5
          · have := HA.out.above m hml h5; rw [Hee.out, hcc] at this; omega
        clear Hee hcc
        go_wp2_with fail
        refine region_ext _ (by first | exact Later.ext _ _ | exact Later.refl _) mixed (by kernel_rfl) ?_
        repeat (go_big_quiet_step ((first | (exact calls_in (HC.out _)))))
        refine wpQuiet_nil ?_
        rintro _ ⟨q, rfl⟩
        go_wp2_with fail
        go_roundw
        case rel => exact ⟨m + 1, up, by go_num, rfl, by omega, h2, h3, HX.out.ext _⟩
        case measure => simp [intOf]; omega
      · have hmc : c ≤ m := by
          rcases Nat.lt_or_ge m c with h5 | h5
          · have := HA.out.below m hml h5; rw [Hee.out, hcc] at this; omega
          · exact h5
        clear Hee hcc
        go_wp2_with fail
        refine region_ext _ (by first | exact Later.ext _ _ | exact Later.refl _) mixed (by kernel_rfl) ?_
        repeat (go_big_quiet_step ((first | (exact calls_in (HC.out _)))))
        refine wpQuiet_nil ?_
        rintro _ ⟨q, rfl⟩
        go_wp2_with fail
        go_roundw
        case rel => exact ⟨lw, m, rfl, by go_num, h1, hmc, by omega, HX.out.ext _⟩
        case measure => simp [intOf]; omega
    · obtain rfl : lw = c := by omega
      obtain rfl : up = lw := by omega
      have hfd := HA.out.found
      by_cases hcl : up < l.length
      · have m0 : (0 : Int) ≤ up := by omega
        have m1 : (up : Int) < (l.length : Int) := by omega
        have hd1 : decide ((up : Int) < (l.length : Int)) = true := by simp; omega
        have hd2 : decide (up < l.length) = true := by simp; omega
        obtain ⟨b, o, rfl, hb, hcell⟩ := (HE.out.kept HK.out).at_ (up) hcl
        obtain ⟨e, hee⟩ : ∃ e, (l)[up]'hcl = e := ⟨_, rfl⟩
        rw [hee] at hcell
        have c0 : wr.cell? ⟨b, o + up * 4, none⟩ = some (.int .u64 (hi e.x)) := hcell 0 (by omega)
        have c1 : wr.cell? ⟨b, o + up * 4 + 1, none⟩ = some (.int .u64 (lo e.x)) := hcell 1 (by omega)
        have c2 : wr.cell? ⟨b, o + up * 4 + 2, none⟩ = some (.int .i64 e.n) := hcell 2 (by omega)
        have c3 : wr.cell? ⟨b, o + up * 4 + 3, none⟩ = some (.int .i64 e.act) := hcell 3 (by omega)
        have Hee := Lib.hid hee
        clear hcell hee
        obtain ⟨cc, hcc⟩ : ∃ cc, cmpP e.x e.n x n = cc := ⟨_, rfl⟩
        have HC := Lib.hid (fun W => show Calls Try.prog 63 #[rv e, pv x n] W (Ret (.int .i64 cc) W) by rw [← hcc]; exact at1_any e x n W)
        have his : is = (cc == 0) := by
          rw [Bool.eq_iff_iff, hfd, beq_iff_eq, ← hcc, ← Hee.out]
          exact ⟨fun ⟨_, h⟩ => h, fun h => ⟨hcl, h⟩⟩
        subst his
        clear Hee hcc hfd
        go_wp2_with fail
        refine region_ext _ (by first | exact Later.ext _ _ | exact Later.refl _) mixed (by kernel_rfl) ?_
        repeat (go_big_quiet_step ((first | (exact calls_in (HC.out _)))))
        refine wpQuiet_nil ?_
        rintro _ ⟨q, rfl⟩
        go_wp2_with fail
        exact bodyPost_ret (v := .tuple #[.int .i64 (up : Int), .bool (cc == 0)]) (by simp [results, Try.results62, go_sem]) rfl (Ret.mk (by simp (maxDischargeDepth := 99) [HK.out]))
      · have hd1 : decide ((up : Int) < (l.length : Int)) = false := by simp; omega
        have hd2 : decide (up < l.length) = false := by simp; omega
        have hd3 : ¬ (up : Int) < (l.length : Int) := by omega
        have his : is = false := by
          cases is
          · rfl
          · obtain ⟨h5, _⟩ := hfd.1 rfl; omega
        subst his
        clear hfd
        go_wp2_with fail
        refine region_ext _ (by first | exact Later.ext _ _ | exact Later.refl _) mixed (by kernel_rfl) ?_
        repeat (go_big_quiet_step (fail))
        refine wpQuiet_nil ?_
        rintro _ ⟨q, rfl⟩
        go_wp2_with fail
        exact bodyPost_ret (v := .tuple #[.int .i64 (up : Int), .bool false]) (by simp [results, Try.results62, go_sem]) rfl (Ret.mk (by simp (maxDischargeDepth := 99) [HK.out]))
set_option maxHeartbeats 1000000 in
set_option maxRecDepth 100000 in
theorem at_any {l : List Rt} {v : Value} (x : B) (n : Int) (c : Nat) (is : Bool) (w : World) (hl : Els w v 4 Rt.cells l) (hn : l.length ≤ 1000) (h : IsAt l x n c is) : Calls Try.prog 45 #[v, pv x n] w (Ret (.tuple #[.int .i64 (c : Int), .bool is]) w) := by
  have hb := Lib.hid (fun W (h' : Els W v 4 Rt.cells l) => bsearch9_any x n c is W h' hn h)
  have HE := Lib.hid hl
  obtain ⟨ad, cap, rfl, hcap, he⟩ := hl.form
  clear hl he h
  go_enter Try.func45, Try.ntmps45
  go_wp2_with fail
  refine (hb.out _ (HE.out.alloc _)).mono ?_
  rintro e w1 ⟨rfl, q1, rfl⟩
  go_wp2_with fail
  exact bodyPost_ret (v := .tuple #[.int .i64 (c : Int), .bool is]) (by simp [results, Try.results45, go_sem]) rfl (Ret.mk (by simp (maxDischargeDepth := 99)))
set_option maxHeartbeats 1000000 in
set_option maxRecDepth 100000 in
theorem ribfind_any {l : List Rt} {v : Value} (x : B) (n : Int) (w : World) (hl : Els w v 4 Rt.cells l) (hT : Tab l) (hn : l.length ≤ 1000) : Calls Try.prog 22 #[v, pv x n] w (Ret (retR (l.find? (eqR x n))) w) := by
  obtain ⟨c, is, hat⟩ := isAt_exists hT x n
  have hf := hat.find hT
  have hb := Lib.hid (fun W (h' : Els W v 4 Rt.cells l) => at_any x n c is W h' hn hat)
  have HE := Lib.hid hl
  obtain ⟨ad, cap, rfl, hcap, he⟩ := hl.form
  have e0 : hi 0#128 = 0 := by kernel_rfl
  have e1 : lo 0#128 = 0 := by kernel_rfl
  cases is
  · simp only [Bool.false_eq_true, if_false] at hf
    rw [hf]
    clear hl he hat hT hf
    go_enter Try.func22, Try.ntmps22
    go_wp2_with fail
    refine (hb.out _ ((HE.out.alloc _).alloc _)).mono ?_
    rintro e w1 ⟨rfl, q1, rfl⟩
    go_wp2_with fail
    exact bodyPost_ret (v := retR none) (by simp [results, Try.results22, go_sem, rv, z0r, e0, e1]) rfl (Ret.mk (by simp (maxDischargeDepth := 99)))
  · obtain ⟨hcl, _⟩ := hat.found.1 rfl
    simp only [if_true] at hf
    rw [List.getElem?_eq_getElem hcl] at hf
    obtain ⟨e, hee⟩ : ∃ e, l[c] = e := ⟨_, rfl⟩
    rw [hee] at hf
    rw [hf]
    have m0 : (0 : Int) ≤ c := by omega
    have m1 : (c : Int) < (l.length : Int) := by omega
    have HEE := Lib.hid hee
    clear hl he hat hT hf hee
    go_enter Try.func22, Try.ntmps22
    go_wp2_with fail
    refine (hb.out _ ((HE.out.alloc _).alloc _)).mono ?_
    rintro e w1 ⟨rfl, q1, rfl⟩
    obtain ⟨wz, hwz⟩ : ∃ wz, wz = ext ((w.alloc (.cells #[.int .u64 (hi x), .int .u64 (lo x), .int .i64 n] 27)).alloc (.cells #[.int .u64 0, .int .u64 0, .int .i64 0, .int .i64 0] 29)) q1 := ⟨_, rfl⟩
    have HKZ := Lib.hid (show Kept w wz by rw [hwz]; exact (Kept.alloc (Kept.alloc (Kept.refl w) _) _).ext _)
    have br : Blk wz (w.heap.size + 1) 29 #[.int .u64 0, .int .u64 0, .int .i64 0, .int .i64 0] := by rw [hwz]; exact (Blk.new' _ _ _ (by simp)).ext _
    obtain ⟨r0, r1, r2, r3, rl⟩ := Blk.four br
    have rf := fun i => br.frozen i
    rw [← hwz]
    clear hwz br
    obtain ⟨bz, oz, rfl, hbz, hcellz⟩ := (HE.out.kept HKZ.out).at_ (c) hcl
    obtain ⟨ez, heez⟩ : ∃ e, (l)[c]'hcl = e := ⟨_, rfl⟩
    rw [heez] at hcellz
    have cz0 : wz.cell? ⟨bz, oz + c * 4, none⟩ = some (.int .u64 (hi ez.x)) := hcellz 0 (by omega)
    have cz1 : wz.cell? ⟨bz, oz + c * 4 + 1, none⟩ = some (.int .u64 (lo ez.x)) := hcellz 1 (by omega)
    have cz2 : wz.cell? ⟨bz, oz + c * 4 + 2, none⟩ = some (.int .i64 ez.n) := hcellz 2 (by omega)
    have cz3 : wz.cell? ⟨bz, oz + c * 4 + 3, none⟩ = some (.int .i64 ez.act) := hcellz 3 (by omega)
    have Heez := Lib.hid heez
    clear hcellz heez
    obtain rfl : e = ez := by rw [← HEE.out, Heez.out]
    clear Heez
    go_wp2_with fail
    exact bodyPost_ret (v := retR (some e)) (by simp [results, Try.results22, go_sem, rv, r0, r1, r2, r3]) rfl (Ret.mk (by simp (maxDischargeDepth := 99) [HKZ.out]))
end Go.Proofs.Ytjkhdjonlppdoaa
namespace Pg
open Go
theorem eqR_iff (x : B) (n : Int) (s : Rt) : eqR x n s = true ↔ cmpP s.x s.n x n = 0 := by
  unfold eqR
  rw [cmpP_zero]
  simp
theorem IsAt.drop {l : List Rt} {x : B} {n : Int} {c : Nat} {is : Bool} (h : IsAt l x n c is) (hT : Tab l) : (l.filter fun s => !eqR x n s) = if is then l.eraseIdx c else l := by
  cases hi : is
  · have hf := h.find hT
    rw [hi] at hf
    simp only [Bool.false_eq_true, if_false] at hf ⊢
    rw [List.find?_eq_none] at hf
    rw [List.filter_eq_self]
    intro s hs
    have := hf s hs
    simpa using this
  · obtain ⟨hc, h0⟩ := h.found.1 hi
    simp only [if_true]
    have hl : l = l.take c ++ l[c] :: l.drop (c + 1) := by rw [← List.drop_eq_getElem_cons hc, List.take_append_drop]
    have h1 : ((l.take c).filter fun s => !eqR x n s) = l.take c := by
      rw [List.filter_eq_self]
      intro s hs
      obtain ⟨t, ht, rfl⟩ := List.getElem_of_mem hs
      rw [List.length_take] at ht
      have hb := h.below t (by omega) (by omega)
      rw [List.getElem_take]
      cases he : eqR x n l[t]
      · rfl
      · rw [eqR_iff] at he; omega
    have h2 : ((l.drop (c + 1)).filter fun s => !eqR x n s) = l.drop (c + 1) := by
      rw [List.filter_eq_self]
      intro s hs
      obtain ⟨t, ht, rfl⟩ := List.getElem_of_mem hs
      rw [List.length_drop] at ht
      rw [List.getElem_drop]
      cases he : eqR x n l[c + 1 + t]
      · rfl
      · have hs := List.pairwise_iff_getElem.1 hT.sorted c (c + 1 + t) hc (by omega) (by omega)
        rw [eqR_iff, cmpP_zero] at he
        rw [cmpP_zero] at h0
        have h4 : ltR l[c] l[c + 1 + t] := hs
        have h5 := (cmpP_lt _ _ _ _).2 h4
        rw [h0.1, h0.2, he.1, he.2, (cmpP_zero x n x n).2 ⟨rfl, rfl⟩] at h5
        omega
    have h3 : eqR x n l[c] = true := (eqR_iff _ _ _).2 h0
    rw [List.eraseIdx_eq_take_drop_succ]
    conv => lhs; rw [hl]
    rw [List.filter_append, List.filter_cons, h1, h2, h3]
    simp
end Pg
namespace Go.Proofs.Ytjkhdjonlppdoaa
open Go.RowKit Pg

set_option maxHeartbeats 1000000 in
set_option maxRecDepth 100000 in
theorem ribdrop_any {l : List Rt} {v : Value} (x : B) (n : Int) (w : World) (hl : Els w v 4 Rt.cells l) (hT : Tab l) (hn : l.length ≤ 1000) : Calls Try.prog 29 #[v, pv x n] w (RetEls 29 4 Rt.cells (l.filter fun s => !eqR x n s) w) := by
  obtain ⟨c, is, hat⟩ := isAt_exists hT x n
  have hd := hat.drop hT
  have hb := Lib.hid (fun W (h' : Els W v 4 Rt.cells l) => at_any x n c is W h' hn hat)
  have hcl := Lib.hid (fun W (h' : Els W v 4 Rt.cells l) => cloneRt_any W h' (by omega))
  have HE := Lib.hid hl
  obtain ⟨ad, cap, rfl, hcap, he⟩ := hl.form
  cases is
  · simp only [Bool.false_eq_true, if_false] at hd
    rw [hd]
    clear hl he hat hT hd
    go_enter Try.func29, Try.ntmps29
    go_wp2_with fail
    refine (hb.out _ (HE.out.alloc _)).mono ?_
    rintro e w1 ⟨rfl, q1, rfl⟩
    go_wp2_with fail
    refine (hcl.out _ ((HE.out.alloc _).ext _)).mono ?_
    rintro e w2 ⟨v2, rfl, ho2⟩
    have HO2 := Lib.hid ho2
    clear ho2
    go_wp2_with fail
    go_ret
    exact RetEls.mk (Kept.ext ((Kept.refl w).alloc _) _) HO2.out
  · obtain ⟨hc, _⟩ := hat.found.1 rfl
    simp only [if_true] at hd
    rw [hd]
    have hdl := Lib.hid (fun W0 W u (h : Own W0 W 29 4 u l.length (l.flatMap Rt.cells)) => deleteRt_any W0 W h c hc (by omega))
    clear hl he hat hT hd
    go_enter Try.func29, Try.ntmps29
    go_wp2_with fail
    refine (hb.out _ (HE.out.alloc _)).mono ?_
    rintro e w1 ⟨rfl, q1, rfl⟩
    go_wp2_with fail
    refine (hcl.out _ ((HE.out.alloc _).ext _)).mono ?_
    rintro e w2 ⟨v2, rfl, ho2⟩
    have HO2 := Lib.hid ho2
    clear ho2
    go_wp2_with fail
    refine (hdl.out _ _ _ HO2.out).mono ?_
    rintro e w3 ⟨v3, rfl, ho3⟩
    have HO3 := Lib.hid ho3
    clear ho3
    go_wp2_with fail
    go_ret
    exact RetEls.mk (Kept.ext ((Kept.refl w).alloc _) _) HO3.out
end Go.Proofs.Ytjkhdjonlppdoaa
