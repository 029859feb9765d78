/- BoardApart: a move of one bank changes nothing that is told of another one's addresses; a copy is one of its own. -/
import Derived.Test.YtemfocnjlimicaaRows
import Derived.Test.YtemfocnjlimicaaRun2
import Derived.Test.YtemfocnjlimicaaBoard12
import Derived.Test.YtemfocnjlimicaaSplit2
import Derived.Test.YtemfocnjlimicaaOpenMoves
namespace Go.Proofs.Ytemfocnjlimicaa
open Go.RowKit Pg Go.ChangeShapes Go.WideShapes Go.ChangeAt

theorem may17_no' {k n : Int} (h : ¬ (0 ≤ k ∧ k ≤ 3 ∧ 1 ≤ n ∧ n ≤ 20)) : (decide (0 ≤ k) && (decide (k ≤ 3) && (decide (1 ≤ n) && decide (n ≤ 20)))) = false := by
  rw [Bool.eq_false_iff]
  intro h2
  simp only [Bool.and_eq_true, decide_eq_true_eq] at h2
  exact h ⟨h2.1, h2.2.1, h2.2.2.1, h2.2.2.2⟩
theorem sumB_same : ∀ (cs bs : List Bk), cs.length = bs.length → (∀ (i : Nat) (h : i < cs.length) (h' : i < bs.length), cs[i].c = bs[i].c) → sumB Bk.c cs = sumB Bk.c bs
  | [], [], _, _ => rfl
  | [], _ :: _, h, _ => by simp at h
  | _ :: _, [], h, _ => by simp at h
  | x :: cs, y :: bs, h, hs => by
    have h1 := hs 0 (by simp) (by simp)
    have h2 := sumB_same cs bs (by simpa using h) fun i h1 h2 => hs (i + 1) (by simpa using h1) (by simpa using h2)
    simp only [List.getElem_cons_zero] at h1
    simp only [sumB, h1, h2]
/-- A move of the copy: the board stands; what the copy says of another bank is as it was. -/
theorem apart_do {Wb w1 w : World} {gb gp cap gc gpc capc n : Nat} {k : Int} {bs cs : List Bk} (hb : BoardAt Wb w gb gp k n cap bs) (hu : Under w1.heap.size gb gp bs) (hc : BoardAt w1 w gc gpc k n capc cs) (hk : Kept Wb w1) (hl : cs.length = bs.length) (h8 : bs.length ≤ 8)
    (same : ∀ (i : Nat) (h : i < cs.length) (h' : i < bs.length), cs[i].l = bs[i].l ∧ cs[i].c = bs[i].c) (hcnt : ∀ b ∈ bs, 0 ≤ b.c ∧ b.c ≤ 30) (hsum : sumB Bk.c cs = sumB Bk.c bs) (m : Mv) (i : Nat) (hil : i < bs.length) :
    Calls Try.prog 17 #[.pointer (some ⟨gc, 0, none⟩), mvv m] w (fun e w3 => ∃ (E : Int) (cs' : List Bk), e = .returned (.int .i64 E) ∧ BoardAt Wb w3 gb gp k n cap bs ∧ BoardAt w1 w3 gc gpc k n capc cs' ∧ cs'.length ≤ 8 ∧ (∀ b ∈ cs', 0 ≤ b.c ∧ b.c ≤ 1000) ∧
      (∃ h : i < cs'.length, (i : Int) = m.bank ∨ cs'[i].l = bs[i].l) ∧ (sumB Bk.c bs = sumB Bk.c cs' ∨ E = 0)) := by
  have hcc : ∀ b ∈ cs, 0 ≤ b.c ∧ b.c ≤ 30 := fun b hbm => by
    obtain ⟨j, hj, rfl⟩ := List.getElem_of_mem hbm
    rw [(same j hj (by omega)).2]
    exact hcnt _ (List.getElem_mem _)
  by_cases hm : m.bank < 0 ∨ (cs.length : Int) ≤ m.bank
  · refine (bodo_no hc (by omega) m hm).mono fun e w3 ⟨he, p, hp⟩ => ?_
    have hk3 : Kept w w3 := by rw [hp]; exact below_ext _ _
    exact ⟨5, cs, he, hb.kept hk3, hc.kept hk3, by omega, fun b hbm => by have := hcc b hbm; omega, ⟨by omega, .inr (same i (by omega) hil).1⟩, .inl hsum.symm⟩
  · obtain ⟨bank, x⟩ := m
    dsimp only at hm ⊢
    obtain ⟨j, rfl⟩ := Int.eq_ofNat_of_zero_le (show 0 ≤ bank by omega)
    have hjl : j < cs.length := by omega
    have hcj := hcc cs[j] (List.getElem_mem hjl)
    refine (bodo_yes hc (by omega) j hjl hcj.1 (by omega) x).mono fun e w3 ⟨he, hcg, hb3⟩ => ?_
    have hba := hc.banks.at_ cs[j] (List.getElem_mem hjl)
    refine ⟨doE x n, _, he, hb.over hu hcg (hk.trans hb3.banks.kept) hba.low hba.lowr, hb3, by rw [List.length_set]; omega, fun b hbm => ?_, ⟨by rw [List.length_set]; omega, ?_⟩, ?_⟩
    · rcases List.mem_or_eq_of_mem_set hbm with h | rfl
      · have := hcc b h; omega
      · dsimp only; split <;> omega
    · by_cases hij : i = j
      · subst hij; exact .inl rfl
      · right
        rw [List.getElem_set_ne (fun h => hij h.symm)]
        exact (same i (by omega) hil).1
    · cases hm9 : mayW x n
      · left
        rw [sumB_set Bk.c cs j hjl]
        simp only [Bool.false_eq_true, if_false]
        omega
      · exact .inr (doE_ok hm9)
set_option maxHeartbeats 4000000 in
set_option maxRecDepth 100000 in
theorem boardApart_go {l : List Mv} {v : Value} (k n : Nat) (hk : k ≤ 3) (h1 : 1 ≤ n) (h2 : n ≤ 20) (m : Mv) (a : B) (w : World) (hl : Els w v 9 Mv.cells l) (hn : l.length ≤ 30) : Calls Try.prog 5 #[.int .i64 (k : Int), .int .i64 (n : Int), v, mvv m, av a] w (Ret (.bool true) w) := by
  have HE := Lib.hid hl
  obtain ⟨ad, c, rfl, hc, he⟩ := hl.form
  have g1 : ¬ (30 : Int) < (l.length : Int) := by omega
  have hmay := Lib.hid (fun W => law17may_any k n true (by simp; omega) W)
  obtain ⟨M, hM⟩ : ∃ M, 2 ^ k = M := ⟨_, rfl⟩
  have hrun := Lib.hid (fun W (h : Els W (.slice ad l.length c) 9 Mv.cells l) => run_any k n M hk hM h1 h2 W h hn)
  obtain ⟨i, hi9⟩ : ∃ i, topN a k = i := ⟨_, rfl⟩
  have hiM : i < M := by rw [← hi9, ← hM]; exact topN_lt a k (by omega)
  have hof := Lib.hid (fun W => show Calls Try.prog 10 #[.int .i64 (k : Int), av a] W (Ret (.int .i64 (i : Int)) W) by rw [← hi9]; exact refsof_yes k hk a W)
  have HI := Lib.hid hi9
  obtain ⟨gm, hgm⟩ : ∃ gm, gm = w.heap.size := ⟨_, rfl⟩
  obtain ⟨ga, hga⟩ : ∃ ga, ga = gm + 1 := ⟨_, rfl⟩
  obtain ⟨wa, hwa⟩ : ∃ wa, wa = (w.alloc (.cells #[.int .i64 m.bank, .int .i64 m.w.at_, .bool m.w.s.v, .int .u64 (hi m.w.s.e.x), .int .u64 (lo m.w.s.e.x), .int .u64 (hi m.w.s.e.m), .int .u64 (lo m.w.s.e.m), .int .i64 m.w.s.e.len, .int .i64 m.w.s.e.act] 54)).alloc (.cells #[.int .u64 (hi a), .int .u64 (lo a)] 25) := ⟨_, rfl⟩
  have HKa := Lib.hid (show Kept w wa by rw [hwa]; exact Kept.alloc (Kept.alloc (Kept.refl w) _) _)
  have HBm := Lib.hid (show Blk wa gm 54 #[.int .i64 m.bank, .int .i64 m.w.at_, .bool m.w.s.v, .int .u64 (hi m.w.s.e.x), .int .u64 (lo m.w.s.e.x), .int .u64 (hi m.w.s.e.m), .int .u64 (lo m.w.s.e.m), .int .i64 m.w.s.e.len, .int .i64 m.w.s.e.act] by rw [hwa]; exact (Blk.new' w _ _ hgm).alloc _)
  have HBa := Lib.hid (show Blk wa ga 25 #[.int .u64 (hi a), .int .u64 (lo a)] by rw [hwa]; exact Blk.new' _ _ _ (by rw [hga, hgm]; simp))
  have hM8 : M ≤ 8 := by rw [← hM]; have : k = 0 ∨ k = 1 ∨ k = 2 ∨ k = 3 := by omega
                         rcases this with rfl | rfl | rfl | rfl <;> decide
  clear hl he hn hi9 hM
  go_enter Try.func5, Try.ntmps5
  go_wp2_with fail
  rw [← hwa, ← hgm, ← hga]
  clear hwa hgm hga
  go_wp2_with (first | (go_at_call 7; first | ((refine (calls_in (hmay.out _)).mono ?_); rintro e w1 ⟨rfl, q1, rfl⟩) | ((refine (hmay.out _).mono ?_); rintro e w1 ⟨rfl, q1, rfl⟩)))
  refine (hrun.out _ (HE.out.kept (HKa.out.trans (by simp (maxDischargeDepth := 99))))).mono ?_
  rintro e w1 ⟨s, gb, gp, cap, gw, capw, bs, rs, rfl, hR⟩
  obtain ⟨S, hS⟩ : ∃ S, sumB Bk.c bs = S := ⟨_, rfl⟩
  rw [hS]
  have HR := Lib.hid hR
  have HS := Lib.hid hS
  have HK1 := Lib.hid ((Kept.trans (by simp (maxDischargeDepth := 99)) hR.board.banks.kept : Kept wa w1))
  have hb8 : bs.length ≤ 8 := by rw [hR.len]; omega
  have hil : i < bs.length := by rw [hR.len]; exact hiM
  clear hrun hmay hR hS
  go_wp2_with fail
  refine (bocopy_any HR.out.board hb8).mono ?_
  rintro e w2 ⟨gc, gpc, capc, cs, rfl, hc2, hl2, hsame⟩
  have HC2 := Lib.hid hc2
  have HL2 := Lib.hid hl2
  have HSM := Lib.hid hsame
  obtain ⟨T, hT⟩ : ∃ T, tellS bs[i].l a = T := ⟨_, rfl⟩
  have HT := Lib.hid hT
  have htl := Lib.hid (fun W0 W (h : BoardAt W0 W gb gp (k : Int) n cap bs) => show Calls Try.prog 13 #[.pointer (some ⟨gb, 0, none⟩), av a] W (Ret (.int .i64 T) W) by
    have := botell_any h hk (by omega) a i HI.out hil
    rwa [hT] at this)
  have HK2 := Lib.hid hc2.banks.kept
  obtain ⟨y0, y1, yl⟩ := Blk.two (HBa.out.kept (HK1.out.trans HK2.out))
  have z0' := fun j => (HBm.out.kept (HK1.out.trans HK2.out)).cell j
  have zl := (HBm.out.kept (HK1.out.trans HK2.out)).lt
  clear hc2 hl2 hsame hT
  go_wp2_with fail
  refine (htl.out _ _ (HR.out.board.kept HK2.out)).mono ?_
  rintro e w3' ⟨rfl, q3, rfl⟩
  obtain ⟨w3, hw3⟩ : ∃ w3, w3 = ext w2 q3 := ⟨_, rfl⟩
  have HK3 := Lib.hid (show Kept w2 w3 by rw [hw3]; exact below_ext _ _)
  rw [← hw3]
  clear hw3 y0 y1 yl z0' zl
  have z0' := fun j => (HBm.out.kept (HK1.out.trans (HK2.out.trans HK3.out))).cell j
  have zl := (HBm.out.kept (HK1.out.trans (HK2.out.trans HK3.out))).lt
  go_wp2_with fail
  refine (apart_do (HR.out.board.kept (HK2.out.trans HK3.out)) HR.out.board.under (HC2.out.kept HK3.out) HR.out.board.banks.kept HL2.out hb8 HSM.out HR.out.cnt (sumB_same cs bs HL2.out fun i h h' => (HSM.out i h h').2) m i hil).mono ?_
  rintro e w4 ⟨E, ds, rfl, hb4, hc4, h84, hcn4, ⟨hi4, hor⟩, hsum⟩
  have HK4 := Lib.hid (HK1.out.trans hc4.banks.kept)
  clear z0' zl
  obtain ⟨y0, y1, yl⟩ := Blk.two (HBa.out.kept HK4.out)
  have z0' := fun j => (HBm.out.kept HK4.out).cell j
  have zl := (HBm.out.kept HK4.out).lt
  obtain ⟨D, hD⟩ : ∃ D, sumB Bk.c ds = D := ⟨_, rfl⟩
  obtain ⟨U, hU⟩ : ∃ U, tellS ds[i].l a = U := ⟨_, rfl⟩
  have hor2 : (i : Int) = m.bank ∨ U = T := by
    rcases hor with h | h
    · exact .inl h
    · right; rw [← hU, ← HT.out, h]
  rw [HS.out, hD] at hsum
  have htb := Lib.hid (fun W (h : Kept w4 W) => htl.out _ W (hb4.kept h))
  have htc := Lib.hid (fun W (h : Kept w4 W) => show Calls Try.prog 13 #[.pointer (some ⟨gc, 0, none⟩), av a] W (Ret (.int .i64 U) W) by
    have := botell_any (hc4.kept h) hk (by omega) a i HI.out hi4
    rwa [hU] at this)
  have hwb := Lib.hid (fun W (h : Kept w4 W) => show Calls Try.prog 21 #[.pointer (some ⟨gb, 0, none⟩)] W (Ret (.int .i64 S) W) by
    have := bowrites_any (hb4.kept h) (by omega) (fun b hb => by have := HR.out.cnt b hb; omega)
    rwa [HS.out] at this)
  have hwc := Lib.hid (fun W (h : Kept w4 W) => show Calls Try.prog 21 #[.pointer (some ⟨gc, 0, none⟩)] W (Ret (.int .i64 D) W) by
    have := bowrites_any (hc4.kept h) (by omega) hcn4
    rwa [hD] at this)
  have hkf := Lib.hid (HKa.out.trans HK4.out)
  clear hb4 hc4 hcn4 hor hD hU htl HR HC2 HL2 HSM HT HS
  by_cases hSD : S = D
  · subst hSD
    clear hsum
    go_wp2_with (first | (go_at_call 13; first | ((with_reducible refine (calls_in (htb.out _ (kept_17 _ _))).mono ?_); rintro e w1 ⟨rfl, q1, rfl⟩) | ((with_reducible refine (htb.out _ (kept_17 _ _)).mono ?_); rintro e w1 ⟨rfl, q1, rfl⟩) | ((with_reducible refine (calls_in (htb.out _ (Kept.refl _))).mono ?_); rintro e w1 ⟨rfl, q1, rfl⟩) | ((with_reducible refine (htb.out _ (Kept.refl _)).mono ?_); rintro e w1 ⟨rfl, q1, rfl⟩)) | (go_at_call 21; first | ((with_reducible refine (calls_in (hwb.out _ (kept_17 _ _))).mono ?_); rintro e w1 ⟨rfl, q1, rfl⟩) | ((with_reducible refine (hwb.out _ (kept_17 _ _)).mono ?_); rintro e w1 ⟨rfl, q1, rfl⟩) | ((with_reducible refine (calls_in (hwc.out _ (kept_17 _ _))).mono ?_); rintro e w1 ⟨rfl, q1, rfl⟩) | ((with_reducible refine (hwc.out _ (kept_17 _ _)).mono ?_); rintro e w1 ⟨rfl, q1, rfl⟩)))
    by_cases him : (i : Int) = m.bank
    · have e9 : ((i : Int) == m.bank) = true := by simpa using him
      rw [him] at hof
      clear hor2 him e9
      refine region_ext _ (by first | exact Later.ext _ _ | exact Later.refl _) mixed (by kernel_rfl) ?_
      repeat (go_big_quiet_step ((first | (go_at_call 10; exact calls_in (hof.out _)) | (go_at_call 13; exact calls_in (htc.out _ (kept_17 _ _))) | (go_at_call 8; exact calls_in (awake17_ok _)))))
      refine wpQuiet_nil ?_
      rintro _ ⟨q, rfl⟩
      go_wp2_with fail
      go_ret
      exact Ret.of (rfl) (by simp (maxDischargeDepth := 99) [hkf.out])
    · have e9 : ((i : Int) == m.bank) = false := by simpa using him
      have e8 : decide ((i : Int) = m.bank) = false := decide_eq_false him
      obtain rfl : U = T := by rcases hor2 with h | h; exact absurd h him; exact h
      clear hor2
      refine region_ext _ (by first | exact Later.ext _ _ | exact Later.refl _) mixed (by kernel_rfl) ?_
      repeat (go_big_quiet_step ((first | (go_at_call 10; exact calls_in (hof.out _)) | (go_at_call 13; exact calls_in (htc.out _ (kept_17 _ _))) | (go_at_call 8; exact calls_in (awake17_ok _)))))
      refine wpQuiet_nil ?_
      rintro _ ⟨q, rfl⟩
      go_wp2_with fail
      go_ret
      exact Ret.of (rfl) (by simp (maxDischargeDepth := 99) [hkf.out])
  · have f9 : (S != D) = true := by simpa using hSD
    obtain rfl : E = 0 := by rcases hsum with h | h; exact absurd h hSD; exact h
    clear hsum
    go_wp2_with (first | (go_at_call 13; first | ((with_reducible refine (calls_in (htb.out _ (kept_17 _ _))).mono ?_); rintro e w1 ⟨rfl, q1, rfl⟩) | ((with_reducible refine (htb.out _ (kept_17 _ _)).mono ?_); rintro e w1 ⟨rfl, q1, rfl⟩) | ((with_reducible refine (calls_in (htb.out _ (Kept.refl _))).mono ?_); rintro e w1 ⟨rfl, q1, rfl⟩) | ((with_reducible refine (htb.out _ (Kept.refl _)).mono ?_); rintro e w1 ⟨rfl, q1, rfl⟩)) | (go_at_call 21; first | ((with_reducible refine (calls_in (hwb.out _ (kept_17 _ _))).mono ?_); rintro e w1 ⟨rfl, q1, rfl⟩) | ((with_reducible refine (hwb.out _ (kept_17 _ _)).mono ?_); rintro e w1 ⟨rfl, q1, rfl⟩) | ((with_reducible refine (calls_in (hwc.out _ (kept_17 _ _))).mono ?_); rintro e w1 ⟨rfl, q1, rfl⟩) | ((with_reducible refine (hwc.out _ (kept_17 _ _)).mono ?_); rintro e w1 ⟨rfl, q1, rfl⟩)))
    by_cases him : (i : Int) = m.bank
    · rw [him] at hof
      clear hor2 him
      refine region_ext _ (by first | exact Later.ext _ _ | exact Later.refl _) mixed (by kernel_rfl) ?_
      repeat (go_big_quiet_step ((first | (go_at_call 10; exact calls_in (hof.out _)) | (go_at_call 13; exact calls_in (htc.out _ (kept_17 _ _))) | (go_at_call 8; exact calls_in (awake17_ok _)))))
      refine wpQuiet_nil ?_
      rintro _ ⟨q, rfl⟩
      go_wp2_with fail
      go_ret
      exact Ret.of (rfl) (by simp (maxDischargeDepth := 99) [hkf.out])
    · have e9 : ((i : Int) == m.bank) = false := by simpa using him
      have e8 : decide ((i : Int) = m.bank) = false := decide_eq_false him
      obtain rfl : U = T := by rcases hor2 with h | h; exact absurd h him; exact h
      clear hor2
      refine region_ext _ (by first | exact Later.ext _ _ | exact Later.refl _) mixed (by kernel_rfl) ?_
      repeat (go_big_quiet_step ((first | (go_at_call 10; exact calls_in (hof.out _)) | (go_at_call 13; exact calls_in (htc.out _ (kept_17 _ _))) | (go_at_call 8; exact calls_in (awake17_ok _)))))
      refine wpQuiet_nil ?_
      rintro _ ⟨q, rfl⟩
      go_wp2_with fail
      go_ret
      exact Ret.of (rfl) (by simp (maxDischargeDepth := 99) [hkf.out])
set_option maxHeartbeats 2000000 in
set_option maxRecDepth 100000 in
theorem boardApart_walk (k : Int) (_ : -9223372036854775808 ≤ k) (_ : k ≤ 9223372036854775807) (n : Int) (_ : -9223372036854775808 ≤ n) (_ : n ≤ 9223372036854775807) (l : List Mv) (v : Value) (m : Mv) (a : B) (w : World) (hl : Els w v 9 Mv.cells l) : Calls Try.prog 5 #[.int .i64 k, .int .i64 n, v, mvv m, av a] w (Ret (.bool true) w) := by
  by_cases hn : l.length ≤ 30
  · by_cases hm : 0 ≤ k ∧ k ≤ 3 ∧ 1 ≤ n ∧ n ≤ 20
    · obtain ⟨K, rfl⟩ := Int.eq_ofNat_of_zero_le hm.1
      obtain ⟨N, rfl⟩ := Int.eq_ofNat_of_zero_le (show 0 ≤ n by omega)
      exact boardApart_go K N (by omega) (by omega) (by omega) m a w hl hn
    · obtain ⟨ad, c, rfl, hc, he⟩ := hl.form
      have hmay := Lib.hid (fun W => law17may_any k n false (may17_no' hm) W)
      have g1 : ¬ (30 : Int) < (l.length : Int) := by omega
      clear hl he hn hm
      go_enter Try.func5, Try.ntmps5
      go_wp2_with (first | (go_at_call 7; first | ((refine (calls_in (hmay.out _)).mono ?_); rintro e w1 ⟨rfl, q1, rfl⟩) | ((refine (hmay.out _).mono ?_); rintro e w1 ⟨rfl, q1, rfl⟩)) | (go_at_call 8; first | ((refine (calls_in (awake17_ok _)).mono ?_); rintro e w1 ⟨rfl, q1, rfl⟩) | ((refine (awake17_ok _).mono ?_); rintro e w1 ⟨rfl, q1, rfl⟩)))
      go_ret
      exact Ret.of (rfl) (by simp (maxDischargeDepth := 99))
  · obtain ⟨ad, c, rfl, hc, he⟩ := hl.form
    have g1 : (30 : Int) < (l.length : Int) := by omega
    clear hl he hn
    go_enter Try.func5, Try.ntmps5
    go_wp2_with (first | (go_at_call 8; first | ((refine (calls_in (awake17_ok _)).mono ?_); rintro e w1 ⟨rfl, q1, rfl⟩) | ((refine (awake17_ok _).mono ?_); rintro e w1 ⟨rfl, q1, rfl⟩)))
    go_ret
    exact Ret.of (rfl) (by simp (maxDischargeDepth := 99))
set_option maxRecDepth 100000 in
theorem boardApart_lifted (os : Os) (started : os.Started) (H : Type) (enc : TypeId × Value → H) :
    ReturnsInHanded {} Try.checked os 5 .any (Rows.boardApartSpec.pre6 enc Try.prog Try.f5 Rows.boardApartRow.domain false) (Rows.boardApartSpec.post enc Try.prog Try.f5 false true false false) := by
  refine returnsInHanded_of_change (C := Try.checked) own started (by kernel_rfl) Try.func5
    (ChangeSpec.witness6 (enc := enc) (C := Try.checked) false ⟨#[], #[.int .i64 0, .int .i64 0, .slice none 0 0, .agg #[.int .i64 0, .int .i64 0, .bool false, .int .u64 0, .int .u64 0, .int .u64 0, .int .u64 0, .int .i64 0, .int .i64 0], .agg #[.int .u64 0, .int .u64 0]], []⟩ 8 (by kernel_rfl) (by kernel_rfl) (by kernel_rfl) (by kernel_rfl)) ?_
  intro W base args ds gs before hval0 hW hcnd _
  have hval : ∀ (j : Nat) t v, Try.f5.params[j]? = some t → args[j]? = some v → Value.okWide Try.prog W .any base t v := hval0
  have hW' := hW
  obtain ⟨p, q, hA0, hV, rfl, hfz, hnd⟩ := hW
  obtain ⟨rfl, rfl⟩ := trodVars_none hV
  rw [List.append_nil] at hW'
  have hA : DataW.TrodAll enc Try.prog W 0 (fun _ => true) true Try.f5.params.toList args.toList ds p := hA0
  have hA1 := hA
  rw [Try.params5] at hA1 hval
  obtain ⟨v0, vs0, d0, ds0, p0, q0, hargs, rfl, rfl, h0, r0⟩ := trodAll_cons hA1
  obtain ⟨v1, vs1, d1, ds1, p1, q1, rfl, rfl, rfl, h1, r1⟩ := trodAll_cons r0
  obtain ⟨v2, vs2, d2, ds2, p2, q2, rfl, rfl, rfl, h2, r2⟩ := trodAll_cons r1
  obtain ⟨v3, vs3, d3, ds3, p3, q3, rfl, rfl, rfl, h3, r3⟩ := trodAll_cons r2
  obtain ⟨v4, vs4, d4, ds4, p4, q4, rfl, rfl, rfl, h4, r4⟩ := trodAll_cons r3
  obtain ⟨rfl, rfl, rfl⟩ := trodAll_nil r4
  obtain rfl : args = #[v0, v1, v2, v3, v4] := by cases args; simp_all
  obtain ⟨X0, rfl, rfl, rfl, w0⟩ := open_int Try.underlying3 (hval 0 _ v0 rfl rfl) h0
  obtain ⟨X1, rfl, rfl, rfl, w1⟩ := open_int Try.underlying3 (hval 1 _ v1 rfl rfl) h1
  obtain ⟨L2, E2, _⟩ := open_moves (hval 2 _ v2 rfl rfl) h2
  obtain ⟨X3, rfl, _⟩ := open_move (hval 3 _ v3 rfl rfl) h3
  obtain ⟨X4, rfl⟩ := open_addr (hval 4 _ v4 rfl rfl) h4
  refine (boardApart_walk X0 (wf_i64' w0).1 (wf_i64' w0).2 X1 (wf_i64' w1).1 (wf_i64' w1).2 L2 v2 X3 X4 W E2).mono fun e W' ⟨he, hg⟩ => ?_
  subst he
  exact ⟨_, rfl, post_true laidOut (by rw [Try.params5]; intro t ht; simp at ht; first | (subst ht; exact ⟨by kernel_rfl, of_decide_eq_true (by kernel_rfl)⟩) | (rcases ht with rfl | rfl <;> exact ⟨by kernel_rfl, of_decide_eq_true (by kernel_rfl)⟩) | (rcases ht with rfl | rfl | rfl <;> exact ⟨by kernel_rfl, of_decide_eq_true (by kernel_rfl)⟩) | (rcases ht with rfl | rfl | rfl | rfl <;> exact ⟨by kernel_rfl, of_decide_eq_true (by kernel_rfl)⟩)) rfl hW' hA rfl (trodAll_cons_mk (shut_bool Try.underlying4 _) trodAll_mk0) (Later.kept hg)⟩

theorem boardApart_holds : Rows.BoardApartSaid :=
  OpenClaim.holds_of_wide 5 Try.f5 rfl rfl rfl rfl rfl rfl rfl ⟨rfl, rfl, rfl, rfl, rfl⟩ rfl rfl rfl rfl rfl (by kernel_rfl) Try.func5 (by kernel_rfl)
    (of_decide_eq_true (by kernel_rfl)) (by unfold Func.isWrapper; first | (rw [if_pos (by decide +kernel)]; kernel_rfl) | (rw [if_neg (by decide +kernel)]; exact ⟨rfl, rfl⟩))
    (fun os started H enc _ => boardApart_lifted os started H enc)
#print axioms boardApart_holds
end Go.Proofs.Ytemfocnjlimicaa
