/- WordOf: the word of any prefix is right, and matches just what it does; it covers another one's just if the prefix does. -/
import Derived.Test.YtecpgbkmpfijoaaRows
import Derived.Test.YtecpgbkmpfijoaaMathW2
import Derived.Test.YtecpgbkmpfijoaaWord
import Derived.Test.YtecpgbkmpfijoaaOpen2
import Derived.Test.YtecpgbkmpfijoaaOpen4
import Derived.Test.YtecpgbkmpfijoaaAwake4
namespace Go.Proofs.Ytecpgbkmpfijoaa
open Go.RowKit Pg Go.ChangeShapes Go.WideShapes Go.ChangeAt

theorem wright_as'' {b : Bool} {x m : B} (h : decide (x = x &&& m) = b) (w : World) : Calls Try.prog 22 #[wv x m] w (Ret (.bool b) w) := by rw [← h]; exact wright_any x m w
set_option maxHeartbeats 4000000 in
set_option maxRecDepth 100000 in
theorem wordOf_go (X : B) (N : Int) (Y : B) (K : Int) (a x m y n : B) (b r1 r2 c e : Bool) (hN : -9223372036854775808 ≤ N) (hN' : N ≤ 9223372036854775807)
    (HR : Hid (decide (x = x &&& m) = true)) (H1 : Hid (matchW x m a = b)) (H2 : Hid (matchB X N a = b)) (R1 : Hid (rightB 128 X N = r1)) (R2 : Hid (rightB 128 Y K = r2))
    (OX : Hid (∀ w, Calls Try.prog 29 #[pv X N] w (Ret (wv x m) w))) (OY : Hid (∀ w, Calls Try.prog 29 #[pv Y K] w (Ret (wv y n) w)))
    (C1 : Hid (coversB X N Y K = c)) (C2 : Hid (r1 = true → r2 = true → coversW x m y n = c)) (E1 : Hid ((!coversB X N Y K && !coversB Y K X N) = !e)) (E2 : Hid (r1 = true → r2 = true → meetW x m y n = e))
    (FR : Hid (r1 = true → ∀ w, Calls Try.prog 14 #[wv x m] w (Ret (.int .i64 (128 - N)) w))) (hB : r1 = true → 0 ≤ N ∧ N ≤ 128) (w : World) : Calls Try.prog 9 #[pv X N, pv Y K, av a] w (Ret (.bool true) w) := by
  cases r1 <;> cases r2
  rotate_left 3
  · have hN2 := hB rfl
    obtain ⟨hB1, hB2⟩ := hN2
    replace C2 := Lib.hid (C2.out rfl rfl)
    replace E2 := Lib.hid (E2.out rfl rfl)
    replace FR := Lib.hid (FR.out rfl)
    clear hB
    cases c <;> cases e
    all_goals
      go_enter Try.func9, Try.ntmps9
      go_wp2_with fail
      refine region_var2 _ (by first | exact Later.ext _ _ | exact Later.refl _) 4 7 10 8 12 26 #[.int .u64 0, .int .u64 0, .int .u64 0, .int .u64 0] 26 #[.int .u64 0, .int .u64 0, .int .u64 0, .int .u64 0] _ mixed rfl (by kernel_rfl) (by kernel_rfl) (by decide) (by decide) (fun _ _ => by kernel_rfl) (fun _ _ => by kernel_rfl) ?_
      apply Exists.intro
      refine And.intro (fun I hI hne => ?_) ?_
      · simp only [Nat.reduceAdd, List.take_succ_cons, List.take_zero, List.drop_succ_cons, List.drop_zero, List.cons_append, List.nil_append]
        repeat (go_big_quiet_step ((first | (go_at_call 29; first | with_reducible exact calls_reg hI (OX.out _) | with_reducible exact calls_reg hI (OY.out _)))))
        exact wpQuiet_nil rfl
      apply Exists.intro
      refine And.intro ⟨rfl, rfl, by simp [Value.oneCell'], by kernel_rfl⟩ ?_
      apply Exists.intro
      refine And.intro ⟨rfl, rfl, by simp [Value.oneCell'], by kernel_rfl⟩ ?_
      simp only [Act.put, List.setIfInBounds_toArray, List.set_cons_succ, List.set_cons_zero]
      intro g g2 w2 hk2 hg hg2 hne bu bv
      have bx : Blk w2 w.heap.size 52 #[.int .u64 (hi X), .int .u64 (lo X), .int .i64 N] := Blk.kept (Blk.alloc (Blk.alloc (Blk.new _ _ _) _) _) hk2
      have by_ : Blk w2 (w.heap.size + 1) 52 #[.int .u64 (hi Y), .int .u64 (lo Y), .int .i64 K] := Blk.kept (Blk.alloc (Blk.new' _ _ _ (by simp)) _) hk2
      have ba : Blk w2 (w.heap.size + 1 + 1) 24 #[.int .u64 (hi a), .int .u64 (lo a)] := Blk.kept (Blk.new' _ _ _ (by simp)) hk2
      have hkw : Kept w w2 := Kept.trans (Kept.alloc (Kept.alloc (Kept.alloc (Kept.refl w) _) _) _) hk2
      obtain ⟨x0, x1, x2, xl⟩ := Blk.three bx
      obtain ⟨y0, y1, y2, yl⟩ := Blk.three by_
      obtain ⟨u0, u1, u2, u3, ul⟩ := Blk.four bu
      obtain ⟨v0, v1, v2, v3, vl⟩ := Blk.four bv
      obtain ⟨a0, a1, al⟩ := Blk.two ba
      clear bx by_ ba bu bv hk2 hg hg2 hne
      go_wp2_with fail
      refine region_ext _ (Later.refl _) mixed (by kernel_rfl) ?_
      repeat (go_big_quiet_step ((first | (go_at_call 22; exact calls_in (wright_as'' HR.out _)) | (go_at_call 13; exact calls_in (wmatch_as H1.out _)) | (go_at_call 30; exact calls_in (match_as H2.out _)))))
      refine wpQuiet_nil ?_
      rintro _ ⟨q, rfl⟩
      go_wp2_with (first | (go_at_call 31; first | ((with_reducible refine (calls_in (right_as R1.out _)).mono ?_); rintro e w1 ⟨rfl, q1, rfl⟩) | ((with_reducible refine (right_as R1.out _).mono ?_); rintro e w1 ⟨rfl, q1, rfl⟩) | ((with_reducible refine (calls_in (right_as R2.out _)).mono ?_); rintro e w1 ⟨rfl, q1, rfl⟩) | ((with_reducible refine (right_as R2.out _).mono ?_); rintro e w1 ⟨rfl, q1, rfl⟩)))
      refine region_ext _ (by first | exact Later.ext _ _ | exact Later.refl _) mixed (by kernel_rfl) ?_
      repeat (go_big_quiet_step ((first | (go_at_call 18; exact calls_in (wcovers_as C2.out _)) | (go_at_call 32; exact calls_in (covers_as C1.out _)) | (go_at_call 20; exact calls_in (wmeet_as E2.out _)) | (go_at_call 33; exact calls_in (apart_as E1.out _)) | (go_at_call 14; exact calls_in (FR.out _)) | (go_at_call 15; exact calls_in (awake4_any _)))))
      refine wpQuiet_nil ?_
      rintro _ ⟨q, rfl⟩
      go_wp2_with fail
      go_ret
      exact Ret.of (rfl) (by simp (maxDischargeDepth := 99) [hkw])
  all_goals
    clear hB hN hN'
    go_enter Try.func9, Try.ntmps9
    go_wp2_with fail
    refine region_var2 _ (by first | exact Later.ext _ _ | exact Later.refl _) 4 7 10 8 12 26 #[.int .u64 0, .int .u64 0, .int .u64 0, .int .u64 0] 26 #[.int .u64 0, .int .u64 0, .int .u64 0, .int .u64 0] _ mixed rfl (by kernel_rfl) (by kernel_rfl) (by decide) (by decide) (fun _ _ => by kernel_rfl) (fun _ _ => by kernel_rfl) ?_
    apply Exists.intro
    refine And.intro (fun I hI hne => ?_) ?_
    · simp only [Nat.reduceAdd, List.take_succ_cons, List.take_zero, List.drop_succ_cons, List.drop_zero, List.cons_append, List.nil_append]
      repeat (go_big_quiet_step ((first | (go_at_call 29; first | with_reducible exact calls_reg hI (OX.out _) | with_reducible exact calls_reg hI (OY.out _)))))
      exact wpQuiet_nil rfl
    apply Exists.intro
    refine And.intro ⟨rfl, rfl, by simp [Value.oneCell'], by kernel_rfl⟩ ?_
    apply Exists.intro
    refine And.intro ⟨rfl, rfl, by simp [Value.oneCell'], by kernel_rfl⟩ ?_
    simp only [Act.put, List.setIfInBounds_toArray, List.set_cons_succ, List.set_cons_zero]
    intro g g2 w2 hk2 hg hg2 hne bu bv
    have bx : Blk w2 w.heap.size 52 #[.int .u64 (hi X), .int .u64 (lo X), .int .i64 N] := Blk.kept (Blk.alloc (Blk.alloc (Blk.new _ _ _) _) _) hk2
    have by_ : Blk w2 (w.heap.size + 1) 52 #[.int .u64 (hi Y), .int .u64 (lo Y), .int .i64 K] := Blk.kept (Blk.alloc (Blk.new' _ _ _ (by simp)) _) hk2
    have ba : Blk w2 (w.heap.size + 1 + 1) 24 #[.int .u64 (hi a), .int .u64 (lo a)] := Blk.kept (Blk.new' _ _ _ (by simp)) hk2
    have hkw : Kept w w2 := Kept.trans (Kept.alloc (Kept.alloc (Kept.alloc (Kept.refl w) _) _) _) hk2
    obtain ⟨x0, x1, x2, xl⟩ := Blk.three bx
    obtain ⟨y0, y1, y2, yl⟩ := Blk.three by_
    obtain ⟨u0, u1, u2, u3, ul⟩ := Blk.four bu
    obtain ⟨v0, v1, v2, v3, vl⟩ := Blk.four bv
    obtain ⟨a0, a1, al⟩ := Blk.two ba
    clear bx by_ ba bu bv hk2 hg hg2 hne
    go_wp2_with fail
    refine region_ext _ (Later.refl _) mixed (by kernel_rfl) ?_
    repeat (go_big_quiet_step ((first | (go_at_call 22; exact calls_in (wright_as'' HR.out _)) | (go_at_call 13; exact calls_in (wmatch_as H1.out _)) | (go_at_call 30; exact calls_in (match_as H2.out _)))))
    refine wpQuiet_nil ?_
    rintro _ ⟨q, rfl⟩
    go_wp2_with (first | (go_at_call 31; first | ((with_reducible refine (calls_in (right_as R1.out _)).mono ?_); rintro e w1 ⟨rfl, q1, rfl⟩) | ((with_reducible refine (right_as R1.out _).mono ?_); rintro e w1 ⟨rfl, q1, rfl⟩) | ((with_reducible refine (calls_in (right_as R2.out _)).mono ?_); rintro e w1 ⟨rfl, q1, rfl⟩) | ((with_reducible refine (right_as R2.out _).mono ?_); rintro e w1 ⟨rfl, q1, rfl⟩)) | (go_at_call 15; first | ((refine (calls_in (awake4_any _)).mono ?_); rintro e w1 ⟨rfl, q1, rfl⟩) | ((refine (awake4_any _).mono ?_); rintro e w1 ⟨rfl, q1, rfl⟩)))
    go_ret
    exact Ret.of (rfl) (by simp (maxDischargeDepth := 99) [hkw])
theorem wordOf_walk (X : B) (N : Int) (hN : -9223372036854775808 ≤ N) (hN' : N ≤ 9223372036854775807) (Y : B) (K : Int) (_ : -9223372036854775808 ≤ K) (_ : K ≤ 9223372036854775807) (a : B) (w : World) : Calls Try.prog 9 #[pv X N, pv Y K, av a] w (Ret (.bool true) w) := by
  have hb : rightB 128 X N = true → 0 ≤ N ∧ N ≤ 128 := fun h => ⟨(rightB_parts h).2.1, (rightB_parts h).2.2.1⟩
  refine wordOf_go X N Y K a (X &&& maskB (near N)) (maskB (near N)) (Y &&& maskB (near K)) (maskB (near K)) (matchB X N a) _ _ (coversB X N Y K) (coversB X N Y K || coversB Y K X N) hN hN'
    (Lib.hid (decide_eq_true (right_of X (near N)))) (Lib.hid (matchW_of X N a)) (Lib.hid rfl) (Lib.hid rfl) (Lib.hid rfl) (Lib.hid (wof_any X N)) (Lib.hid (wof_any Y K)) (Lib.hid rfl) (Lib.hid fun h1 h2 => coversW_of h1 h2)
    (Lib.hid (by cases coversB X N Y K <;> cases coversB Y K X N <;> rfl)) (Lib.hid fun h1 h2 => meetW_of h1 h2) (Lib.hid fun h w => ?_) hb w
  have h1 := wfree_any (X &&& maskB (near N)) (maskB (near N)) w
  rw [free_of] at h1
  have h2 := hb h
  rwa [show ((128 - near N : Nat) : Int) = 128 - N by have := near_of h2.1 h2.2; have := near_le N; omega] at h1
set_option maxRecDepth 100000 in
theorem wordOf_lifted (os : Os) (started : os.Started) (H : Type) (enc : TypeId × Value → H) :
    ReturnsInHanded {} Try.checked os 9 .any (Rows.wordOfSpec.pre6 enc Try.prog Try.f9 Rows.wordOfRow.domain false) (Rows.wordOfSpec.post enc Try.prog Try.f9 false true false false) := by
  refine returnsInHanded_of_change (C := Try.checked) own started (by kernel_rfl) Try.func9
    (ChangeSpec.witness6 (enc := enc) (C := Try.checked) false ⟨#[], #[.agg #[.int .u64 0, .int .u64 0, .int .i64 0], .agg #[.int .u64 0, .int .u64 0, .int .i64 0], .agg #[.int .u64 0, .int .u64 0]], []⟩ 8 (by kernel_rfl) (by kernel_rfl) (by kernel_rfl) (by kernel_rfl)) ?_
  intro W base args ds gs before hval0 hW hcnd _
  have hval : ∀ (j : Nat) t v, Try.f9.params[j]? = some t → args[j]? = some v → Value.okWide Try.prog W .any base t v := hval0
  have hW' := hW
  obtain ⟨p, q, hA0, hV, rfl, hfz, hnd⟩ := hW
  obtain ⟨rfl, rfl⟩ := trodVars_none hV
  rw [List.append_nil] at hW'
  have hA : DataW.TrodAll enc Try.prog W 0 (fun _ => true) true Try.f9.params.toList args.toList ds p := hA0
  have hA1 := hA
  rw [Try.params9] at hA1 hval
  obtain ⟨v0, vs0, d0, ds0, p0, q0, hargs, rfl, rfl, h0, r0⟩ := trodAll_cons hA1
  obtain ⟨v1, vs1, d1, ds1, p1, q1, rfl, rfl, rfl, h1, r1⟩ := trodAll_cons r0
  obtain ⟨v2, vs2, d2, ds2, p2, q2, rfl, rfl, rfl, h2, r2⟩ := trodAll_cons r1
  obtain ⟨rfl, rfl, rfl⟩ := trodAll_nil r2
  obtain rfl : args = #[v0, v1, v2] := by cases args; simp_all
  obtain ⟨X0, N0, rfl, a0, b0⟩ := open_prefix (hval 0 _ v0 rfl rfl) h0
  obtain ⟨X1, N1, rfl, a1, b1⟩ := open_prefix (hval 1 _ v1 rfl rfl) h1
  obtain ⟨X2, rfl⟩ := open_addr (hval 2 _ v2 rfl rfl) h2
  refine (wordOf_walk X0 N0 a0 b0 X1 N1 a1 b1 X2 W).mono fun e W' ⟨he, hg⟩ => ?_
  subst he
  exact ⟨_, rfl, post_true laidOut (by rw [Try.params9]; intro t ht; simp at ht; first | (subst ht; exact ⟨by kernel_rfl, of_decide_eq_true (by kernel_rfl)⟩) | (rcases ht with rfl | rfl <;> exact ⟨by kernel_rfl, of_decide_eq_true (by kernel_rfl)⟩) | (rcases ht with rfl | rfl | rfl <;> exact ⟨by kernel_rfl, of_decide_eq_true (by kernel_rfl)⟩) | (rcases ht with rfl | rfl | rfl | rfl <;> exact ⟨by kernel_rfl, of_decide_eq_true (by kernel_rfl)⟩)) rfl hW' hA rfl (trodAll_cons_mk (shut_bool Try.underlying4 _) trodAll_mk0) (Later.kept hg)⟩

theorem wordOf_holds : Rows.WordOfSaid :=
  OpenClaim.holds_of_wide 9 Try.f9 rfl rfl rfl rfl rfl rfl rfl ⟨rfl, rfl, rfl, rfl, rfl⟩ rfl rfl rfl rfl rfl (by kernel_rfl) Try.func9 (by kernel_rfl)
    (of_decide_eq_true (by kernel_rfl)) (by unfold Func.isWrapper; first | (rw [if_pos (by decide +kernel)]; kernel_rfl) | (rw [if_neg (by decide +kernel)]; exact ⟨rfl, rfl⟩))
    (fun os started H enc _ => wordOf_lifted os started H enc)
#print axioms wordOf_holds
end Go.Proofs.Ytecpgbkmpfijoaa
