/- WordMerges: two words of one mask that differ in one bit are merged as the document says: to what one of both matches; others are not. -/
import Derived.Test.YtecpgbkmpfijoaaRows
import Derived.Test.YtecpgbkmpfijoaaRef04c
import Derived.Test.YtecpgbkmpfijoaaOpen4
import Derived.Test.YtecpgbkmpfijoaaAwake4
namespace Go.Proofs.Ytecpgbkmpfijoaa
open Go.RowKit Pg Go.ChangeShapes Go.WideShapes Go.ChangeAt

theorem under_refword : Try.prog.underlying 30 = some (.struct (Try.prog.fieldsOf 30)) := by kernel_rfl
theorem stood_refword : Try.prog.stoodInHeld 30 = false := by kernel_rfl
@[go_sem] theorem eq_refword (d : Nat) (x m y n : B) (w : World) : (Op.equalIn (d + 3) 30 (wv x m) (wv y n)).run Try.prog w = .ok (decide (x = y) && decide (m = n)) w := by
  rw [run_equalIn_struct w (d + 2) _ _ _ under_refword stood_refword]
  simp [go_sem]
  by_cases h1 : x = y <;> by_cases h2 : m = n <;> simp [h1, h2]
@[go_sem] theorem eq_refword_zz (d : Nat) (w : World) : (Op.equalIn (d + 3) 30 (.agg #[.int .u64 0, .int .u64 0, .int .u64 0, .int .u64 0]) (.agg #[.int .u64 0, .int .u64 0, .int .u64 0, .int .u64 0])).run Try.prog w = .ok true w := by
  have h := eq_refword d 0#128 0#128 0#128 0#128 w
  rwa [decide_eq_true rfl] at h
theorem law04of_zero (w : World) : Calls Try.prog 12 #[.agg #[.int .u64 0, .int .u64 0, .int .u64 0, .int .u64 0]] w (Ret (.agg #[.int .u64 0, .int .u64 0, .int .u64 0, .int .u64 0]) w) := law04of_any 0#128 0#128 w
set_option maxHeartbeats 4000000 in
set_option maxRecDepth 100000 in
theorem wordMerges_no (x m y n a : B) (h : ¬ (m = n ∧ ones (differB x y m) = 1)) (w : World) : Calls Try.prog 3 #[wv x m, wv y n, av a] w (Ret (.bool true) w) := by
  have H1 := Lib.hid (fun w => show Calls Try.prog 10 #[wv x m, wv y n] w (Ret (.tuple #[wv 0#128 0#128, .bool false]) w) by
    by_cases e : m = n
    · subst e; exact wmerge_no2 (fun h2 => h ⟨rfl, h2⟩) w
    · exact wmerge_no1 e w)
  have H2 := Lib.hid (fun w => show Calls Try.prog 11 #[wv x m, wv y n] w (Ret (.tuple #[wv 0#128 0#128, .bool false]) w) by
    have := refwmerge_any x m y n w
    unfold mergeV at this
    rwa [if_neg h] at this)
  clear h
  go_enter Try.func3, Try.ntmps3
  go_wp2_with (first | (go_at_call 10; first | ((refine (calls_in (H1.out _)).mono ?_); rintro e w1 ⟨rfl, q1, rfl⟩) | ((refine (H1.out _).mono ?_); rintro e w1 ⟨rfl, q1, rfl⟩)))
  refine region_var1 _ (by first | exact Later.ext _ _ | exact Later.refl _) 8 9 23 30 #[.int .u64 0, .int .u64 0, .int .u64 0, .int .u64 0] _ mixed rfl (by kernel_rfl) (by kernel_rfl) (by decide) (fun _ _ => by kernel_rfl) ?_
  apply Exists.intro
  refine And.intro (fun I hI hne => ?_) ?_
  · simp only [Nat.reduceAdd, List.take_succ_cons, List.take_zero, List.drop_succ_cons, List.drop_zero, List.cons_append, List.nil_append]
    repeat (go_big_quiet_step ((first | (go_at_call 12; exact calls_reg hI (law04of_any _ _ _)) | (go_at_call 11; exact calls_reg hI (H2.out _)))))
    exact wpQuiet_nil rfl
  apply Exists.intro
  refine And.intro ⟨rfl, rfl, by simp [Value.oneCell'], by kernel_rfl⟩ ?_
  simp only [Act.put, List.setIfInBounds_toArray, List.set_cons_succ, List.set_cons_zero]
  intro g w2 hk2 hg bu
  have bz := Blk.kept (Blk.new _ _ _) hk2
  have hkw : Kept w w2 := Kept.trans (by simp (maxDischargeDepth := 99)) hk2
  obtain ⟨u0, u1, u2, u3, ul⟩ := Blk.four bu
  obtain ⟨z0, z1, z2, z3, zl⟩ := Blk.four bz
  clear bu bz hk2 hg
  go_wp2_with fail
  refine region_ext _ (Later.refl _) mixed (by kernel_rfl) ?_
  repeat (go_big_quiet_step ((first | (go_at_call 12; first | with_reducible exact calls_in (law04of_zero _) | with_reducible exact calls_in (law04of_any _ _ _)))))
  refine wpQuiet_nil ?_
  rintro _ ⟨q, rfl⟩
  go_wp2_with fail
  refine region_ext _ (by first | exact Later.ext _ _ | exact Later.refl _) mixed (by kernel_rfl) ?_
  repeat (go_big_quiet_step ((first | (go_at_call 15; exact calls_in (awake4_any _)))))
  refine wpQuiet_nil ?_
  rintro _ ⟨q, rfl⟩
  go_wp2_with fail
  go_ret
  exact Ret.of (rfl) (by simp (maxDischargeDepth := 99) [hkw])
set_option maxHeartbeats 4000000 in
set_option maxRecDepth 100000 in
theorem wordMerges_go (x m y a Z M : B) (F : Nat) (hle : F ≤ 128) (m1 m2 : Bool) (H1 : Hid (matchW x m a = m1)) (H2 : Hid (matchW y m a = m2)) (H3 : Hid (matchW Z M a = (m1 || m2)))
    (HC : Hid (∀ w, Calls Try.prog 10 #[wv x m, wv y m] w (Ret (.tuple #[wv Z M, .bool true]) w)))
    (HR : Hid (∀ w, Calls Try.prog 11 #[wv x m, wv y m] w (Ret (.tuple #[wv Z M, .bool true]) w)))
    (F1 : Hid (∀ w, Calls Try.prog 14 #[wv x m] w (Ret (.int .i64 (F : Int)) w)))
    (F2 : Hid (∀ w, Calls Try.prog 14 #[wv Z M] w (Ret (.int .i64 ((F : Int) + 1)) w))) (w : World) : Calls Try.prog 3 #[wv x m, wv y m, av a] w (Ret (.bool true) w) := by
  cases m1 <;> cases m2
  all_goals
    go_enter Try.func3, Try.ntmps3
    go_wp2_with (first | (go_at_call 10; first | ((refine (calls_in (HC.out _)).mono ?_); rintro e w1 ⟨rfl, q1, rfl⟩) | ((refine (HC.out _).mono ?_); rintro e w1 ⟨rfl, q1, rfl⟩)))
    refine region_var1 _ (by first | exact Later.ext _ _ | exact Later.refl _) 8 9 23 30 #[.int .u64 0, .int .u64 0, .int .u64 0, .int .u64 0] _ mixed rfl (by kernel_rfl) (by kernel_rfl) (by decide) (fun _ _ => by kernel_rfl) ?_
    apply Exists.intro
    refine And.intro (fun I hI hne => ?_) ?_
    · simp only [Nat.reduceAdd, List.take_succ_cons, List.take_zero, List.drop_succ_cons, List.drop_zero, List.cons_append, List.nil_append]
      repeat (go_big_quiet_step ((first | (go_at_call 12; exact calls_reg hI (law04of_any _ _ _)) | (go_at_call 11; exact calls_reg hI (HR.out _)))))
      exact wpQuiet_nil rfl
    apply Exists.intro
    refine And.intro ⟨rfl, rfl, by simp [Value.oneCell'], by kernel_rfl⟩ ?_
    simp only [Act.put, List.setIfInBounds_toArray, List.set_cons_succ, List.set_cons_zero]
    intro g w2 hk2 hg bu
    have bx : Blk w2 w.heap.size 26 #[.int .u64 (hi x), .int .u64 (lo x), .int .u64 (hi m), .int .u64 (lo m)] := Blk.kept (Blk.alloc (Blk.ext (Blk.alloc (Blk.alloc (Blk.new _ _ _) _) _) _) _) hk2
    have by_ : Blk w2 (w.heap.size + 1) 26 #[.int .u64 (hi y), .int .u64 (lo y), .int .u64 (hi m), .int .u64 (lo m)] := Blk.kept (Blk.alloc (Blk.ext (Blk.alloc (Blk.new' _ _ _ (by simp)) _) _) _) hk2
    have ba : Blk w2 (w.heap.size + 1 + 1) 24 #[.int .u64 (hi a), .int .u64 (lo a)] := Blk.kept (Blk.alloc (Blk.ext (Blk.new' _ _ _ (by simp)) _) _) hk2
    have bz := Blk.kept (Blk.new _ _ _) hk2
    have hkw : Kept w w2 := Kept.trans (by simp (maxDischargeDepth := 99)) hk2
    obtain ⟨x0, x1, x2, x3, xl⟩ := Blk.four bx
    obtain ⟨y0, y1, y2, y3, yl⟩ := Blk.four by_
    obtain ⟨u0, u1, u2, u3, ul⟩ := Blk.four bu
    obtain ⟨z0, z1, z2, z3, zl⟩ := Blk.four bz
    obtain ⟨a0, a1, al⟩ := Blk.two ba
    clear bx by_ ba bu bz hk2 hg
    go_wp2_with fail
    refine region_ext _ (Later.refl _) mixed (by kernel_rfl) ?_
    repeat (go_big_quiet_step ((first | (go_at_call 12; exact calls_in (law04of_any _ _ _)))))
    refine wpQuiet_nil ?_
    rintro _ ⟨q, rfl⟩
    go_wp2_with fail
    refine region_ext _ (by first | exact Later.ext _ _ | exact Later.refl _) mixed (by kernel_rfl) ?_
    repeat (go_big_quiet_step ((first | (go_at_call 13; first | with_reducible exact calls_in (wmatch_as H1.out _) | with_reducible exact calls_in (wmatch_as H2.out _) | with_reducible exact calls_in (wmatch_as H3.out _)) | (go_at_call 14; first | with_reducible exact calls_in (F1.out _) | with_reducible exact calls_in (F2.out _)) | (go_at_call 15; exact calls_in (awake4_any _)))))
    refine wpQuiet_nil ?_
    rintro _ ⟨q, rfl⟩
    go_wp2_with fail
    go_ret
    exact Ret.of (rfl) (by simp (maxDischargeDepth := 99) [hkw])
theorem wordMerges_yes (x m y a : B) (h : ones (differB x y m) = 1) (w : World) : Calls Try.prog 3 #[wv x m, wv y m, av a] w (Ret (.bool true) w) :=
  wordMerges_go x m y a _ _ (ones (~~~ m)) (ones_le _) _ _ (Lib.hid rfl) (Lib.hid rfl) (Lib.hid (merge_match h a)) (Lib.hid (wmerge_yes h)) (Lib.hid fun w => by
    have := refwmerge_any x m y m w
    unfold mergeV at this
    rwa [if_pos ⟨rfl, h⟩] at this) (Lib.hid (wfree_any x m)) (Lib.hid fun w => by
    have h2 := wfree_any (x &&& (m ^^^ differB x y m)) (m ^^^ differB x y m) w
    rw [merge_free h] at h2
    exact h2) w
theorem wordMerges_walk (x m y n a : B) (w : World) : Calls Try.prog 3 #[wv x m, wv y n, av a] w (Ret (.bool true) w) := by
  by_cases h : m = n ∧ ones (differB x y m) = 1
  · obtain ⟨rfl, h⟩ := h
    exact wordMerges_yes x m y a h w
  · exact wordMerges_no x m y n a h w
set_option maxRecDepth 100000 in
theorem wordMerges_lifted (os : Os) (started : os.Started) (H : Type) (enc : TypeId × Value → H) :
    ReturnsInHanded {} Try.checked os 3 .any (Rows.wordMergesSpec.pre6 enc Try.prog Try.f3 Rows.wordMergesRow.domain false) (Rows.wordMergesSpec.post enc Try.prog Try.f3 false true false false) := by
  refine returnsInHanded_of_change (C := Try.checked) own started (by kernel_rfl) Try.func3
    (ChangeSpec.witness6 (enc := enc) (C := Try.checked) false ⟨#[], #[.agg #[.int .u64 0, .int .u64 0, .int .u64 0, .int .u64 0], .agg #[.int .u64 0, .int .u64 0, .int .u64 0, .int .u64 0], .agg #[.int .u64 0, .int .u64 0]], []⟩ 8 (by kernel_rfl) (by kernel_rfl) (by kernel_rfl) (by kernel_rfl)) ?_
  intro W base args ds gs before hval0 hW hcnd _
  have hval : ∀ (j : Nat) t v, Try.f3.params[j]? = some t → args[j]? = some v → Value.okWide Try.prog W .any base t v := hval0
  have hW' := hW
  obtain ⟨p, q, hA0, hV, rfl, hfz, hnd⟩ := hW
  obtain ⟨rfl, rfl⟩ := trodVars_none hV
  rw [List.append_nil] at hW'
  have hA : DataW.TrodAll enc Try.prog W 0 (fun _ => true) true Try.f3.params.toList args.toList ds p := hA0
  have hA1 := hA
  rw [Try.params3] at hA1 hval
  obtain ⟨v0, vs0, d0, ds0, p0, q0, hargs, rfl, rfl, h0, r0⟩ := trodAll_cons hA1
  obtain ⟨v1, vs1, d1, ds1, p1, q1, rfl, rfl, rfl, h1, r1⟩ := trodAll_cons r0
  obtain ⟨v2, vs2, d2, ds2, p2, q2, rfl, rfl, rfl, h2, r2⟩ := trodAll_cons r1
  obtain ⟨rfl, rfl, rfl⟩ := trodAll_nil r2
  obtain rfl : args = #[v0, v1, v2] := by cases args; simp_all
  obtain ⟨X0, M0, rfl⟩ := open_word (hval 0 _ v0 rfl rfl) h0
  obtain ⟨X1, M1, rfl⟩ := open_word (hval 1 _ v1 rfl rfl) h1
  obtain ⟨X2, rfl⟩ := open_addr (hval 2 _ v2 rfl rfl) h2
  refine (wordMerges_walk X0 M0 X1 M1 X2 W).mono fun e W' ⟨he, hg⟩ => ?_
  subst he
  exact ⟨_, rfl, post_true laidOut (by rw [Try.params3]; intro t ht; simp at ht; first | (subst ht; exact ⟨by kernel_rfl, of_decide_eq_true (by kernel_rfl)⟩) | (rcases ht with rfl | rfl <;> exact ⟨by kernel_rfl, of_decide_eq_true (by kernel_rfl)⟩) | (rcases ht with rfl | rfl | rfl <;> exact ⟨by kernel_rfl, of_decide_eq_true (by kernel_rfl)⟩) | (rcases ht with rfl | rfl | rfl | rfl <;> exact ⟨by kernel_rfl, of_decide_eq_true (by kernel_rfl)⟩)) rfl hW' hA rfl (trodAll_cons_mk (shut_bool Try.underlying4 _) trodAll_mk0) (Later.kept hg)⟩

theorem wordMerges_holds : Rows.WordMergesSaid :=
  OpenClaim.holds_of_wide 3 Try.f3 rfl rfl rfl rfl rfl rfl rfl ⟨rfl, rfl, rfl, rfl, rfl⟩ rfl rfl rfl rfl rfl (by kernel_rfl) Try.func3 (by kernel_rfl)
    (of_decide_eq_true (by kernel_rfl)) (by unfold Func.isWrapper; first | (rw [if_pos (by decide +kernel)]; kernel_rfl) | (rw [if_neg (by decide +kernel)]; exact ⟨rfl, rfl⟩))
    (fun os started H enc _ => wordMerges_lifted os started H enc)
#print axioms wordMerges_holds
end Go.Proofs.Ytecpgbkmpfijoaa
