/- WordFree: a word with as many bits free as it says matches an address with any of these turned, and with none of the others. -/
import Derived.Test.YtecpgbkmpfijoaaRows
import Derived.Test.YtecpgbkmpfijoaaMathW2
import Derived.Test.YtecpgbkmpfijoaaWord2
import Derived.Test.YtecpgbkmpfijoaaOpen4
import Derived.Test.YtecpgbkmpfijoaaAwake4
namespace Go.Proofs.Ytecpgbkmpfijoaa
open Go.RowKit Pg Go.ChangeShapes Go.WideShapes Go.ChangeAt

set_option maxHeartbeats 4000000 in
set_option maxRecDepth 100000 in
theorem wordFree_no (x m : B) (n k : Int) (h : k < 0 ∨ 127 < k) (w : World) : Calls Try.prog 8 #[wv x m, .int .i64 n, .int .i64 k] w (Ret (.bool true) w) := by
  have HM := Lib.hid (some_match x m n)
  rcases h with h | h
  · go_enter Try.func8, Try.ntmps8
    go_wp2_with (first | (go_at_call 24; first | ((refine (calls_in (wsome_any _ _ _ _)).mono ?_); rintro e w1 ⟨rfl, q1, rfl⟩) | ((refine (wsome_any _ _ _ _).mono ?_); rintro e w1 ⟨rfl, q1, rfl⟩)) | (go_at_call 13; first | ((refine (calls_in (wmatch_as HM.out _)).mono ?_); rintro e w1 ⟨rfl, q1, rfl⟩) | ((refine (wmatch_as HM.out _).mono ?_); rintro e w1 ⟨rfl, q1, rfl⟩)) | (go_at_call 15; first | ((refine (calls_in (awake4_any _)).mono ?_); rintro e w1 ⟨rfl, q1, rfl⟩) | ((refine (awake4_any _).mono ?_); rintro e w1 ⟨rfl, q1, rfl⟩)))
    go_ret
    exact Ret.of (rfl) (by simp (maxDischargeDepth := 99))
  · have h2 : ¬ k < 0 := by omega
    go_enter Try.func8, Try.ntmps8
    go_wp2_with (first | (go_at_call 24; first | ((refine (calls_in (wsome_any _ _ _ _)).mono ?_); rintro e w1 ⟨rfl, q1, rfl⟩) | ((refine (wsome_any _ _ _ _).mono ?_); rintro e w1 ⟨rfl, q1, rfl⟩)) | (go_at_call 13; first | ((refine (calls_in (wmatch_as HM.out _)).mono ?_); rintro e w1 ⟨rfl, q1, rfl⟩) | ((refine (wmatch_as HM.out _).mono ?_); rintro e w1 ⟨rfl, q1, rfl⟩)) | (go_at_call 15; first | ((refine (calls_in (awake4_any _)).mono ?_); rintro e w1 ⟨rfl, q1, rfl⟩) | ((refine (awake4_any _).mono ?_); rintro e w1 ⟨rfl, q1, rfl⟩)))
    go_ret
    exact Ret.of (rfl) (by simp (maxDischargeDepth := 99))
set_option maxHeartbeats 4000000 in
set_option maxRecDepth 100000 in
theorem wordFree_go (x m A C : B) (n : Int) (k : Nat) (hk : k < 128) (F : Nat) (hF : F ≤ 128) (b c : Bool) (HS : Hid (∀ w, Calls Try.prog 24 #[wv x m, .int .i64 n] w (Ret (av A) w))) (HM : Hid (matchW x m C = !b)) (HB : Hid (∀ w, Calls Try.prog 27 #[av m, .int .i64 (k : Int)] w (Ret (.bool b) w))) (HA : Hid (∀ w, Calls Try.prog 27 #[av A, .int .i64 (k : Int)] w (Ret (.bool c) w)))
    (HW : Hid (∀ w, Calls Try.prog 26 #[av A, .int .i64 (k : Int), .bool (!c)] w (Ret (av C) w))) (H1 : Hid (∀ w, Calls Try.prog 14 #[wv x m] w (Ret (.int .i64 (128 - (F : Int))) w))) (H2 : Hid (∀ w, Calls Try.prog 28 #[av m] w (Ret (.int .i64 (F : Int)) w))) (w : World) : Calls Try.prog 8 #[wv x m, .int .i64 n, .int .i64 k] w (Ret (.bool true) w) := by
  cases b
  all_goals
    go_enter Try.func8, Try.ntmps8
    go_wp2_with (first | (go_at_call 24; first | ((refine (calls_in (HS.out _)).mono ?_); rintro e w1 ⟨rfl, q1, rfl⟩) | ((refine (HS.out _).mono ?_); rintro e w1 ⟨rfl, q1, rfl⟩)))
    refine region_var1 _ (by first | exact Later.ext _ _ | exact Later.refl _) 7 8 30 24 #[.int .u64 0, .int .u64 0] _ mixed rfl (by kernel_rfl) (by kernel_rfl) (by decide) (fun _ _ => by kernel_rfl) ?_
    apply Exists.intro
    refine And.intro (fun I hI hne => ?_) ?_
    · simp only [Nat.reduceAdd, List.take_succ_cons, List.take_zero, List.drop_succ_cons, List.drop_zero, List.cons_append, List.nil_append]
      repeat (go_big_quiet_step ((first | (go_at_call 27; exact calls_reg hI (HA.out _)) | (go_at_call 26; exact calls_reg hI (HW.out _)))))
      exact wpQuiet_nil rfl
    apply Exists.intro
    refine And.intro ⟨rfl, rfl, by simp [Value.oneCell'], by kernel_rfl⟩ ?_
    simp only [Act.put, List.setIfInBounds_toArray, List.set_cons_succ, List.set_cons_zero]
    intro g w2 hk2 hg bu
    have bx : Blk w2 w.heap.size 26 #[.int .u64 (hi x), .int .u64 (lo x), .int .u64 (hi m), .int .u64 (lo m)] := Blk.kept (Blk.alloc (Blk.ext (Blk.new _ _ _) _) _) hk2
    have hkw : Kept w w2 := Kept.trans (by simp (maxDischargeDepth := 99)) hk2
    obtain ⟨x0, x1, x2, x3, xl⟩ := Blk.four bx
    obtain ⟨u0, u1, ul⟩ := Blk.two bu
    clear bx bu hk2 hg
    go_wp2_with fail
    refine region_ext _ (Later.refl _) mixed (by kernel_rfl) ?_
    repeat (go_big_quiet_step ((first | (go_at_call 13; exact calls_in (wmatch_as HM.out _)) | (go_at_call 27; exact calls_in (HB.out _)) | (go_at_call 14; exact calls_in (H1.out _)) | (go_at_call 28; exact calls_in (H2.out _)) | (go_at_call 15; exact calls_in (awake4_any _)))))
    refine wpQuiet_nil ?_
    rintro _ ⟨q, rfl⟩
    go_wp2_with fail
    go_ret
    exact Ret.of (rfl) (by simp (maxDischargeDepth := 99) [hkw])
theorem wordFree_walk (x m : B) (n : Int) (_ : -9223372036854775808 ≤ n) (_ : n ≤ 9223372036854775807) (k : Int) (_ : -9223372036854775808 ≤ k) (_ : k ≤ 9223372036854775807) (w : World) : Calls Try.prog 8 #[wv x m, .int .i64 n, .int .i64 k] w (Ret (.bool true) w) := by
  by_cases h : k < 0 ∨ 127 < k
  · exact wordFree_no x m n k h w
  · obtain ⟨k, rfl⟩ := Int.eq_ofNat_of_zero_le (show 0 ≤ k by omega)
    have hk : k < 128 := by omega
    refine wordFree_go x m (someB x m n) (setB (someB x m n) k (!bt (someB x m n) k)) n k hk (ones m) (ones_le m) (bt m k) (bt (someB x m n) k) (Lib.hid (wsome_any x m n)) (Lib.hid (turned_match (some_match x m n) k hk)) (Lib.hid (getbit_in m k hk)) (Lib.hid (getbit_in _ k hk)) (Lib.hid (with_in _ k hk _)) (Lib.hid fun w => ?_) (Lib.hid (ones_any m)) w
    have h1 := wfree_any x m w
    rwa [show (ones (~~~ m) : Int) = 128 - (ones m : Int) by have := free_ones m; omega] at h1
set_option maxRecDepth 100000 in
theorem wordFree_lifted (os : Os) (started : os.Started) (H : Type) (enc : TypeId × Value → H) :
    ReturnsInHanded {} Try.checked os 8 .any (Rows.wordFreeSpec.pre6 enc Try.prog Try.f8 Rows.wordFreeRow.domain false) (Rows.wordFreeSpec.post enc Try.prog Try.f8 false true false false) := by
  refine returnsInHanded_of_change (C := Try.checked) own started (by kernel_rfl) Try.func8
    (ChangeSpec.witness6 (enc := enc) (C := Try.checked) false ⟨#[], #[.agg #[.int .u64 0, .int .u64 0, .int .u64 0, .int .u64 0], .int .i64 0, .int .i64 0], []⟩ 8 (by kernel_rfl) (by kernel_rfl) (by kernel_rfl) (by kernel_rfl)) ?_
  intro W base args ds gs before hval0 hW hcnd _
  have hval : ∀ (j : Nat) t v, Try.f8.params[j]? = some t → args[j]? = some v → Value.okWide Try.prog W .any base t v := hval0
  have hW' := hW
  obtain ⟨p, q, hA0, hV, rfl, hfz, hnd⟩ := hW
  obtain ⟨rfl, rfl⟩ := trodVars_none hV
  rw [List.append_nil] at hW'
  have hA : DataW.TrodAll enc Try.prog W 0 (fun _ => true) true Try.f8.params.toList args.toList ds p := hA0
  have hA1 := hA
  rw [Try.params8] at hA1 hval
  obtain ⟨v0, vs0, d0, ds0, p0, q0, hargs, rfl, rfl, h0, r0⟩ := trodAll_cons hA1
  obtain ⟨v1, vs1, d1, ds1, p1, q1, rfl, rfl, rfl, h1, r1⟩ := trodAll_cons r0
  obtain ⟨v2, vs2, d2, ds2, p2, q2, rfl, rfl, rfl, h2, r2⟩ := trodAll_cons r1
  obtain ⟨rfl, rfl, rfl⟩ := trodAll_nil r2
  obtain rfl : args = #[v0, v1, v2] := by cases args; simp_all
  obtain ⟨X0, M0, rfl⟩ := open_word (hval 0 _ v0 rfl rfl) h0
  obtain ⟨X1, rfl, rfl, rfl, w1⟩ := open_int Try.underlying3 (hval 1 _ v1 rfl rfl) h1
  obtain ⟨X2, rfl, rfl, rfl, w2⟩ := open_int Try.underlying3 (hval 2 _ v2 rfl rfl) h2
  refine (wordFree_walk X0 M0 X1 (wf_i64' w1).1 (wf_i64' w1).2 X2 (wf_i64' w2).1 (wf_i64' w2).2 W).mono fun e W' ⟨he, hg⟩ => ?_
  subst he
  exact ⟨_, rfl, post_true laidOut (by rw [Try.params8]; intro t ht; simp at ht; first | (subst ht; exact ⟨by kernel_rfl, of_decide_eq_true (by kernel_rfl)⟩) | (rcases ht with rfl | rfl <;> exact ⟨by kernel_rfl, of_decide_eq_true (by kernel_rfl)⟩) | (rcases ht with rfl | rfl | rfl <;> exact ⟨by kernel_rfl, of_decide_eq_true (by kernel_rfl)⟩) | (rcases ht with rfl | rfl | rfl | rfl <;> exact ⟨by kernel_rfl, of_decide_eq_true (by kernel_rfl)⟩)) rfl hW' hA rfl (trodAll_cons_mk (shut_bool Try.underlying4 _) trodAll_mk0) (Later.kept hg)⟩

theorem wordFree_holds : Rows.WordFreeSaid :=
  OpenClaim.holds_of_wide 8 Try.f8 rfl rfl rfl rfl rfl rfl rfl ⟨rfl, rfl, rfl, rfl, rfl⟩ rfl rfl rfl rfl rfl (by kernel_rfl) Try.func8 (by kernel_rfl)
    (of_decide_eq_true (by kernel_rfl)) (by unfold Func.isWrapper; first | (rw [if_pos (by decide +kernel)]; kernel_rfl) | (rw [if_neg (by decide +kernel)]; exact ⟨rfl, rfl⟩))
    (fun os started H enc _ => wordFree_lifted os started H enc)
#print axioms wordFree_holds
end Go.Proofs.Ytecpgbkmpfijoaa
