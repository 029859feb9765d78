/- SplitFiner: an address's bank by one bit more is twice that by fewer, or one more. -/
import Derived.Test.YtlmadimnoknheaaRows
import Derived.Test.YtlmadimnoknheaaAwake16
import Derived.Test.YtlmadimnoknheaaOpen
namespace Go.Proofs.Ytlmadimnoknheaa
open Go.RowKit Pg Go.ChangeShapes Go.WideShapes Go.ChangeAt

set_option maxHeartbeats 4000000 in
set_option maxRecDepth 100000 in
theorem splitFiner_go (K : Int) (a : B) (N M : Nat) (b : Bool) (h0 : 0 ≤ K) (h1 : K < 3) (hM : M ≤ 8) (hN : N = M * 2 + b.toNat) (HN : Hid (∀ w, Calls Try.prog 14 #[.int .i64 (K + 1), av a] w (Ret (.int .i64 (N : Int)) w))) (HM : Hid (∀ w, Calls Try.prog 14 #[.int .i64 K, av a] w (Ret (.int .i64 (M : Int)) w)))
    (HB : Hid (∀ w, Calls Try.prog 22 #[av a, .int .i64 K] w (Ret (.bool b) w))) (w : World) : Calls Try.prog 6 #[.int .i64 K, av a] w (Ret (.bool true) w) := by
  have h2 : ¬ K < 0 := by omega
  have h3 : ¬ 3 ≤ K := by omega
  cases b
  · have e1 : ((N : Int) / 2 == (M : Int)) = true := by rw [beq_iff_eq]; simp at hN; omega
    have e2 : ((N : Int) % 2 == (N : Int) - 2 * (M : Int)) = true := by rw [beq_iff_eq]; simp at hN; omega
    have e3 : ((N : Int) % 2 == 1) = false := by rw [beq_eq_false_iff_ne]; simp at hN; omega
    have hN8 : N ≤ 17 := by simp at hN; omega
    clear hN
    go_enter Try.func6, Try.ntmps6
    go_wp2_with (first | (go_at_call 14; first | ((refine (calls_in (HN.out _)).mono ?_); rintro e w1 ⟨rfl, q1, rfl⟩) | ((refine (HN.out _).mono ?_); rintro e w1 ⟨rfl, q1, rfl⟩)))
    refine region_ext _ (by first | exact Later.ext _ _ | exact Later.refl _) mixed (by kernel_rfl) ?_
    repeat (go_big_quiet_step ((first | (go_at_call 14; first | with_reducible exact calls_in (HN.out _) | with_reducible exact calls_in (HM.out _)) | (go_at_call 22; exact calls_in (HB.out _)) | (go_at_call 16; exact calls_in (awake16_any _)))))
    refine wpQuiet_nil ?_
    rintro _ ⟨q, rfl⟩
    go_wp2_with fail
    go_ret
    exact Ret.of (rfl) (by simp (maxDischargeDepth := 99))
  · have e1 : ((N : Int) / 2 == (M : Int)) = true := by rw [beq_iff_eq]; simp at hN; omega
    have e2 : ((N : Int) % 2 == (N : Int) - 2 * (M : Int)) = true := by rw [beq_iff_eq]; simp at hN; omega
    have e3 : ((N : Int) % 2 == 1) = true := by rw [beq_iff_eq]; simp at hN; omega
    have hN8 : N ≤ 17 := by simp at hN; omega
    clear hN
    go_enter Try.func6, Try.ntmps6
    go_wp2_with (first | (go_at_call 14; first | ((refine (calls_in (HN.out _)).mono ?_); rintro e w1 ⟨rfl, q1, rfl⟩) | ((refine (HN.out _).mono ?_); rintro e w1 ⟨rfl, q1, rfl⟩)))
    refine region_ext _ (by first | exact Later.ext _ _ | exact Later.refl _) mixed (by kernel_rfl) ?_
    repeat (go_big_quiet_step ((first | (go_at_call 14; first | with_reducible exact calls_in (HN.out _) | with_reducible exact calls_in (HM.out _)) | (go_at_call 22; exact calls_in (HB.out _)) | (go_at_call 16; exact calls_in (awake16_any _)))))
    refine wpQuiet_nil ?_
    rintro _ ⟨q, rfl⟩
    go_wp2_with fail
    go_ret
    exact Ret.of (rfl) (by simp (maxDischargeDepth := 99))
theorem splitFiner_no (K : Int) (a : B) (h : K < 0 ∨ 3 ≤ K) (w : World) : Calls Try.prog 6 #[.int .i64 K, av a] w (Ret (.bool true) w) := by
  by_cases h1 : K < 0
  · go_enter Try.func6, Try.ntmps6
    go_wp2_with (first | (go_at_call 16; first | ((refine (calls_in (awake16_any _)).mono ?_); rintro e w1 ⟨rfl, q1, rfl⟩) | ((refine (awake16_any _).mono ?_); rintro e w1 ⟨rfl, q1, rfl⟩)))
    go_ret
    exact Ret.of (rfl) (by simp (maxDischargeDepth := 99))
  · have h2 : 3 ≤ K := by omega
    clear h
    go_enter Try.func6, Try.ntmps6
    go_wp2_with (first | (go_at_call 16; first | ((refine (calls_in (awake16_any _)).mono ?_); rintro e w1 ⟨rfl, q1, rfl⟩) | ((refine (awake16_any _).mono ?_); rintro e w1 ⟨rfl, q1, rfl⟩)))
    go_ret
    exact Ret.of (rfl) (by simp (maxDischargeDepth := 99))
theorem splitFiner_walk (k : Int) (_ : -9223372036854775808 ≤ k) (_ : k ≤ 9223372036854775807) (a : B) (w : World) : Calls Try.prog 6 #[.int .i64 k, av a] w (Ret (.bool true) w) := by
  by_cases h : k < 0 ∨ 3 ≤ k
  · exact splitFiner_no k a h w
  · obtain ⟨n, rfl⟩ := Int.eq_ofNat_of_zero_le (show 0 ≤ k by omega)
    have hn : n < 3 := by omega
    refine splitFiner_go n a (topN a (n + 1)) (topN a n) (bt a n) (by omega) (by omega) (Nat.le_trans (Nat.le_of_lt (topN_lt a n (by omega))) (pow_small (by omega))) (topN_succ a n (by omega)) (Lib.hid fun w => ?_) (Lib.hid fun w => sof_yes n (by omega) a w) (Lib.hid fun w => getbit_in a n (by omega) w) w
    exact sof_yes (n + 1) (by omega) a w
set_option maxRecDepth 100000 in
theorem splitFiner_lifted (os : Os) (started : os.Started) (H : Type) (enc : TypeId × Value → H) :
    ReturnsInHanded {} Try.checked os 6 .any (Rows.splitFinerSpec.pre6 enc Try.prog Try.f6 Rows.splitFinerRow.domain false) (Rows.splitFinerSpec.post enc Try.prog Try.f6 false true false false) := by
  refine returnsInHanded_of_change (C := Try.checked) own started (by kernel_rfl) Try.func6
    (ChangeSpec.witness6 (enc := enc) (C := Try.checked) false ⟨#[], #[.int .i64 0, .agg #[.int .u64 0, .int .u64 0]], []⟩ 8 (by kernel_rfl) (by kernel_rfl) (by kernel_rfl) (by kernel_rfl)) ?_
  intro W base args ds gs before hval0 hW hcnd _
  have hval : ∀ (j : Nat) t v, Try.f6.params[j]? = some t → args[j]? = some v → Value.okWide Try.prog W .any base t v := hval0
  have hW' := hW
  obtain ⟨p, q, hA0, hV, rfl, hfz, hnd⟩ := hW
  obtain ⟨rfl, rfl⟩ := trodVars_none hV
  rw [List.append_nil] at hW'
  have hA : DataW.TrodAll enc Try.prog W 0 (fun _ => true) true Try.f6.params.toList args.toList ds p := hA0
  have hA1 := hA
  rw [Try.params6] at hA1 hval
  obtain ⟨v0, vs0, d0, ds0, p0, q0, hargs, rfl, rfl, h0, r0⟩ := trodAll_cons hA1
  obtain ⟨v1, vs1, d1, ds1, p1, q1, rfl, rfl, rfl, h1, r1⟩ := trodAll_cons r0
  obtain ⟨rfl, rfl, rfl⟩ := trodAll_nil r1
  obtain rfl : args = #[v0, v1] := by cases args; simp_all
  obtain ⟨X0, rfl, rfl, rfl, w0⟩ := open_int Try.underlying3 (hval 0 _ v0 rfl rfl) h0
  obtain ⟨X1, rfl⟩ := open_addr (hval 1 _ v1 rfl rfl) h1
  refine (splitFiner_walk X0 (wf_i64' w0).1 (wf_i64' w0).2 X1 W).mono fun e W' ⟨he, hg⟩ => ?_
  subst he
  exact ⟨_, rfl, post_true laidOut (by rw [Try.params6]; intro t ht; simp at ht; first | (subst ht; exact ⟨by kernel_rfl, of_decide_eq_true (by kernel_rfl)⟩) | (rcases ht with rfl | rfl <;> exact ⟨by kernel_rfl, of_decide_eq_true (by kernel_rfl)⟩) | (rcases ht with rfl | rfl | rfl <;> exact ⟨by kernel_rfl, of_decide_eq_true (by kernel_rfl)⟩) | (rcases ht with rfl | rfl | rfl | rfl <;> exact ⟨by kernel_rfl, of_decide_eq_true (by kernel_rfl)⟩)) rfl hW' hA rfl (trodAll_cons_mk (shut_bool Try.underlying4 _) trodAll_mk0) (Later.kept hg)⟩

theorem splitFiner_holds : Rows.SplitFinerSaid :=
  OpenClaim.holds_of_wide 6 Try.f6 rfl rfl rfl rfl rfl rfl rfl ⟨rfl, rfl, rfl, rfl, rfl⟩ rfl rfl rfl rfl rfl (by kernel_rfl) Try.func6 (by kernel_rfl)
    (of_decide_eq_true (by kernel_rfl)) (by unfold Func.isWrapper; first | (rw [if_pos (by decide +kernel)]; kernel_rfl) | (rw [if_neg (by decide +kernel)]; exact ⟨rfl, rfl⟩))
    (fun os started H enc _ => splitFiner_lifted os started H enc)
#print axioms splitFiner_holds
end Go.Proofs.Ytlmadimnoknheaa
