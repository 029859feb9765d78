/- WordSome: an address is told that a word matches, with a number's bits where it is free; all of a few free bits are told by some number. -/
import Derived.Test.YtecpgbkmpfijoaaRows
import Derived.Test.YtecpgbkmpfijoaaMathW2
import Derived.Test.YtecpgbkmpfijoaaRef04b
import Derived.Test.YtecpgbkmpfijoaaOpen4
import Derived.Test.YtecpgbkmpfijoaaAwake4
namespace Go.Proofs.Ytecpgbkmpfijoaa
open Go.RowKit Pg Go.ChangeShapes Go.WideShapes Go.ChangeAt

set_option maxHeartbeats 4000000 in
set_option maxRecDepth 100000 in
theorem wordSome_no (x m a : B) (n : Int) (h : 8 < ones (~~~ m) ∨ matchW x m a = false) (w : World) : Calls Try.prog 7 #[wv x m, .int .i64 n, av a] w (Ret (.bool true) w) := by
  have HM := Lib.hid (some_match x m n)
  obtain ⟨F, hF⟩ : ∃ F, ones (~~~ m) = F := ⟨_, rfl⟩
  have hle := ones_le (~~~ m)
  rw [hF] at h hle
  have HF := Lib.hid (fun w => (by rw [← hF]; exact wfree_any x m w : Calls Try.prog 14 #[wv x m] w (Ret (.int .i64 (F : Int)) w)))
  clear hF
  by_cases h8 : 8 < F
  · clear h
    go_enter Try.func7, Try.ntmps7
    go_wp2_with (first | (go_at_call 24; first | ((refine (calls_in (wsome_any _ _ _ _)).mono ?_); rintro e w1 ⟨rfl, q1, rfl⟩) | ((refine (wsome_any _ _ _ _).mono ?_); rintro e w1 ⟨rfl, q1, rfl⟩)))
    refine region_ext _ (by first | exact Later.ext _ _ | exact Later.refl _) mixed (by kernel_rfl) ?_
    repeat (go_big_quiet_step ((first | (go_at_call 12; exact calls_in (law04of_any _ _ _)) | (go_at_call 25; exact calls_in (refwsome_any _ _ _ _)) | (go_at_call 13; exact calls_in (wmatch_as HM.out _)))))
    refine wpQuiet_nil ?_
    rintro _ ⟨q, rfl⟩
    go_wp2_with (first | (go_at_call 14; first | ((refine (calls_in (HF.out _)).mono ?_); rintro e w1 ⟨rfl, q1, rfl⟩) | ((refine (HF.out _).mono ?_); rintro e w1 ⟨rfl, q1, rfl⟩)) | (go_at_call 15; first | ((refine (calls_in (awake4_any _)).mono ?_); rintro e w1 ⟨rfl, q1, rfl⟩) | ((refine (awake4_any _).mono ?_); rintro e w1 ⟨rfl, q1, rfl⟩)))
    go_ret
    exact Ret.of (rfl) (by simp (maxDischargeDepth := 99))
  · have H1 := Lib.hid (h.resolve_left h8)
    clear h
    go_enter Try.func7, Try.ntmps7
    go_wp2_with (first | (go_at_call 24; first | ((refine (calls_in (wsome_any _ _ _ _)).mono ?_); rintro e w1 ⟨rfl, q1, rfl⟩) | ((refine (wsome_any _ _ _ _).mono ?_); rintro e w1 ⟨rfl, q1, rfl⟩)))
    refine region_ext _ (by first | exact Later.ext _ _ | exact Later.refl _) mixed (by kernel_rfl) ?_
    repeat (go_big_quiet_step ((first | (go_at_call 12; exact calls_in (law04of_any _ _ _)) | (go_at_call 25; exact calls_in (refwsome_any _ _ _ _)) | (go_at_call 13; exact calls_in (wmatch_as HM.out _)))))
    refine wpQuiet_nil ?_
    rintro _ ⟨q, rfl⟩
    go_wp2_with (first | (go_at_call 14; first | ((refine (calls_in (HF.out _)).mono ?_); rintro e w1 ⟨rfl, q1, rfl⟩) | ((refine (HF.out _).mono ?_); rintro e w1 ⟨rfl, q1, rfl⟩)) | (go_at_call 13; first | ((refine (calls_in (wmatch_as H1.out _)).mono ?_); rintro e w1 ⟨rfl, q1, rfl⟩) | ((refine (wmatch_as H1.out _).mono ?_); rintro e w1 ⟨rfl, q1, rfl⟩)) | (go_at_call 15; first | ((refine (calls_in (awake4_any _)).mono ?_); rintro e w1 ⟨rfl, q1, rfl⟩) | ((refine (awake4_any _).mono ?_); rintro e w1 ⟨rfl, q1, rfl⟩)))
    go_ret
    exact Ret.of (rfl) (by simp (maxDischargeDepth := 99))
set_option maxHeartbeats 4000000 in
set_option maxRecDepth 100000 in
theorem wordSome_yes (x m a : B) (n : Int) (h8 : ¬ 8 < ones (~~~ m)) (h : matchW x m a = true) (w : World) : Calls Try.prog 7 #[wv x m, .int .i64 n, av a] w (Ret (.bool true) w) := by
  have HM := Lib.hid (some_match x m n)
  obtain ⟨r, hr, hra⟩ := some_all x m a (by omega) h
  have HE := Lib.hid (show someB x m (r : Int) = a by rw [someB_nat x m r hr]; exact hra)
  obtain ⟨F, hF⟩ : ∃ F, ones (~~~ m) = F := ⟨_, rfl⟩
  rw [hF] at h8
  have HF := Lib.hid (fun w => (by rw [← hF]; exact wfree_any x m w : Calls Try.prog 14 #[wv x m] w (Ret (.int .i64 (F : Int)) w)))
  have H1 := Lib.hid h
  clear hF h hra
  go_enter Try.func7, Try.ntmps7
  go_wp2_with (first | (go_at_call 24; first | ((refine (calls_in (wsome_any _ _ _ _)).mono ?_); rintro e w1 ⟨rfl, q1, rfl⟩) | ((refine (wsome_any _ _ _ _).mono ?_); rintro e w1 ⟨rfl, q1, rfl⟩)))
  refine region_ext _ (by first | exact Later.ext _ _ | exact Later.refl _) mixed (by kernel_rfl) ?_
  repeat (go_big_quiet_step ((first | (go_at_call 12; exact calls_in (law04of_any _ _ _)) | (go_at_call 25; exact calls_in (refwsome_any _ _ _ _)) | (go_at_call 13; exact calls_in (wmatch_as HM.out _)))))
  refine wpQuiet_nil ?_
  rintro _ ⟨q, rfl⟩
  go_wp2_with (first | (go_at_call 14; first | ((refine (calls_in (HF.out _)).mono ?_); rintro e w1 ⟨rfl, q1, rfl⟩) | ((refine (HF.out _).mono ?_); rintro e w1 ⟨rfl, q1, rfl⟩)) | (go_at_call 13; first | ((refine (calls_in (wmatch_as H1.out _)).mono ?_); rintro e w1 ⟨rfl, q1, rfl⟩) | ((refine (wmatch_as H1.out _).mono ?_); rintro e w1 ⟨rfl, q1, rfl⟩)))
  go_loopw [8, 34] (fun _ vk wr => ∃ k : Nat, k ≤ r ∧ vk = .int .i64 k ∧ Kept w wr ∧ Blk wr w.heap.size 26 #[.int .u64 (hi x), .int .u64 (lo x), .int .u64 (hi m), .int .u64 (lo m)] ∧ Blk wr (w.heap.size + 1) 24 #[.int .u64 (hi a), .int .u64 (lo a)]) (fun _ k _ => 256 - (intOf k).toNat)
  case atStart => exact ⟨0, by omega, rfl, by simp (maxDischargeDepth := 99), Blk.ext (Blk.alloc (Blk.ext (Blk.alloc (Blk.new _ _ _) _) _) _) _, Blk.ext (Blk.alloc (Blk.ext (Blk.new' _ _ _ (by simp)) _) _) _⟩
  case round =>
    obtain ⟨k, hk, rfl, hkw, bx, ba⟩ := hrel
    have HX := Lib.hid (And.intro hkw (And.intro bx ba))
    obtain ⟨x0, x1, x2, x3, xl⟩ := Blk.four bx
    obtain ⟨a0, a1, al⟩ := Blk.two ba
    have i0 : (0 : Int) ≤ k := by omega
    have i1 : (k : Int) < 256 := by omega
    clear bx ba hkw
    by_cases he : someB x m (k : Int) = a
    · have hs := Lib.hid (fun w => (by rw [← he]; exact wsome_any x m (k : Int) w : Calls Try.prog 24 #[wv x m, .int .i64 (k : Int)] w (Ret (av a) w)))
      clear he
      go_wp2_with fail
      refine region_ext _ (Later.refl _) mixed (by kernel_rfl) ?_
      repeat (go_big_quiet_step ((first | (go_at_call 24; exact calls_in (hs.out _)))))
      refine wpQuiet_nil ?_
      rintro _ ⟨q, rfl⟩
      go_wp2_with (first | (go_at_call 15; first | ((refine (calls_in (awake4_any _)).mono ?_); rintro e w1 ⟨rfl, q1, rfl⟩) | ((refine (awake4_any _).mono ?_); rintro e w1 ⟨rfl, q1, rfl⟩)))
      go_ret
      exact Ret.of (rfl) (by simp (maxDischargeDepth := 99) [HX.out.1])
    · have hne : k ≠ r := fun h => he (by rw [h]; exact HE.out)
      go_wp2_with fail
      refine region_ext _ (Later.refl _) mixed (by kernel_rfl) ?_
      repeat (go_big_quiet_step ((first | (go_at_call 24; exact calls_in (wsome_any _ _ _ _)))))
      refine wpQuiet_nil ?_
      rintro _ ⟨q, rfl⟩
      go_wp2_with fail
      go_roundw
      case rel => exact ⟨k + 1, by omega, by go_num, by simp (maxDischargeDepth := 99) [HX.out.1], Blk.ext HX.out.2.1 _, Blk.ext HX.out.2.2 _⟩
      case measure => simp [intOf]; omega
theorem wordSome_walk (x m : B) (n : Int) (_ : -9223372036854775808 ≤ n) (_ : n ≤ 9223372036854775807) (a : B) (w : World) : Calls Try.prog 7 #[wv x m, .int .i64 n, av a] w (Ret (.bool true) w) := by
  by_cases h : 8 < ones (~~~ m)
  · exact wordSome_no x m a n (.inl h) w
  · cases h2 : matchW x m a
    · exact wordSome_no x m a n (.inr h2) w
    · exact wordSome_yes x m a n h h2 w
set_option maxRecDepth 100000 in
theorem wordSome_lifted (os : Os) (started : os.Started) (H : Type) (enc : TypeId × Value → H) :
    ReturnsInHanded {} Try.checked os 7 .any (Rows.wordSomeSpec.pre6 enc Try.prog Try.f7 Rows.wordSomeRow.domain false) (Rows.wordSomeSpec.post enc Try.prog Try.f7 false true false false) := by
  refine returnsInHanded_of_change (C := Try.checked) own started (by kernel_rfl) Try.func7
    (ChangeSpec.witness6 (enc := enc) (C := Try.checked) false ⟨#[], #[.agg #[.int .u64 0, .int .u64 0, .int .u64 0, .int .u64 0], .int .i64 0, .agg #[.int .u64 0, .int .u64 0]], []⟩ 8 (by kernel_rfl) (by kernel_rfl) (by kernel_rfl) (by kernel_rfl)) ?_
  intro W base args ds gs before hval0 hW hcnd _
  have hval : ∀ (j : Nat) t v, Try.f7.params[j]? = some t → args[j]? = some v → Value.okWide Try.prog W .any base t v := hval0
  have hW' := hW
  obtain ⟨p, q, hA0, hV, rfl, hfz, hnd⟩ := hW
  obtain ⟨rfl, rfl⟩ := trodVars_none hV
  rw [List.append_nil] at hW'
  have hA : DataW.TrodAll enc Try.prog W 0 (fun _ => true) true Try.f7.params.toList args.toList ds p := hA0
  have hA1 := hA
  rw [Try.params7] at hA1 hval
  obtain ⟨v0, vs0, d0, ds0, p0, q0, hargs, rfl, rfl, h0, r0⟩ := trodAll_cons hA1
  obtain ⟨v1, vs1, d1, ds1, p1, q1, rfl, rfl, rfl, h1, r1⟩ := trodAll_cons r0
  obtain ⟨v2, vs2, d2, ds2, p2, q2, rfl, rfl, rfl, h2, r2⟩ := trodAll_cons r1
  obtain ⟨rfl, rfl, rfl⟩ := trodAll_nil r2
  obtain rfl : args = #[v0, v1, v2] := by cases args; simp_all
  obtain ⟨X0, M0, rfl⟩ := open_word (hval 0 _ v0 rfl rfl) h0
  obtain ⟨X1, rfl, rfl, rfl, w1⟩ := open_int Try.underlying3 (hval 1 _ v1 rfl rfl) h1
  obtain ⟨X2, rfl⟩ := open_addr (hval 2 _ v2 rfl rfl) h2
  refine (wordSome_walk X0 M0 X1 (wf_i64' w1).1 (wf_i64' w1).2 X2 W).mono fun e W' ⟨he, hg⟩ => ?_
  subst he
  exact ⟨_, rfl, post_true laidOut (by rw [Try.params7]; intro t ht; simp at ht; first | (subst ht; exact ⟨by kernel_rfl, of_decide_eq_true (by kernel_rfl)⟩) | (rcases ht with rfl | rfl <;> exact ⟨by kernel_rfl, of_decide_eq_true (by kernel_rfl)⟩) | (rcases ht with rfl | rfl | rfl <;> exact ⟨by kernel_rfl, of_decide_eq_true (by kernel_rfl)⟩) | (rcases ht with rfl | rfl | rfl | rfl <;> exact ⟨by kernel_rfl, of_decide_eq_true (by kernel_rfl)⟩)) rfl hW' hA rfl (trodAll_cons_mk (shut_bool Try.underlying4 _) trodAll_mk0) (Later.kept hg)⟩

theorem wordSome_holds : Rows.WordSomeSaid :=
  OpenClaim.holds_of_wide 7 Try.f7 rfl rfl rfl rfl rfl rfl rfl ⟨rfl, rfl, rfl, rfl, rfl⟩ rfl rfl rfl rfl rfl (by kernel_rfl) Try.func7 (by kernel_rfl)
    (of_decide_eq_true (by kernel_rfl)) (by unfold Func.isWrapper; first | (rw [if_pos (by decide +kernel)]; kernel_rfl) | (rw [if_neg (by decide +kernel)]; exact ⟨rfl, rfl⟩))
    (fun os started H enc _ => wordSome_lifted os started H enc)
#print axioms wordSome_holds
end Go.Proofs.Ytecpgbkmpfijoaa
