/- AddrNexts: of any two addresses: the next one is above the first, but of the greatest, and none is between. -/
import Derived.Test.YtnjopepdjmifjaaRows
import Derived.Test.YtnjopepdjmifjaaOpen
import Derived.Test.YtnjopepdjmifjaaAwake1
namespace Go.Proofs.Ytnjopepdjmifjaa
open Go.RowKit Pg Go.ChangeShapes Go.WideShapes Go.ChangeAt

theorem next_toNat (x : B) (h : ¬ x = maskB (near 128)) : (x + 1#128).toNat = x.toNat + 1 := by
  have hx : x.toNat ≠ 340282366920938463463374607431768211455 := by
    intro e; apply h; apply BitVec.eq_of_toNat_eq; rw [e]; decide +kernel
  rw [BitVec.toNat_add]; have := x.isLt; exact Nat.mod_eq_of_lt (by rw [show (1#128).toNat = 1 from rfl]; omega)
theorem next_above (x : B) (h : ¬ x = maskB (near 128)) : cmpB x (x + 1#128) = -1 := by
  unfold cmpB; rw [next_toNat x h, if_pos (by omega)]
theorem none_between (x y : B) (h : ¬ x = maskB (near 128)) : cmpB y x ≤ 0 ∨ 0 ≤ cmpB y (x + 1#128) := by
  unfold cmpB; rw [next_toNat x h]; repeat' split
  all_goals omega
theorem next_top : (maskB (near 128) : B) + 1#128 = 0#128 := by decide +kernel
theorem addrNexts_walk (x y : B) (w : World) : Calls Try.prog 11 #[av x, av y] w (Ret (.bool true) w) := by
  by_cases h : x = maskB (near 128)
  · subst h
    have ht := next_top
    go_enter Try.func11, Try.ntmps11
    go_wp2_with (first | (go_at_call 30; refine (next_any _ _).mono ?_; rintro e w1 ⟨rfl, q1, rfl⟩))
    refine region_ext _ (by first | exact Later.ext _ _ | exact Later.refl _) mixed (by kernel_rfl) ?_
    repeat (go_big_quiet_step ((first | (go_at_call 12; exact calls_in (mask_any _ _)))))
    refine wpQuiet_nil ?_
    rintro _ ⟨q, rfl⟩
    go_wp2_with (first | (go_at_call 16; refine (calls_in (awake_any _)).mono ?_; rintro e w1 ⟨rfl, q1, rfl⟩))
    go_ret
    exact Ret.of rfl (by simp (maxDischargeDepth := 99))
  · have h1 : (cmpB x (x + 1#128) == -1) = true := by rw [next_above x h]; rfl
    by_cases c : cmpB y x ≤ 0
    · go_enter Try.func11, Try.ntmps11
      go_wp2_with (first | (go_at_call 30; refine (next_any _ _).mono ?_; rintro e w1 ⟨rfl, q1, rfl⟩))
      refine region_ext _ (by first | exact Later.ext _ _ | exact Later.refl _) mixed (by kernel_rfl) ?_
      repeat (go_big_quiet_step ((first | (go_at_call 12; exact calls_in (mask_any _ _)))))
      refine wpQuiet_nil ?_
      rintro _ ⟨q, rfl⟩
      go_wp2_with (first | (go_at_call 16; refine (calls_in (awake_any _)).mono ?_; rintro e w1 ⟨rfl, q1, rfl⟩) | (go_at_call 28; refine (calls_in (cmp_any _ _ _)).mono ?_; rintro e w1 ⟨rfl, q1, rfl⟩))
      go_ret
      exact Ret.of rfl (by simp (maxDischargeDepth := 99))
    · have c2 : 0 ≤ cmpB y (x + 1#128) := (none_between x y h).resolve_left c
      go_enter Try.func11, Try.ntmps11
      go_wp2_with (first | (go_at_call 30; refine (next_any _ _).mono ?_; rintro e w1 ⟨rfl, q1, rfl⟩))
      refine region_ext _ (by first | exact Later.ext _ _ | exact Later.refl _) mixed (by kernel_rfl) ?_
      repeat (go_big_quiet_step ((first | (go_at_call 12; exact calls_in (mask_any _ _)))))
      refine wpQuiet_nil ?_
      rintro _ ⟨q, rfl⟩
      go_wp2_with (first | (go_at_call 16; refine (calls_in (awake_any _)).mono ?_; rintro e w1 ⟨rfl, q1, rfl⟩) | (go_at_call 28; refine (calls_in (cmp_any _ _ _)).mono ?_; rintro e w1 ⟨rfl, q1, rfl⟩))
      go_ret
      exact Ret.of rfl (by simp (maxDischargeDepth := 99))
set_option maxRecDepth 100000 in
theorem addrNexts_lifted (os : Os) (started : os.Started) (H : Type) (enc : TypeId × Value → H) :
    ReturnsInHanded {} Try.checked os 11 .any (Rows.addrNextsSpec.pre6 enc Try.prog Try.f11 Rows.addrNextsRow.domain false) (Rows.addrNextsSpec.post enc Try.prog Try.f11 false true false false) := by
  refine returnsInHanded_of_change (C := Try.checked) own started (by kernel_rfl) Try.func11
    (ChangeSpec.witness6 (enc := enc) (C := Try.checked) false ⟨#[], #[.agg #[.int .u64 0, .int .u64 0], .agg #[.int .u64 0, .int .u64 0]], []⟩ 8 (by kernel_rfl) (by kernel_rfl) (by kernel_rfl) (by kernel_rfl)) ?_
  intro W base args ds gs before hval0 hW hcnd _
  have hval : ∀ (j : Nat) t v, Try.f11.params[j]? = some t → args[j]? = some v → Value.okWide Try.prog W .any base t v := hval0
  have hW' := hW
  obtain ⟨p, q, hA0, hV, rfl, hfz, hnd⟩ := hW
  obtain ⟨rfl, rfl⟩ := trodVars_none hV
  rw [List.append_nil] at hW'
  have hA : DataW.TrodAll enc Try.prog W 0 (fun _ => true) true Try.f11.params.toList args.toList ds p := hA0
  have hA1 := hA
  rw [Try.params11] at hA1 hval
  obtain ⟨v0, vs0, d0, ds0, p0, q0, hargs, rfl, rfl, h0, r0⟩ := trodAll_cons hA1
  obtain ⟨v1, vs1, d1, ds1, p1, q1, rfl, rfl, rfl, h1, r1⟩ := trodAll_cons r0
  obtain ⟨rfl, rfl, rfl⟩ := trodAll_nil r1
  obtain rfl : args = #[v0, v1] := by cases args; simp_all
  obtain ⟨X0, rfl⟩ := open_addr (hval 0 _ v0 rfl rfl) h0
  obtain ⟨X1, rfl⟩ := open_addr (hval 1 _ v1 rfl rfl) h1
  refine (addrNexts_walk X0 X1 W).mono fun e W' ⟨he, hg⟩ => ?_
  subst he
  exact ⟨_, rfl, post_true laidOut (by rw [Try.params11]; intro t ht; simp at ht; first | (subst ht; exact ⟨by kernel_rfl, of_decide_eq_true (by kernel_rfl)⟩) | (rcases ht with rfl | rfl <;> exact ⟨by kernel_rfl, of_decide_eq_true (by kernel_rfl)⟩) | (rcases ht with rfl | rfl | rfl <;> exact ⟨by kernel_rfl, of_decide_eq_true (by kernel_rfl)⟩) | (rcases ht with rfl | rfl | rfl | rfl <;> exact ⟨by kernel_rfl, of_decide_eq_true (by kernel_rfl)⟩)) rfl hW' hA rfl (trodAll_cons_mk (shut_bool Try.underlying4 _) trodAll_mk0) (Later.kept hg)⟩

theorem addrNexts_holds : Rows.AddrNextsSaid :=
  OpenClaim.holds_of_wide 11 Try.f11 rfl rfl rfl rfl rfl rfl rfl ⟨rfl, rfl, rfl, rfl, rfl⟩ rfl rfl rfl rfl rfl (by kernel_rfl) Try.func11 (by kernel_rfl)
    (of_decide_eq_true (by kernel_rfl)) (by unfold Func.isWrapper; first | (rw [if_pos (by decide +kernel)]; kernel_rfl) | (rw [if_neg (by decide +kernel)]; exact ⟨rfl, rfl⟩))
    (fun os started H enc _ => addrNexts_lifted os started H enc)
#print axioms addrNexts_holds
end Go.Proofs.Ytnjopepdjmifjaa
