/- AddrOrder: of any two addresses: how many bits they have in common, which one is greater, and which comes next, is what the reference finds bit by bit. -/
import Derived.Test.YtnjopepdjmifjaaRows
import Derived.Test.YtnjopepdjmifjaaRef01d
import Derived.Test.YtnjopepdjmifjaaOpen
import Derived.Test.YtnjopepdjmifjaaAwake1
namespace Go.Proofs.Ytnjopepdjmifjaa
open Go.RowKit Pg Go.ChangeShapes Go.WideShapes Go.ChangeAt

theorem addrOrder_walk (x y : B) (w : World) : Calls Try.prog 10 #[av x, av y] w (Ret (.bool true) w) := by
  go_enter Try.func10, Try.ntmps10
  go_wp2_with fail
  refine region_ext _ (by first | exact Later.ext _ _ | exact Later.refl _) mixed (by kernel_rfl) ?_
  repeat (go_big_quiet_step ((first | (go_at_call 20; exact calls_in (common_any _ _ _)) | (go_at_call 27; exact calls_in (refcommon_any _ _ _)) | (go_at_call 28; exact calls_in (cmp_any _ _ _)) | (go_at_call 29; exact calls_in (refcmp_any _ _ _)) | (go_at_call 30; exact calls_in (next_any _ _)) | (go_at_call 31; exact calls_in (refnext_any _ _)) | (go_at_call 16; exact calls_in (awake_any _)))))
  refine wpQuiet_nil ?_
  rintro _ ⟨q9, rfl⟩
  go_wp2_with fail
  go_ret
  exact Ret.of rfl (by simp (maxDischargeDepth := 99))
set_option maxRecDepth 100000 in
theorem addrOrder_lifted (os : Os) (started : os.Started) (H : Type) (enc : TypeId × Value → H) :
    ReturnsInHanded {} Try.checked os 10 .any (Rows.addrOrderSpec.pre6 enc Try.prog Try.f10 Rows.addrOrderRow.domain false) (Rows.addrOrderSpec.post enc Try.prog Try.f10 false true false false) := by
  refine returnsInHanded_of_change (C := Try.checked) own started (by kernel_rfl) Try.func10
    (ChangeSpec.witness6 (enc := enc) (C := Try.checked) false ⟨#[], #[.agg #[.int .u64 0, .int .u64 0], .agg #[.int .u64 0, .int .u64 0]], []⟩ 8 (by kernel_rfl) (by kernel_rfl) (by kernel_rfl) (by kernel_rfl)) ?_
  intro W base args ds gs before hval0 hW hcnd _
  have hval : ∀ (j : Nat) t v, Try.f10.params[j]? = some t → args[j]? = some v → Value.okWide Try.prog W .any base t v := hval0
  have hW' := hW
  obtain ⟨p, q, hA0, hV, rfl, hfz, hnd⟩ := hW
  obtain ⟨rfl, rfl⟩ := trodVars_none hV
  rw [List.append_nil] at hW'
  have hA : DataW.TrodAll enc Try.prog W 0 (fun _ => true) true Try.f10.params.toList args.toList ds p := hA0
  have hA1 := hA
  rw [Try.params10] at hA1 hval
  obtain ⟨v0, vs0, d0, ds0, p0, q0, hargs, rfl, rfl, h0, r0⟩ := trodAll_cons hA1
  obtain ⟨v1, vs1, d1, ds1, p1, q1, rfl, rfl, rfl, h1, r1⟩ := trodAll_cons r0
  obtain ⟨rfl, rfl, rfl⟩ := trodAll_nil r1
  obtain rfl : args = #[v0, v1] := by cases args; simp_all
  obtain ⟨X0, rfl⟩ := open_addr (hval 0 _ v0 rfl rfl) h0
  obtain ⟨X1, rfl⟩ := open_addr (hval 1 _ v1 rfl rfl) h1
  refine (addrOrder_walk X0 X1 W).mono fun e W' ⟨he, hg⟩ => ?_
  subst he
  exact ⟨_, rfl, post_true laidOut (by rw [Try.params10]; intro t ht; simp at ht; first | (subst ht; exact ⟨by kernel_rfl, of_decide_eq_true (by kernel_rfl)⟩) | (rcases ht with rfl | rfl <;> exact ⟨by kernel_rfl, of_decide_eq_true (by kernel_rfl)⟩) | (rcases ht with rfl | rfl | rfl <;> exact ⟨by kernel_rfl, of_decide_eq_true (by kernel_rfl)⟩) | (rcases ht with rfl | rfl | rfl | rfl <;> exact ⟨by kernel_rfl, of_decide_eq_true (by kernel_rfl)⟩)) rfl hW' hA rfl (trodAll_cons_mk (shut_bool Try.underlying4 _) trodAll_mk0) (Later.kept hg)⟩

theorem addrOrder_holds : Rows.AddrOrderSaid :=
  OpenClaim.holds_of_wide 10 Try.f10 rfl rfl rfl rfl rfl rfl rfl ⟨rfl, rfl, rfl, rfl, rfl⟩ rfl rfl rfl rfl rfl (by kernel_rfl) Try.func10 (by kernel_rfl)
    (of_decide_eq_true (by kernel_rfl)) (by unfold Func.isWrapper; first | (rw [if_pos (by decide +kernel)]; kernel_rfl) | (rw [if_neg (by decide +kernel)]; exact ⟨rfl, rfl⟩))
    (fun os started H enc _ => addrOrder_lifted os started H enc)
#print axioms addrOrder_holds
end Go.Proofs.Ytnjopepdjmifjaa
