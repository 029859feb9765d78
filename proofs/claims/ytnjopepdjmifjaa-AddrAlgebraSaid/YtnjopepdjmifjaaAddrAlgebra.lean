/- AddrAlgebra: of any three addresses: and spreads over or, what is turned twice is itself, one alone of the same is nothing. -/
import Derived.Test.YtnjopepdjmifjaaRows
import Derived.Test.YtnjopepdjmifjaaOpen
import Derived.Test.YtnjopepdjmifjaaAwake1
namespace Go.Proofs.Ytnjopepdjmifjaa
open Go.RowKit Pg Go.ChangeShapes Go.WideShapes Go.ChangeAt

theorem addrAlgebra_walk (x y z : B) (w : World) : Calls Try.prog 7 #[av x, av y, av z] w (Ret (.bool true) w) := by
  have h1 : x &&& (y ||| z) = x &&& y ||| x &&& z := by
    apply ext_bt; intro k _; simp only [bt_and, bt_or]; cases bt x k <;> rfl
  have h2 : ~~~ ~~~ x = x := BitVec.not_not
  have h3 : x ^^^ x = 0#128 := BitVec.xor_self
  have h4 : x ||| ~~~ x = maskB (near 128) := by
    apply ext_bt; intro k hk; rw [show near 128 = 128 from rfl, bt_or, bt_not _ _ hk, bt_mask _ _ hk]; cases bt x k <;> simp [hk]
  have h5 : x ^^^ y = x &&& ~~~ y ||| ~~~ x &&& y := by
    apply ext_bt; intro k hk; simp only [bt_or, bt_and, bt_xor, bt_not _ _ hk]; cases bt x k <;> cases bt y k <;> rfl
  go_enter Try.func7, Try.ntmps7
  go_wp2_with fail
  refine region_ext _ (by first | exact Later.ext _ _ | exact Later.refl _) mixed (by kernel_rfl) ?_
  repeat (go_big_quiet_step ((first | (go_at_call 21; exact calls_in (and_any _ _ _)) | (go_at_call 22; exact calls_in (or_any _ _ _)) | (go_at_call 23; exact calls_in (xor_any _ _ _)) | (go_at_call 19; exact calls_in (not_any _ _)) | (go_at_call 12; exact calls_in (mask_any _ _)) | (go_at_call 16; exact calls_in (awake_any _)))))
  refine wpQuiet_nil ?_
  rintro _ ⟨q9, rfl⟩
  go_wp2_with fail
  go_ret
  exact Ret.of rfl (by simp (maxDischargeDepth := 99))
set_option maxRecDepth 100000 in
theorem addrAlgebra_lifted (os : Os) (started : os.Started) (H : Type) (enc : TypeId × Value → H) :
    ReturnsInHanded {} Try.checked os 7 .any (Rows.addrAlgebraSpec.pre6 enc Try.prog Try.f7 Rows.addrAlgebraRow.domain false) (Rows.addrAlgebraSpec.post enc Try.prog Try.f7 false true false false) := by
  refine returnsInHanded_of_change (C := Try.checked) own started (by kernel_rfl) Try.func7
    (ChangeSpec.witness6 (enc := enc) (C := Try.checked) false ⟨#[], #[.agg #[.int .u64 0, .int .u64 0], .agg #[.int .u64 0, .int .u64 0], .agg #[.int .u64 0, .int .u64 0]], []⟩ 8 (by kernel_rfl) (by kernel_rfl) (by kernel_rfl) (by kernel_rfl)) ?_
  intro W base args ds gs before hval0 hW hcnd _
  have hval : ∀ (j : Nat) t v, Try.f7.params[j]? = some t → args[j]? = some v → Value.okWide Try.prog W .any base t v := hval0
  have hW' := hW
  obtain ⟨p, q, hA0, hV, rfl, hfz, hnd⟩ := hW
  obtain ⟨rfl, rfl⟩ := trodVars_none hV
  rw [List.append_nil] at hW'
  have hA : DataW.TrodAll enc Try.prog W 0 (fun _ => true) true Try.f7.params.toList args.toList ds p := hA0
  have hA1 := hA
  rw [Try.params7] at hA1 hval
  obtain ⟨v0, vs0, d0, ds0, p0, q0, hargs, rfl, rfl, h0, r0⟩ := trodAll_cons hA1
  obtain ⟨v1, vs1, d1, ds1, p1, q1, rfl, rfl, rfl, h1, r1⟩ := trodAll_cons r0
  obtain ⟨v2, vs2, d2, ds2, p2, q2, rfl, rfl, rfl, h2, r2⟩ := trodAll_cons r1
  obtain ⟨rfl, rfl, rfl⟩ := trodAll_nil r2
  obtain rfl : args = #[v0, v1, v2] := by cases args; simp_all
  obtain ⟨X0, rfl⟩ := open_addr (hval 0 _ v0 rfl rfl) h0
  obtain ⟨X1, rfl⟩ := open_addr (hval 1 _ v1 rfl rfl) h1
  obtain ⟨X2, rfl⟩ := open_addr (hval 2 _ v2 rfl rfl) h2
  refine (addrAlgebra_walk X0 X1 X2 W).mono fun e W' ⟨he, hg⟩ => ?_
  subst he
  exact ⟨_, rfl, post_true laidOut (by rw [Try.params7]; intro t ht; simp at ht; first | (subst ht; exact ⟨by kernel_rfl, of_decide_eq_true (by kernel_rfl)⟩) | (rcases ht with rfl | rfl <;> exact ⟨by kernel_rfl, of_decide_eq_true (by kernel_rfl)⟩) | (rcases ht with rfl | rfl | rfl <;> exact ⟨by kernel_rfl, of_decide_eq_true (by kernel_rfl)⟩) | (rcases ht with rfl | rfl | rfl | rfl <;> exact ⟨by kernel_rfl, of_decide_eq_true (by kernel_rfl)⟩)) rfl hW' hA rfl (trodAll_cons_mk (shut_bool Try.underlying4 _) trodAll_mk0) (Later.kept hg)⟩

theorem addrAlgebra_holds : Rows.AddrAlgebraSaid :=
  OpenClaim.holds_of_wide 7 Try.f7 rfl rfl rfl rfl rfl rfl rfl ⟨rfl, rfl, rfl, rfl, rfl⟩ rfl rfl rfl rfl rfl (by kernel_rfl) Try.func7 (by kernel_rfl)
    (of_decide_eq_true (by kernel_rfl)) (by unfold Func.isWrapper; first | (rw [if_pos (by decide +kernel)]; kernel_rfl) | (rw [if_neg (by decide +kernel)]; exact ⟨rfl, rfl⟩))
    (fun os started H enc _ => addrAlgebra_lifted os started H enc)
#print axioms addrAlgebra_holds
end Go.Proofs.Ytnjopepdjmifjaa
