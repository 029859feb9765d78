/- WordMatches: what any word matches, covers, and meets, is the document's. -/
import Derived.Test.YtecpgbkmpfijoaaRows
import Derived.Test.YtecpgbkmpfijoaaRef04
import Derived.Test.YtecpgbkmpfijoaaRef01c
import Derived.Test.YtecpgbkmpfijoaaOpen4
import Derived.Test.YtecpgbkmpfijoaaAwake4
namespace Go.Proofs.Ytecpgbkmpfijoaa
open Go.RowKit Pg Go.ChangeShapes Go.WideShapes Go.ChangeAt

theorem wright_as {b : Bool} {x m : B} (h : decide (x = x &&& m) = b) (w : World) : Calls Try.prog 22 #[wv x m] w (Ret (.bool b) w) := by rw [← h]; exact wright_any x m w
set_option maxHeartbeats 2000000 in
set_option maxRecDepth 100000 in
theorem wordMatches_walk (x m y n a : B) (w : World) : Calls Try.prog 4 #[wv x m, wv y n, av a] w (Ret (.bool true) w) := by
  have HC := Lib.hid (meetW_comm y n x m)
  obtain ⟨b, hb⟩ : ∃ b, decide (x = x &&& m) = b := ⟨_, rfl⟩
  have hb' : decide (x &&& m = x) = b := by
    rw [← hb]
    by_cases e : x = x &&& m
    · rw [decide_eq_true e, decide_eq_true e.symm]
    · rw [decide_eq_false e, decide_eq_false fun h => e h.symm]
  have he := fun d w => (eq_pair d (x &&& m) x w).trans (by rw [hb'])
  have HB := Lib.hid hb
  clear hb hb'
  go_enter Try.func4, Try.ntmps4
  go_wp2_with fail
  refine region_var2 _ (by first | exact Later.ext _ _ | exact Later.refl _) 4 7 11 8 13 30 #[.int .u64 0, .int .u64 0, .int .u64 0, .int .u64 0] 30 #[.int .u64 0, .int .u64 0, .int .u64 0, .int .u64 0] _ mixed rfl (by kernel_rfl) (by kernel_rfl) (by decide) (by decide) (fun _ _ => by kernel_rfl) (fun _ _ => by kernel_rfl) ?_
  apply Exists.intro
  refine And.intro (fun I hI hne => ?_) ?_
  · simp only [Nat.reduceAdd, List.take_succ_cons, List.take_zero, List.drop_succ_cons, List.drop_zero, List.cons_append, List.nil_append]
    repeat (go_big_quiet_step ((first | (go_at_call 12; exact calls_reg hI (law04of_any _ _ _)))))
    exact wpQuiet_nil rfl
  apply Exists.intro
  refine And.intro ⟨rfl, rfl, by simp [Value.oneCell'], by kernel_rfl⟩ ?_
  apply Exists.intro
  refine And.intro ⟨rfl, rfl, by simp [Value.oneCell'], by kernel_rfl⟩ ?_
  simp only [Act.put, List.setIfInBounds_toArray, List.set_cons_succ, List.set_cons_zero]
  intro g g2 w2 hk2 hg hg2 hne bu bv
  have bx : Blk w2 w.heap.size 26 #[.int .u64 (hi x), .int .u64 (lo x), .int .u64 (hi m), .int .u64 (lo m)] := Blk.kept (Blk.alloc (Blk.alloc (Blk.new _ _ _) _) _) hk2
  have by_ : Blk w2 (w.heap.size + 1) 26 #[.int .u64 (hi y), .int .u64 (lo y), .int .u64 (hi n), .int .u64 (lo n)] := Blk.kept (Blk.alloc (Blk.new' _ _ _ (by simp)) _) hk2
  have ba : Blk w2 (w.heap.size + 1 + 1) 24 #[.int .u64 (hi a), .int .u64 (lo a)] := Blk.kept (Blk.new' _ _ _ (by simp)) hk2
  have hkw : Kept w w2 := Kept.trans (Kept.alloc (Kept.alloc (Kept.alloc (Kept.refl w) _) _) _) hk2
  obtain ⟨x0, x1, x2, x3, xl⟩ := Blk.four bx
  obtain ⟨y0, y1, y2, y3, yl⟩ := Blk.four by_
  obtain ⟨u0, u1, u2, u3, ul⟩ := Blk.four bu
  obtain ⟨v0, v1, v2, v3, vl⟩ := Blk.four bv
  obtain ⟨a0, a1, al⟩ := Blk.two ba
  clear bx by_ ba bu bv hk2 hg hg2 hne
  go_wp2_with fail
  refine region_ext _ (Later.refl _) mixed (by kernel_rfl) ?_
  repeat (go_big_quiet_step ((first | (go_at_call 16; exact calls_in (refop0_any _ _ _)))))
  refine wpQuiet_nil ?_
  rintro _ ⟨q, rfl⟩
  go_wp2_with fail
  refine region_ext _ (by first | exact Later.ext _ _ | exact Later.refl _) mixed (by kernel_rfl) ?_
  repeat (go_big_quiet_step ((first | (go_at_call 13; exact calls_in (wmatch_any _ _ _ _)) | (go_at_call 17; exact calls_in (refwmatch_any _ _ _ _)) | (go_at_call 18; exact calls_in (wcovers_any _ _ _ _ _)) | (go_at_call 19; exact calls_in (refwcovers_any _ _ _ _ _)) | (go_at_call 20; first | with_reducible exact calls_in (wmeet_as HC.out _) | with_reducible exact calls_in (wmeet_any _ _ _ _ _)) | (go_at_call 21; exact calls_in (refwmeet_any _ _ _ _ _)) | (go_at_call 22; exact calls_in (wright_as HB.out _)) | (go_at_call 15; exact calls_in (awake4_any _)))))
  refine wpQuiet_nil ?_
  rintro _ ⟨q, rfl⟩
  go_wp2_with fail
  go_ret
  exact Ret.of (rfl) (by simp (maxDischargeDepth := 99) [hkw])
set_option maxRecDepth 100000 in
theorem wordMatches_lifted (os : Os) (started : os.Started) (H : Type) (enc : TypeId × Value → H) :
    ReturnsInHanded {} Try.checked os 4 .any (Rows.wordMatchesSpec.pre6 enc Try.prog Try.f4 Rows.wordMatchesRow.domain false) (Rows.wordMatchesSpec.post enc Try.prog Try.f4 false true false false) := by
  refine returnsInHanded_of_change (C := Try.checked) own started (by kernel_rfl) Try.func4
    (ChangeSpec.witness6 (enc := enc) (C := Try.checked) false ⟨#[], #[.agg #[.int .u64 0, .int .u64 0, .int .u64 0, .int .u64 0], .agg #[.int .u64 0, .int .u64 0, .int .u64 0, .int .u64 0], .agg #[.int .u64 0, .int .u64 0]], []⟩ 8 (by kernel_rfl) (by kernel_rfl) (by kernel_rfl) (by kernel_rfl)) ?_
  intro W base args ds gs before hval0 hW hcnd _
  have hval : ∀ (j : Nat) t v, Try.f4.params[j]? = some t → args[j]? = some v → Value.okWide Try.prog W .any base t v := hval0
  have hW' := hW
  obtain ⟨p, q, hA0, hV, rfl, hfz, hnd⟩ := hW
  obtain ⟨rfl, rfl⟩ := trodVars_none hV
  rw [List.append_nil] at hW'
  have hA : DataW.TrodAll enc Try.prog W 0 (fun _ => true) true Try.f4.params.toList args.toList ds p := hA0
  have hA1 := hA
  rw [Try.params4] at hA1 hval
  obtain ⟨v0, vs0, d0, ds0, p0, q0, hargs, rfl, rfl, h0, r0⟩ := trodAll_cons hA1
  obtain ⟨v1, vs1, d1, ds1, p1, q1, rfl, rfl, rfl, h1, r1⟩ := trodAll_cons r0
  obtain ⟨v2, vs2, d2, ds2, p2, q2, rfl, rfl, rfl, h2, r2⟩ := trodAll_cons r1
  obtain ⟨rfl, rfl, rfl⟩ := trodAll_nil r2
  obtain rfl : args = #[v0, v1, v2] := by cases args; simp_all
  obtain ⟨X0, M0, rfl⟩ := open_word (hval 0 _ v0 rfl rfl) h0
  obtain ⟨X1, M1, rfl⟩ := open_word (hval 1 _ v1 rfl rfl) h1
  obtain ⟨X2, rfl⟩ := open_addr (hval 2 _ v2 rfl rfl) h2
  refine (wordMatches_walk X0 M0 X1 M1 X2 W).mono fun e W' ⟨he, hg⟩ => ?_
  subst he
  exact ⟨_, rfl, post_true laidOut (by rw [Try.params4]; intro t ht; simp at ht; first | (subst ht; exact ⟨by kernel_rfl, of_decide_eq_true (by kernel_rfl)⟩) | (rcases ht with rfl | rfl <;> exact ⟨by kernel_rfl, of_decide_eq_true (by kernel_rfl)⟩) | (rcases ht with rfl | rfl | rfl <;> exact ⟨by kernel_rfl, of_decide_eq_true (by kernel_rfl)⟩) | (rcases ht with rfl | rfl | rfl | rfl <;> exact ⟨by kernel_rfl, of_decide_eq_true (by kernel_rfl)⟩)) rfl hW' hA rfl (trodAll_cons_mk (shut_bool Try.underlying4 _) trodAll_mk0) (Later.kept hg)⟩

theorem wordMatches_holds : Rows.WordMatchesSaid :=
  OpenClaim.holds_of_wide 4 Try.f4 rfl rfl rfl rfl rfl rfl rfl ⟨rfl, rfl, rfl, rfl, rfl⟩ rfl rfl rfl rfl rfl (by kernel_rfl) Try.func4 (by kernel_rfl)
    (of_decide_eq_true (by kernel_rfl)) (by unfold Func.isWrapper; first | (rw [if_pos (by decide +kernel)]; kernel_rfl) | (rw [if_neg (by decide +kernel)]; exact ⟨rfl, rfl⟩))
    (fun os started H enc _ => wordMatches_lifted os started H enc)
#print axioms wordMatches_holds
end Go.Proofs.Ytecpgbkmpfijoaa
