/- PrefixParts: the parent of a prefix covers it and its sibling, which are apart, and it matches what one of both does; of no bits there is none. -/
import Derived.Test.YtcooheiipplahaaRows
import Derived.Test.YtcooheiipplahaaRef02
import Derived.Test.YtcooheiipplahaaOpen2
import Derived.Test.YtcooheiipplahaaAwake2
import Derived.Test.YtcooheiipplahaaParts
namespace Go.Proofs.Ytcooheiipplahaa
open Go.RowKit Pg Go.ChangeShapes Go.WideShapes Go.ChangeAt

theorem parts_facts (x : B) (k : Nat) (hk : k < 128) (a : B) :
    coversB (x &&& maskB k) k x ((k : Int) + 1) = true ∧ coversB (x &&& maskB k) k (setB x k (!bt x k) &&& maskB (k + 1)) ((k : Int) + 1) = true ∧
    (!coversB x ((k : Int) + 1) (setB x k (!bt x k) &&& maskB (k + 1)) ((k : Int) + 1) && !coversB (setB x k (!bt x k) &&& maskB (k + 1)) ((k : Int) + 1) x ((k : Int) + 1)) = true ∧
    matchB (x &&& maskB k) k a = (matchB x ((k : Int) + 1) a || matchB (setB x k (!bt x k) &&& maskB (k + 1)) ((k : Int) + 1) a) := by
  have n1 : near (k : Int) = k := near_nat k (by omega)
  have n2 : near ((k : Int) + 1) = k + 1 := near_nat (k + 1) (by omega)
  have bu : ∀ i, i < 128 → bt (x &&& maskB k) i = (bt x i && decide (i < k)) := fun i hi => by rw [bt_and, bt_mask _ _ hi]
  have bs : ∀ i, i < 128 → bt (setB x k (!bt x k) &&& maskB (k + 1)) i = ((if i = k then !bt x k else bt x i) && decide (i < k + 1)) := fun i hi => by rw [bt_and, bt_mask _ _ hi, bt_setB x k _ hk i hi]
  have mU : ∀ b : B, matchB (x &&& maskB k) k b = true ↔ ∀ i, i < k → bt x i = bt b i := fun b => by
    rw [matchB_iff, n1]
    constructor
    · intro h i hi; have := h i hi; rw [bu i (by omega)] at this; simpa [hi] using this
    · intro h i hi; rw [bu i (by omega)]; simpa [hi] using h i hi
  have mX : ∀ b : B, matchB x ((k : Int) + 1) b = true ↔ ∀ i, i < k + 1 → bt x i = bt b i := fun b => by rw [matchB_iff, n2]
  have mS : ∀ b : B, matchB (setB x k (!bt x k) &&& maskB (k + 1)) ((k : Int) + 1) b = true ↔ (∀ i, i < k → bt x i = bt b i) ∧ (!bt x k) = bt b k := fun b => by
    rw [matchB_iff, n2]
    constructor
    · intro h
      refine ⟨fun i hi => ?_, ?_⟩
      · have := h i (by omega); rw [bs i (by omega), if_neg (by omega)] at this; simpa [show i < k + 1 by omega] using this
      · have := h k (by omega); rw [bs k hk, if_pos rfl] at this; simpa using this
    · rintro ⟨h, h'⟩ i hi
      rw [bs i (by omega)]
      by_cases he : i = k
      · subst he; rw [if_pos rfl]; simpa using h'
      · rw [if_neg he]; simpa [hi] using h i (by omega)
  refine ⟨?_, ?_, ?_, ?_⟩
  · unfold coversB; rw [decide_eq_true (by omega), Bool.true_and]; exact (mU x).2 fun i _ => rfl
  · unfold coversB; rw [decide_eq_true (by omega), Bool.true_and]
    exact (mU _).2 fun i hi => by rw [bs i (by omega), if_neg (by omega)]; simp [show i < k + 1 by omega]
  · have e1 : matchB x ((k : Int) + 1) (setB x k (!bt x k) &&& maskB (k + 1)) = false := Bool.eq_false_iff.2 fun h => by
      have := (mX _).1 h k (by omega); rw [bs k hk, if_pos rfl] at this; simp at this
    have e2 : matchB (setB x k (!bt x k) &&& maskB (k + 1)) ((k : Int) + 1) x = false := Bool.eq_false_iff.2 fun h => by
      have := ((mS x).1 h).2; simp at this
    unfold coversB
    rw [e1, e2]; simp
  · rw [Bool.eq_iff_iff, Bool.or_eq_true, mU, mX, mS]
    constructor
    · intro h
      by_cases hb : bt x k = bt a k
      · exact .inl fun i hi => by
          by_cases he : i = k
          · subst he; exact hb
          · exact h i (by omega)
      · exact .inr ⟨h, by revert hb; cases bt x k <;> cases bt a k <;> simp⟩
    · rintro (h | h)
      · exact fun i hi => h i (by omega)
      · exact h.1
set_option maxHeartbeats 2000000 in
set_option maxRecDepth 100000 in
theorem parts_go (x : B) (k : Nat) (hk : k < 128) (a : B) (w : World) : Calls Try.prog 8 #[pv x ((k : Int) + 1), av a] w (Ret (.bool true) w) := by
  obtain ⟨f1, f2, f3, f4⟩ := parts_facts x k hk a
  have hup : ∀ w, Calls Try.prog 28 #[pv x ((k : Int) + 1)] w (Ret (.tuple #[pv (x &&& maskB k) (k : Int), .bool true]) w) := fun w => parent_yes x k hk w
  have hsib : ∀ w, Calls Try.prog 29 #[pv x ((k : Int) + 1)] w (Ret (.tuple #[pv (setB x k (!bt x k) &&& maskB (k + 1)) ((k : Int) + 1), .bool true]) w) := fun w => sibling_yes x k hk w
  generalize x &&& maskB k = U at *
  generalize setB x k (!bt x k) &&& maskB (k + 1) = S at *
  have c1 : ¬ ((k : Int) + 1 < 1) := by omega
  have c2 : ¬ (128 < (k : Int) + 1) := by omega
  have c3 : (k : Int) + 1 - 1 = k := by omega
  have hup := Lib.hid hup
  have hsib := Lib.hid hsib
  have F1 := Lib.hid f1
  have F2 := Lib.hid f2
  have F3 := Lib.hid f3
  cases m1 : matchB x ((k : Int) + 1) a
  · have M0 := Lib.hid (show matchB U k a = matchB S ((k : Int) + 1) a by rw [f4, m1]; rfl)
    have M1 := Lib.hid m1
    clear f1 f2 f3 f4 m1 hk
    go_enter Try.func8, Try.ntmps8
    go_wp2_with (first | (go_at_call 28; first | ((refine (calls_in (hup.out _)).mono ?_); rintro e w1 ⟨rfl, q1, rfl⟩) | ((refine (hup.out _).mono ?_); rintro e w1 ⟨rfl, q1, rfl⟩)) | (go_at_call 29; first | ((refine (calls_in (hsib.out _)).mono ?_); rintro e w1 ⟨rfl, q1, rfl⟩) | ((refine (hsib.out _).mono ?_); rintro e w1 ⟨rfl, q1, rfl⟩)))
    refine region_ext _ (by first | exact Later.ext _ _ | exact Later.refl _) mixed (by kernel_rfl) ?_
    repeat (go_big_quiet_step ((first | (go_at_call 13; first | with_reducible exact calls_in (covers_as F1.out _) | with_reducible exact calls_in (covers_as F2.out _)) | (go_at_call 14; exact calls_in (apart_as F3.out _)) | (go_at_call 15; first | with_reducible exact calls_in (match_as M0.out _) | with_reducible exact calls_in (match_as M1.out _) | with_reducible exact calls_in (match_any _ _ _ _)) | (go_at_call 17; exact calls_in (awake2_any _)))))
    refine wpQuiet_nil ?_
    rintro _ ⟨q, rfl⟩
    go_wp2_with fail
    go_ret
    exact Ret.of (rfl) (by simp (maxDischargeDepth := 99))
  · have M0 := Lib.hid (show matchB U k a = true by rw [f4, m1]; rfl)
    have M1 := Lib.hid m1
    clear f1 f2 f3 f4 m1 hk
    go_enter Try.func8, Try.ntmps8
    go_wp2_with (first | (go_at_call 28; first | ((refine (calls_in (hup.out _)).mono ?_); rintro e w1 ⟨rfl, q1, rfl⟩) | ((refine (hup.out _).mono ?_); rintro e w1 ⟨rfl, q1, rfl⟩)) | (go_at_call 29; first | ((refine (calls_in (hsib.out _)).mono ?_); rintro e w1 ⟨rfl, q1, rfl⟩) | ((refine (hsib.out _).mono ?_); rintro e w1 ⟨rfl, q1, rfl⟩)))
    refine region_ext _ (by first | exact Later.ext _ _ | exact Later.refl _) mixed (by kernel_rfl) ?_
    repeat (go_big_quiet_step ((first | (go_at_call 13; first | with_reducible exact calls_in (covers_as F1.out _) | with_reducible exact calls_in (covers_as F2.out _)) | (go_at_call 14; exact calls_in (apart_as F3.out _)) | (go_at_call 15; first | with_reducible exact calls_in (match_as M0.out _) | with_reducible exact calls_in (match_as M1.out _) | with_reducible exact calls_in (match_any _ _ _ _)) | (go_at_call 17; exact calls_in (awake2_any _)))))
    refine wpQuiet_nil ?_
    rintro _ ⟨q, rfl⟩
    go_wp2_with fail
    go_ret
    exact Ret.of (rfl) (by simp (maxDischargeDepth := 99))
set_option maxHeartbeats 2000000 in
set_option maxRecDepth 100000 in
theorem prefixParts_walk (x : B) (n : Int) (_ : -9223372036854775808 ≤ n) (_ : n ≤ 9223372036854775807) (a : B) (w : World) : Calls Try.prog 8 #[pv x n, av a] w (Ret (.bool true) w) := by
  by_cases h : 1 ≤ n ∧ n ≤ 128
  · obtain ⟨k, rfl⟩ : ∃ k : Nat, n = (k : Int) + 1 := ⟨(n - 1).toNat, by omega⟩
    exact parts_go x k (by omega) a w
  · by_cases h1 : n < 1
    · have hh := Lib.hid h
      go_enter Try.func8, Try.ntmps8
      go_wp2_with (first | (go_at_call 28; first | ((refine (calls_in (parent_no _ _ h _)).mono ?_); rintro e w1 ⟨rfl, q1, rfl⟩) | ((refine (parent_no _ _ h _).mono ?_); rintro e w1 ⟨rfl, q1, rfl⟩)) | (go_at_call 29; first | ((refine (calls_in (sibling_no _ _ h _)).mono ?_); rintro e w1 ⟨rfl, q1, rfl⟩) | ((refine (sibling_no _ _ h _).mono ?_); rintro e w1 ⟨rfl, q1, rfl⟩)) | (go_at_call 17; first | ((refine (calls_in (awake2_any _)).mono ?_); rintro e w1 ⟨rfl, q1, rfl⟩) | ((refine (awake2_any _).mono ?_); rintro e w1 ⟨rfl, q1, rfl⟩)))
      go_ret
      exact Ret.of (rfl) (by simp (maxDischargeDepth := 99))
    · have h2 : 128 < n := by omega
      go_enter Try.func8, Try.ntmps8
      go_wp2_with (first | (go_at_call 28; first | ((refine (calls_in (parent_no _ _ h _)).mono ?_); rintro e w1 ⟨rfl, q1, rfl⟩) | ((refine (parent_no _ _ h _).mono ?_); rintro e w1 ⟨rfl, q1, rfl⟩)) | (go_at_call 29; first | ((refine (calls_in (sibling_no _ _ h _)).mono ?_); rintro e w1 ⟨rfl, q1, rfl⟩) | ((refine (sibling_no _ _ h _).mono ?_); rintro e w1 ⟨rfl, q1, rfl⟩)) | (go_at_call 17; first | ((refine (calls_in (awake2_any _)).mono ?_); rintro e w1 ⟨rfl, q1, rfl⟩) | ((refine (awake2_any _).mono ?_); rintro e w1 ⟨rfl, q1, rfl⟩)))
      go_ret
      exact Ret.of (rfl) (by simp (maxDischargeDepth := 99))
set_option maxRecDepth 100000 in
theorem prefixParts_lifted (os : Os) (started : os.Started) (H : Type) (enc : TypeId × Value → H) :
    ReturnsInHanded {} Try.checked os 8 .any (Rows.prefixPartsSpec.pre6 enc Try.prog Try.f8 Rows.prefixPartsRow.domain false) (Rows.prefixPartsSpec.post enc Try.prog Try.f8 false true false false) := by
  refine returnsInHanded_of_change (C := Try.checked) own started (by kernel_rfl) Try.func8
    (ChangeSpec.witness6 (enc := enc) (C := Try.checked) false ⟨#[], #[.agg #[.int .u64 0, .int .u64 0, .int .i64 0], .agg #[.int .u64 0, .int .u64 0]], []⟩ 8 (by kernel_rfl) (by kernel_rfl) (by kernel_rfl) (by kernel_rfl)) ?_
  intro W base args ds gs before hval0 hW hcnd _
  have hval : ∀ (j : Nat) t v, Try.f8.params[j]? = some t → args[j]? = some v → Value.okWide Try.prog W .any base t v := hval0
  have hW' := hW
  obtain ⟨p, q, hA0, hV, rfl, hfz, hnd⟩ := hW
  obtain ⟨rfl, rfl⟩ := trodVars_none hV
  rw [List.append_nil] at hW'
  have hA : DataW.TrodAll enc Try.prog W 0 (fun _ => true) true Try.f8.params.toList args.toList ds p := hA0
  have hA1 := hA
  rw [Try.params8] at hA1 hval
  obtain ⟨v0, vs0, d0, ds0, p0, q0, hargs, rfl, rfl, h0, r0⟩ := trodAll_cons hA1
  obtain ⟨v1, vs1, d1, ds1, p1, q1, rfl, rfl, rfl, h1, r1⟩ := trodAll_cons r0
  obtain ⟨rfl, rfl, rfl⟩ := trodAll_nil r1
  obtain rfl : args = #[v0, v1] := by cases args; simp_all
  obtain ⟨X0, N0, rfl, a0, b0⟩ := open_prefix (hval 0 _ v0 rfl rfl) h0
  obtain ⟨X1, rfl⟩ := open_addr (hval 1 _ v1 rfl rfl) h1
  refine (prefixParts_walk X0 N0 a0 b0 X1 W).mono fun e W' ⟨he, hg⟩ => ?_
  subst he
  exact ⟨_, rfl, post_true laidOut (by rw [Try.params8]; intro t ht; simp at ht; first | (subst ht; exact ⟨by kernel_rfl, of_decide_eq_true (by kernel_rfl)⟩) | (rcases ht with rfl | rfl <;> exact ⟨by kernel_rfl, of_decide_eq_true (by kernel_rfl)⟩) | (rcases ht with rfl | rfl | rfl <;> exact ⟨by kernel_rfl, of_decide_eq_true (by kernel_rfl)⟩) | (rcases ht with rfl | rfl | rfl | rfl <;> exact ⟨by kernel_rfl, of_decide_eq_true (by kernel_rfl)⟩)) rfl hW' hA rfl (trodAll_cons_mk (shut_bool Try.underlying4 _) trodAll_mk0) (Later.kept hg)⟩

theorem prefixParts_holds : Rows.PrefixPartsSaid :=
  OpenClaim.holds_of_wide 8 Try.f8 rfl rfl rfl rfl rfl rfl rfl ⟨rfl, rfl, rfl, rfl, rfl⟩ rfl rfl rfl rfl rfl (by kernel_rfl) Try.func8 (by kernel_rfl)
    (of_decide_eq_true (by kernel_rfl)) (by unfold Func.isWrapper; first | (rw [if_pos (by decide +kernel)]; kernel_rfl) | (rw [if_neg (by decide +kernel)]; exact ⟨rfl, rfl⟩))
    (fun os started H enc _ => prefixParts_lifted os started H enc)
#print axioms prefixParts_holds
end Go.Proofs.Ytcooheiipplahaa
