/- Routes: the reference's Put. -/
import Derived.Test.YtjkhdjonlppdoaaRib4
import Derived.Test.YtjkhdjonlppdoaaKeep
namespace Go.Proofs.Ytjkhdjonlppdoaa
open Go.RowKit Pg

set_option maxHeartbeats 1000000 in
set_option maxRecDepth 100000 in
theorem refputR_any {l : List Rt} {v : Value} (r : Rt) (w : World) (hl : Els w v 4 Rt.cells l) (hn : l.length ≤ 500) : Calls Try.prog 31 #[v, rv r] w (RetEls 36 4 Rt.cells (insR r (l.filter fun s => !eqR r.x r.n s)) w) := by
  have hfl := List.length_filter_le (fun s : Rt => !eqR r.x r.n s) l
  have hdr := Lib.hid (fun W (u : Value) (h : Els W u 4 Rt.cells l) => refdropR_any r.x r.n W h (by omega))
  obtain ⟨ad, c, rfl, hc, he⟩ := hl.form
  have HE := Lib.hid he
  obtain ⟨D, hD⟩ : ∃ D, l.filter (fun s => !eqR r.x r.n s) = D := ⟨_, rfl⟩
  rw [hD] at hdr hfl ⊢
  clear hl he hD
  go_enter Try.func31, Try.ntmps31
  go_wp2_with fail
  refine (hdr.out _ _ (HE.out.alloc _)).mono ?_
  rintro e w1 hR
  obtain ⟨a1, c1, rfl, hlc1, hown1, hels1⟩ := RetEls.out2 Rt.cells_len hR
  have HE1 := Lib.hid hels1
  have HK1 := Lib.hid hown1.1
  clear hown1 hels1 hR
  go_wp2_with fail
  have HR := Lib.hid ((Blk.new' w 36 #[.int .u64 (hi r.x), .int .u64 (lo r.x), .int .i64 r.n, .int .i64 r.act] rfl).kept HK1.out)
  have HKW := Lib.hid ((Kept.alloc (Kept.refl w) (.cells #[.int .u64 (hi r.x), .int .u64 (lo r.x), .int .i64 r.n, .int .i64 r.act] 36)).trans HK1.out)
  go_loopw [5, 6, 8] (fun vo vd vi wr => ∃ (i : Nat) (dn : Bool) (A : List Rt), i ≤ D.length ∧ vi = .int .i64 i ∧ vd = .bool dn ∧ Own w1 wr 36 4 vo A.length (A.flatMap Rt.cells) ∧ A ++ insT r dn (D.drop i) = insR r D) (fun _ _ vi _ => D.length - (intOf vi).toNat)
  case atStart => exact ⟨0, false, [], by omega, rfl, rfl, Own.nil _ _ (Kept.refl _) _ _, rfl⟩
  case round =>
    obtain ⟨i, dn, A, hi9, rfl, rfl, hown, heq⟩ := hrel
    have hAl : A.length ≤ 501 := by
      have h1 := congrArg List.length heq
      rw [List.length_append, insR_len] at h1
      omega
    have HO := Lib.hid hown
    obtain ⟨r0, r1, r2, r3, rl⟩ := Blk.four (HR.out.kept hown.1)
    by_cases hlt : i < D.length
    · have hil : (i : Int) < (D.length : Int) := by omega
      have i0 : (0 : Int) ≤ i := by omega
      have hd := List.drop_eq_getElem_cons hlt
      obtain ⟨b, o, rfl, hb, hcell⟩ := (HE1.out.kept hown.1).at_ (i) hlt
      obtain ⟨e, hee⟩ : ∃ e, (D)[i]'hlt = e := ⟨_, rfl⟩
      rw [hee] at hcell
      have c0 : wr.cell? ⟨b, o + i * 4, none⟩ = some (.int .u64 (hi e.x)) := hcell 0 (by omega)
      have c1 : wr.cell? ⟨b, o + i * 4 + 1, none⟩ = some (.int .u64 (lo e.x)) := hcell 1 (by omega)
      have c2 : wr.cell? ⟨b, o + i * 4 + 2, none⟩ = some (.int .i64 e.n) := hcell 2 (by omega)
      have c3 : wr.cell? ⟨b, o + i * 4 + 3, none⟩ = some (.int .i64 e.act) := hcell 3 (by omega)
      have Hee := Lib.hid hee
      clear hcell hee
      rw [Hee.out] at hd
      rw [hd] at heq
      cases dn
      · obtain ⟨cc, hcc⟩ : ∃ cc, cmpP e.x e.n r.x r.n = cc := ⟨_, rfl⟩
        have HC := Lib.hid (refcmpp_as hcc)
        by_cases hpos : 0 < cc
        · have hq : decide (0 < cc) = true := by simp [hpos]
          have HQ := Lib.hid (show (A ++ [r] ++ [e]) ++ insT r true (D.drop (i + 1)) = insR r D by
            rw [← heq]
            show _ = A ++ insR r (e :: D.drop (i + 1))
            unfold insR
            rw [hcc, if_pos hpos]
            simp [insT])
          have HEE := Lib.hid Hee.out
          clear hown heq hd hcc Hee
          go_wp2_with fail
          refine region_ext _ (by first | exact Later.ext _ _ | exact Later.refl _) mixed (by kernel_rfl) ?_
          repeat (go_big_quiet_step ((first | (go_at_call 43; exact calls_in (HC.out _)))))
          refine wpQuiet_nil ?_
          rintro _ ⟨q, rfl⟩
          go_wp2_with (first | (at_builtin; refine wpList_push rfl _ _ 40 rfl 36 (.agg #[.int .u64 0, .int .u64 0, .int .i64 0, .int .i64 0]) 4 32 Try.underlying40 info_refroute rfl (by omega) u5 A.length (A.flatMap Rt.cells) rfl ((HO.out.ext _).alloc _) _ 1 1 (Rt.cells r) rfl rfl (heap_alloc_new _ _) (by simp [Rt.cells, Value.oneCell']) (by unfold maxLen; omega) (by omega) ?_; intro v5 w9 hown9; have H9 := Lib.hid (own_push A r rfl hown9); have hx9 := ((HE1.out.kept hown9.1).at2 i hlt); have y0 : w9.cell? ⟨b, o + i * 4, none⟩ = some (.int .u64 (hi e.x)) := (by have := hx9.2 0 (by omega); rwa [HEE.out] at this); have y1 : w9.cell? ⟨b, o + i * 4 + 1, none⟩ = some (.int .u64 (lo e.x)) := (by have := hx9.2 1 (by omega); rwa [HEE.out] at this); have y2 : w9.cell? ⟨b, o + i * 4 + 2, none⟩ = some (.int .i64 e.n) := (by have := hx9.2 2 (by omega); rwa [HEE.out] at this); have y3 : w9.cell? ⟨b, o + i * 4 + 3, none⟩ = some (.int .i64 e.act) := (by have := hx9.2 3 (by omega); rwa [HEE.out] at this); have y4 := hx9.1; clear hown9 hx9) | (at_builtin; refine wpList_push rfl _ _ 40 rfl 36 (.agg #[.int .u64 0, .int .u64 0, .int .i64 0, .int .i64 0]) 4 32 Try.underlying40 info_refroute rfl (by omega) v5 (A ++ [r]).length ((A ++ [r]).flatMap Rt.cells) rfl (H9.out.alloc _) _ 1 1 (Rt.cells e) rfl rfl (heap_alloc_new _ _) (by simp [Rt.cells, Value.oneCell']) (by rw [List.length_append]; unfold maxLen; simp; omega) (by rw [List.length_append]; simp; omega) ?_; intro v6 w10 hown10; have H10 := Lib.hid (own_push (A ++ [r]) e rfl hown10); clear hown10))
          go_roundw
          case rel => exact ⟨i + 1, true, A ++ [r] ++ [e], by omega, by go_num, rfl, H10.out, HQ.out⟩
          case measure => simp [intOf]; omega
        · have hq : decide (0 < cc) = false := by simp; omega
          have HQ := Lib.hid (show (A ++ [e]) ++ insT r false (D.drop (i + 1)) = insR r D by
            rw [← heq]
            show _ = A ++ insR r (e :: D.drop (i + 1))
            conv => rhs; unfold insR
            rw [hcc, if_neg hpos]
            simp [insT])
          clear hown heq hd hcc Hee
          go_wp2_with fail
          refine region_ext _ (by first | exact Later.ext _ _ | exact Later.refl _) mixed (by kernel_rfl) ?_
          repeat (go_big_quiet_step ((first | (go_at_call 43; exact calls_in (HC.out _)))))
          refine wpQuiet_nil ?_
          rintro _ ⟨q, rfl⟩
          go_wp2_with (first | (at_builtin; refine wpList_push rfl _ _ 40 rfl 36 (.agg #[.int .u64 0, .int .u64 0, .int .i64 0, .int .i64 0]) 4 32 Try.underlying40 info_refroute rfl (by omega) u5 A.length _ rfl ((HO.out.ext _).alloc _) _ 1 1 (Rt.cells e) rfl rfl (heap_alloc_new _ _) (by simp [Rt.cells, Value.oneCell']) (by unfold maxLen; omega) (by omega) ?_; intro v' w1 hown1))
          go_roundw
          case rel => exact ⟨i + 1, false, A ++ [e], by omega, by go_num, rfl, own_push A e rfl hown1, HQ.out⟩
          case measure => simp [intOf]; omega
      · have HQ := Lib.hid (show (A ++ [e]) ++ insT r true (D.drop (i + 1)) = insR r D by rw [← heq]; simp [insT])
        clear hown heq hd Hee
        go_wp2_with fail
        refine region_ext _ (by first | exact Later.ext _ _ | exact Later.refl _) mixed (by kernel_rfl) ?_
        repeat (go_big_quiet_step (fail))
        refine wpQuiet_nil ?_
        rintro _ ⟨q, rfl⟩
        go_wp2_with (first | (at_builtin; refine wpList_push rfl _ _ 40 rfl 36 (.agg #[.int .u64 0, .int .u64 0, .int .i64 0, .int .i64 0]) 4 32 Try.underlying40 info_refroute rfl (by omega) u5 A.length _ rfl ((HO.out.ext _).alloc _) _ 1 1 (Rt.cells e) rfl rfl (heap_alloc_new _ _) (by simp [Rt.cells, Value.oneCell']) (by unfold maxLen; omega) (by omega) ?_; intro v' w1 hown1))
        go_roundw
        case rel => exact ⟨i + 1, true, A ++ [e], by omega, by go_num, rfl, own_push A e rfl hown1, HQ.out⟩
        case measure => simp [intOf]; omega
    · have hil : i = D.length := by omega
      subst hil
      rw [List.drop_length] at heq
      cases dn
      · have HQ := Lib.hid (show A ++ [r] = insR r D from heq)
        clear hown heq hlt
        go_wp2_with (first | (at_builtin; refine wpList_push rfl _ _ 40 rfl 36 (.agg #[.int .u64 0, .int .u64 0, .int .i64 0, .int .i64 0]) 4 32 Try.underlying40 info_refroute rfl (by omega) u5 A.length _ rfl (HO.out.alloc _) _ 1 1 (Rt.cells r) rfl rfl (heap_alloc_new _ _) (by simp [Rt.cells, Value.oneCell']) (by unfold maxLen; omega) (by omega) ?_; intro v' w1 hown1))
        go_ret
        exact RetEls.mk HKW.out (by rw [← HQ.out]; exact own_push A r rfl hown1)
      · have HQ := Lib.hid (show A = insR r D by rw [← heq]; simp [insT])
        clear hown heq hlt
        go_wp2_with fail
        go_ret
        exact RetEls.mk HKW.out (by rw [← HQ.out]; exact HO.out)
end Go.Proofs.Ytjkhdjonlppdoaa
