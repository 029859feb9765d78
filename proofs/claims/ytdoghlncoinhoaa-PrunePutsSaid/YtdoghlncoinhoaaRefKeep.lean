/- What is kept, as the document has it. -/
import Derived.Test.YtdoghlncoinhoaaMathK3
import Derived.Test.YtdoghlncoinhoaaRib5
namespace Pg
open Go
theorem kept_extR (w : World) (p : Regrown) : Kept w (ext w p) := below_ext w p
theorem Own.base {W0 W w : World} {e : TypeId} {k n : Nat} {v : Value} {xs : List Value} (h : Own W w e k v n xs) (hk : Kept W0 W) : Own W0 w e k v n xs := by
  refine ⟨hk.trans h.1, h.2.1, ?_⟩
  rcases h.2.2 with h2 | ⟨g, cap, cur, hv, hg, r⟩
  · exact .inl h2
  · exact .inr ⟨g, cap, cur, hv, Nat.le_trans hk.size hg, r⟩
end Pg
namespace Go.Proofs.Ytdoghlncoinhoaa
open Go.RowKit Pg

set_option maxHeartbeats 1000000 in
set_option maxRecDepth 100000 in
theorem refkeep_any {l : List Rt} {v : Value} (w : World) (hl : Els w v 4 Rt.cells l) (hT : Tab l) (hn : l.length ≤ 400) : Calls Try.prog 11 #[v] w (RetEls 36 4 Rt.cells (keepL l) w) := by
  obtain ⟨a, c, rfl, hc, he⟩ := hl.form
  have HE := Lib.hid he
  have HT := Lib.hid hT
  clear hl he hT
  go_enter Try.func11, Try.ntmps11
  go_wp2_with fail
  go_loopw [3, 4, 5, 6, 7] (fun vo vn _ _ _ wr => ∃ (n : Int) (A : List Rt), 0 ≤ n ∧ n ≤ 129 ∧ vn = .int .i64 n ∧ A = stateK l n 0 ∧ Own w wr 36 4 vo A.length (A.flatMap Rt.cells)) (fun _ vn _ _ _ _ => (129 - intOf vn).toNat)
  case atStart => exact ⟨0, [], by omega, by omega, rfl, (stateK_first HT.out).symm, Own.nil _ _ (Kept.refl _) _ _⟩
  case round =>
    obtain ⟨n, A0, hn0, hn1, rfl, hA0, hown⟩ := hrel
    have HO0 := Lib.hid hown
    have HA0 := Lib.hid hA0
    clear hown hA0
    by_cases hle : n ≤ 128
    · go_wp2_with fail
      go_loopw [3, 5, 6, 7] (fun vo vk _ _ w5 => ∃ (i : Nat) (A : List Rt), i ≤ l.length ∧ vk = .int .i64 i ∧ A = stateK l n i ∧ Own w w5 36 4 vo A.length (A.flatMap Rt.cells)) (fun _ vk _ _ _ => l.length - (intOf vk).toNat)
      case atStart => exact ⟨0, A0, by omega, rfl, HA0.out, HO0.out⟩
      case round =>
        clear HO0 HA0
        obtain ⟨i, A, hi9, rfl, hA, hown⟩ := hrel
        have HO := Lib.hid hown
        have hAl : A.length ≤ 400 := by rw [hA]; exact Nat.le_trans (stateK_len l n i) hn
        by_cases hlt : i < l.length
        · have hil : (i : Int) < (l.length : Int) := by omega
          have i0 : (0 : Int) ≤ i := by omega
          obtain ⟨b, o, rfl, hb, hcell⟩ := (HE.out.kept hown.1).at_ (i) hlt
          obtain ⟨e, hee⟩ : ∃ e, (l)[i]'hlt = e := ⟨_, rfl⟩
          rw [hee] at hcell
          have c0 : wr.cell? ⟨b, o + i * 4, none⟩ = some (.int .u64 (hi e.x)) := hcell 0 (by omega)
          have c1 : wr.cell? ⟨b, o + i * 4 + 1, none⟩ = some (.int .u64 (lo e.x)) := hcell 1 (by omega)
          have c2 : wr.cell? ⟨b, o + i * 4 + 2, none⟩ = some (.int .i64 e.n) := hcell 2 (by omega)
          have c3 : wr.cell? ⟨b, o + i * 4 + 3, none⟩ = some (.int .i64 e.act) := hcell 3 (by omega)
          have Hee := Lib.hid hee
          clear hcell hee
          have HEE := Lib.hid Hee.out
          by_cases hen : e.n = n
          · have hb9 : (e.n != n) = false := by simp [hen]
            have hTA : Tab A := by rw [hA]; exact (keepL_tab HT.out).sub (stateK_sub HT.out n i)
            have hel := Own.els Rt.cells_len hown
            have hnear : bestO (fun s => decide (s.n < e.n) && matchR e.x s) A = nearK (keepL l) e := by rw [hA]; exact stateK_near HT.out hen
            have hspec := keepL_spec HT.out (List.getElem_mem hlt)
            rw [HEE.out] at hspec
            have HPUT := Lib.hid (fun (hk : e ∈ keepL l) (W : World) (u : Value) (h : Els W u 4 Rt.cells A) => show Calls Try.prog 32 #[u, rv e] W (RetEls 36 4 Rt.cells (stateK l n (i + 1)) W) by
              have := refputR_any e W h (by omega)
              rwa [show insR e (A.filter fun s => !eqR e.x e.n s) = stateK l n (i + 1) by
                have h5 := stateK_put HT.out hlt (n := n) (by rw [HEE.out]; exact hen) (by rw [HEE.out]; exact hk)
                rw [HEE.out] at h5
                rw [hA]; exact h5] at this)
            have HEL := Lib.hid hel
            have hcv := refcoverR_any e.x e.n wr hel hTA (by omega)
            rw [hnear] at hcv
            cases ho : nearK (keepL l) e with
            | none =>
              have hk : e ∈ keepL l := hspec.2 fun c h => by rw [ho] at h; cases h
              have HP := Lib.hid (HPUT.out hk)
              rw [ho] at hcv
              have HC := Lib.hid (show Calls Try.prog 31 #[u3, pv e.x e.n] wr (Ret (.tuple #[rv z0r, .bool false]) wr) from hcv)
              clear hcv hnear hspec hk ho HPUT hel hTA hown hA hen Hee
              go_wp2_with fail
              refine (HC.out).mono ?_
              rintro e w1 ⟨rfl, q9, rfl⟩
              go_wp2_with fail
              refine named fun wz hwz => ?_
              have hkz := Lib.hid (show Kept wr wz by rw [hwz]; simp (maxDischargeDepth := 99))
              obtain ⟨hbz, hcellz⟩ := (HE.out.kept (HO.out.1.trans hkz.out)).at2 (i) hlt
              obtain ⟨ez, heez⟩ : ∃ e, (l)[i]'hlt = e := ⟨_, rfl⟩
              rw [heez] at hcellz
              have cz0 : wz.cell? ⟨b, o + i * 4, none⟩ = some (.int .u64 (hi ez.x)) := hcellz 0 (by omega)
              have cz1 : wz.cell? ⟨b, o + i * 4 + 1, none⟩ = some (.int .u64 (lo ez.x)) := hcellz 1 (by omega)
              have cz2 : wz.cell? ⟨b, o + i * 4 + 2, none⟩ = some (.int .i64 ez.n) := hcellz 2 (by omega)
              have cz3 : wz.cell? ⟨b, o + i * 4 + 3, none⟩ = some (.int .i64 ez.act) := hcellz 3 (by omega)
              have Heez := Lib.hid heez
              clear hcellz heez
              obtain rfl : e = ez := by rw [← HEE.out, Heez.out]
              clear hwz Heez c0 c1 c2 c3
              refine region_ext _ (Later.refl _) mixed (by kernel_rfl) ?_
              repeat (go_big_quiet_step (fail))
              refine wpQuiet_nil ?_
              rintro _ ⟨q, rfl⟩
              go_wp2_with fail
              refine (HP.out _ _ (HEL.out.kept (hkz.out.trans (kept_extR _ _)))).mono ?_
              rintro e9 w9 hR
              obtain ⟨a9, c9, rfl, hlc9, hown9, hels9⟩ := RetEls.out2 Rt.cells_len hR
              have H9 := Lib.hid (hown9.base (HO.out.1.trans (hkz.out.trans (kept_extR _ _))))
              clear hR hown9 hels9
              go_wp2_with fail
              go_roundw
              case rel => exact ⟨i + 1, stateK l n (i + 1), by omega, by go_num, rfl, H9.out⟩
              case measure => simp [intOf]; omega
            | some cv =>
              rw [ho] at hcv
              have HC := Lib.hid (show Calls Try.prog 31 #[u3, pv e.x e.n] wr (Ret (.tuple #[rv cv, .bool true]) wr) from hcv)
              by_cases hac : cv.act = e.act
              · have HS := Lib.hid (show A = stateK l n (i + 1) by rw [hA, stateK_skip hlt (.inr (by rw [HEE.out]; exact fun h => hspec.1 h cv ho hac))])
                have hb8 : (cv.act != e.act) = false := by simp [hac]
                clear hcv hnear hspec ho HPUT hel hTA hown hA hen Hee hac
                go_wp2_with fail
                refine (HC.out).mono ?_
                rintro e w1 ⟨rfl, q9, rfl⟩
                go_wp2_with fail
                refine named fun wz hwz => ?_
                have hkz := Lib.hid (show Kept wr wz by rw [hwz]; simp (maxDischargeDepth := 99))
                obtain ⟨hbz, hcellz⟩ := (HE.out.kept (HO.out.1.trans hkz.out)).at2 (i) hlt
                obtain ⟨ez, heez⟩ : ∃ e, (l)[i]'hlt = e := ⟨_, rfl⟩
                rw [heez] at hcellz
                have cz0 : wz.cell? ⟨b, o + i * 4, none⟩ = some (.int .u64 (hi ez.x)) := hcellz 0 (by omega)
                have cz1 : wz.cell? ⟨b, o + i * 4 + 1, none⟩ = some (.int .u64 (lo ez.x)) := hcellz 1 (by omega)
                have cz2 : wz.cell? ⟨b, o + i * 4 + 2, none⟩ = some (.int .i64 ez.n) := hcellz 2 (by omega)
                have cz3 : wz.cell? ⟨b, o + i * 4 + 3, none⟩ = some (.int .i64 ez.act) := hcellz 3 (by omega)
                have Heez := Lib.hid heez
                clear hcellz heez
                obtain rfl : e = ez := by rw [← HEE.out, Heez.out]
                obtain ⟨d0, d1, d2, d3, dl⟩ := Blk.four (show Blk wz (ext wr q9).heap.size 36 #[.int .u64 (hi cv.x), .int .u64 (lo cv.x), .int .i64 cv.n, .int .i64 cv.act] by rw [hwz]; exact Blk.new' _ _ _ rfl)
                clear hwz Heez c0 c1 c2 c3
                refine region_ext _ (Later.refl _) mixed (by kernel_rfl) ?_
                repeat (go_big_quiet_step (fail))
                refine wpQuiet_nil ?_
                rintro _ ⟨q, rfl⟩
                go_wp2_with fail
                go_roundw
                case rel => exact ⟨i + 1, A, by omega, by go_num, HS.out, HO.out.step (hkz.out.trans (kept_extR _ _))⟩
                case measure => simp [intOf]; omega
              · have hk : e ∈ keepL l := hspec.2 fun c h => by rw [ho] at h; injection h with h; rw [← h]; exact hac
                have HP := Lib.hid (HPUT.out hk)
                have hb8 : (cv.act != e.act) = true := by simp [hac]
                clear hcv hnear hspec hk ho HPUT hel hTA hown hA hen Hee hac
                go_wp2_with fail
                refine (HC.out).mono ?_
                rintro e w1 ⟨rfl, q9, rfl⟩
                go_wp2_with fail
                refine named fun wz hwz => ?_
                have hkz := Lib.hid (show Kept wr wz by rw [hwz]; simp (maxDischargeDepth := 99))
                obtain ⟨hbz, hcellz⟩ := (HE.out.kept (HO.out.1.trans hkz.out)).at2 (i) hlt
                obtain ⟨ez, heez⟩ : ∃ e, (l)[i]'hlt = e := ⟨_, rfl⟩
                rw [heez] at hcellz
                have cz0 : wz.cell? ⟨b, o + i * 4, none⟩ = some (.int .u64 (hi ez.x)) := hcellz 0 (by omega)
                have cz1 : wz.cell? ⟨b, o + i * 4 + 1, none⟩ = some (.int .u64 (lo ez.x)) := hcellz 1 (by omega)
                have cz2 : wz.cell? ⟨b, o + i * 4 + 2, none⟩ = some (.int .i64 ez.n) := hcellz 2 (by omega)
                have cz3 : wz.cell? ⟨b, o + i * 4 + 3, none⟩ = some (.int .i64 ez.act) := hcellz 3 (by omega)
                have Heez := Lib.hid heez
                clear hcellz heez
                obtain rfl : e = ez := by rw [← HEE.out, Heez.out]
                obtain ⟨d0, d1, d2, d3, dl⟩ := Blk.four (show Blk wz (ext wr q9).heap.size 36 #[.int .u64 (hi cv.x), .int .u64 (lo cv.x), .int .i64 cv.n, .int .i64 cv.act] by rw [hwz]; exact Blk.new' _ _ _ rfl)
                clear hwz Heez c0 c1 c2 c3
                refine region_ext _ (Later.refl _) mixed (by kernel_rfl) ?_
                repeat (go_big_quiet_step (fail))
                refine wpQuiet_nil ?_
                rintro _ ⟨q, rfl⟩
                go_wp2_with fail
                refine (HP.out _ _ (HEL.out.kept (hkz.out.trans (kept_extR _ _)))).mono ?_
                rintro e9 w9 hR
                obtain ⟨a9, c9, rfl, hlc9, hown9, hels9⟩ := RetEls.out2 Rt.cells_len hR
                have H9 := Lib.hid (hown9.base (HO.out.1.trans (hkz.out.trans (kept_extR _ _))))
                clear hR hown9 hels9
                go_wp2_with fail
                go_roundw
                case rel => exact ⟨i + 1, stateK l n (i + 1), by omega, by go_num, rfl, H9.out⟩
                case measure => simp [intOf]; omega
          · have hb9 : (e.n != n) = true := by simp [hen]
            have HS := Lib.hid (show A = stateK l n (i + 1) by rw [hA, stateK_skip hlt (.inl (by rw [HEE.out]; exact hen))])
            clear hown hA Hee hen
            go_wp2_with fail
            go_roundw
            case rel => exact ⟨i + 1, A, by omega, by go_num, HS.out, HO.out⟩
            case measure => simp [intOf]; omega
        · have hil : i = l.length := by omega
          subst hil
          have HS := Lib.hid (show A = stateK l (n + 1) 0 by rw [hA, stateK_next])
          clear hown hA hlt
          go_wp2_with fail
          go_roundw
          case rel => exact ⟨n + 1, A, by omega, by omega, by go_num, HS.out, HO.out⟩
          case measure => simp [intOf]; omega
    · have hn2 : n = 129 := by omega
      subst hn2
      have HS := Lib.hid (show A0 = keepL l by rw [HA0.out, stateK_last HT.out])
      go_wp2_with fail
      go_ret
      exact RetEls.mk (Kept.refl w) (by rw [← HS.out]; exact HO0.out)
end Go.Proofs.Ytdoghlncoinhoaa
