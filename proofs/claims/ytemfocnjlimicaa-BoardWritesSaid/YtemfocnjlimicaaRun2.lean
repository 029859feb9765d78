/- The law's run: the walk. -/
import Derived.Test.YtemfocnjlimicaaRun
import Derived.Test.YtemfocnjlimicaaKitT
namespace Go.Proofs.Ytemfocnjlimicaa
open Go.RowKit Pg

theorem info_refslots : (Try.prog.info? 36).map (fun i => (i.zero, i.size, i.bytes)) = some (some (.slice none 0 0), 1, 24) := by kernel_rfl
set_option maxHeartbeats 4000000 in
set_option maxRecDepth 100000 in
theorem run_any {l : List Mv} {v : Value} (k n M : Nat) (hk : k ≤ 3) (hM : 2 ^ k = M) (h1 : 1 ≤ n) (h2 : n ≤ 20) (w : World) (hl : Els w v 9 Mv.cells l) (hn : l.length ≤ 30) : Calls Try.prog 9 #[.int .i64 (k : Int), .int .i64 (n : Int), v] w (RunPost k n M w) := by
  have HE := Lib.hid hl
  obtain ⟨ad, c, rfl, hc, he⟩ := hl.form
  have hM8 : M ≤ 8 := by rw [← hM]; have : k = 0 ∨ k = 1 ∨ k = 2 ∨ k = 3 := by omega
                         rcases this with rfl | rfl | rfl | rfl <;> decide
  have hM0 : 0 < M := by rw [← hM]; exact Nat.pow_pos (by omega)
  have HM := Lib.hid hM
  have hnew := Lib.hid (fun W => bonew_yes k hk n h1 (by omega) W)
  have k0 : (0 : Int) ≤ (k : Int) := by omega
  have k3 : (k : Int) ≤ 3 := by omega
  have n0 : (0 : Int) ≤ (n : Int) := by omega
  have n3 : (n : Int) ≤ 256 := by omega
  have hmk := run_make_refslots n (by omega)
  clear hl he hM
  go_enter Try.func9, Try.ntmps9
  go_wp2_with fail
  refine (hnew.out _).mono ?_
  rintro e w1 ⟨gb, gp, cap, bs, rfl, hk1, hb1, hl1, hn1⟩
  rw [HM.out] at hl1
  have HB1 := Lib.hid hb1
  have HL1 := Lib.hid hl1
  have HN1 := Lib.hid hn1
  clear hk1 hb1 hl1 hn1
  go_wp2_with fail
  have hsh : wrap64 (2 ^ (min (k : Int) 3).toNat) = (M : Int) := by
    rw [← HM.out]
    have : k = 0 ∨ k = 1 ∨ k = 2 ∨ k = 3 := by omega
    rcases this with rfl | rfl | rfl | rfl <;> decide +kernel
  rw [hsh]
  clear hsh
  have hmn : min (n : Int) 256 = (n : Int) := by omega
  go_loopw [12, 34] (fun vw vk wr => ∃ (j : Nat) (rs : List Value), j ≤ M ∧ vk = .int .i64 j ∧ rs.length = j ∧ RowsAt w1 wr 36 w1.heap.size vw rs (List.replicate j (List.replicate n z0))) (fun _ vk _ => M - (intOf vk).toNat)
  case atStart => exact ⟨0, [], by omega, rfl, rfl, RowsAt.nil (Kept.refl _) _ _⟩
  case round =>
    obtain ⟨j, rs, hj, rfl, hrl, hR⟩ := hrel
    have HR := Lib.hid hR
    have HRL := Lib.hid hrl
    by_cases hlt : j < M
    · have hjl : (j : Int) < (M : Int) := by omega
      have hrs8 : rs.length ≤ 8 := by omega
      have HO := Lib.hid (own_flat Slot.cells_len (List.replicate n z0) (by simp; omega) wr wr (Kept.refl wr) 84)
      have HEL := Lib.hid (Own.els Slot.cells_len HO.out)
      clear hR hrl
      go_wp2_with (first | (at_builtin; refine wpList_push2 rfl _ _ 29 rfl 36 (.slice none 0 0) 1 24 Try.underlying29 info_refslots rfl (by omega) u12 rs.length rs rfl ((HR.out.own.alloc _).alloc _) _ 1 1 [.slice (some ⟨wr.heap.size, 0, none⟩) n n] rfl rfl (Blk.new' _ _ _ (by simp)) (by simp [Value.oneCell']) (by unfold maxLen; omega) (by omega) ?_; intro v' w9 hown9 hgr9 hap9; have HO9 := Lib.hid hown9; have HG9 := Lib.hid hgr9; have HA9 := Lib.hid hap9; clear hown9 hgr9 hap9))
      go_roundw
      case rel =>
        refine ⟨j + 1, rs ++ [.slice (some ⟨wr.heap.size, 0, none⟩) n n], by omega, by go_num, by rw [List.length_append, HRL.out]; rfl, ?_⟩
        rw [List.replicate_succ']
        have he := HEL.out
        have ho := HO.out
        simp only [List.length_replicate] at he ho
        exact HR.out.push ((Kept.refl wr).alloc _) HR.out.own.1.size he (own_new ho) HO9.out HG9.out HA9.out
      case measure => simp [intOf]; omega
    · have hjM : j = M := by omega
      subst hjM
      obtain ⟨gw, capw, hv, _, _, _⟩ := hR.form (by omega)
      rw [hrl] at hv
      subst hv
      have hZ : bs.map Bk.l = List.replicate j (List.replicate n z0) := List.eq_replicate_iff.2 ⟨by rw [List.length_map]; exact HL1.out, fun x hx => by
        obtain ⟨b, hb, rfl⟩ := List.mem_map.1 hx
        exact (HN1.out b hb).1⟩
      have HR0 := Lib.hid (show RunAt w wr k n w1.heap.size gb gp cap gw capw j bs rs 0 from ⟨HB1.out.kept hR.own.1, by rw [hZ]; exact hR.base HB1.out.banks.kept, HB1.out.under, HL1.out, fun b hb => by rw [(HN1.out b hb).2]; omega⟩)
      have HS0 := Lib.hid (show sumB Bk.c bs = 0 from sumB_zero bs fun b hb => (HN1.out b hb).2)
      obtain ⟨s, hs⟩ : ∃ s, w1.heap.size = s := ⟨_, rfl⟩
      rw [hs] at HR0
      clear hR hrl hZ HR HRL hlt hs HB1 HL1 HN1 hmk hmn hnew
      go_wp2_with fail
      go_loopw [13, 15, 16, 17, 46] (fun vw _ _ _ vk wr => ∃ (q : Nat) (bs : List Bk) (rs : List Value), q ≤ l.length ∧ vk = .int .i64 q ∧ vw = .int .i64 (sumB Bk.c bs) ∧ RunAt w wr k n s gb gp cap gw capw j bs rs q) (fun _ _ _ _ vk _ => l.length - (intOf vk).toNat)
      case atStart => exact ⟨0, bs, rs, by omega, rfl, by rw [HS0.out], HR0.out⟩
      case round =>
        clear HR0 HS0
        obtain ⟨q, bs, rs, hq, rfl, rfl, hR⟩ := hrel
        have HR := Lib.hid hR
        by_cases hlt : q < l.length
        · have hql : (q : Int) < (l.length : Int) := by omega
          have q0 : (0 : Int) ≤ q := by omega
          obtain ⟨s1, s2⟩ := sumB_le Bk.c bs fun b hb => by have := hR.cnt b hb; omega
          have hb8 : bs.length ≤ 8 := by rw [hR.len]; exact hM8
          obtain ⟨b, o, rfl, hb, hcell⟩ := (HE.out.kept hR.board.banks.kept).at_ (q) hlt
          obtain ⟨e, hee⟩ : ∃ e, (l)[q]'hlt = e := ⟨_, rfl⟩
          rw [hee] at hcell
          have c0 : wr.cell? ⟨b, o + q * 9, none⟩ = some (.int .i64 e.bank) := hcell 0 (by omega)
          have c1 : wr.cell? ⟨b, o + q * 9 + 1, none⟩ = some (.int .i64 e.w.at_) := hcell 1 (by omega)
          have c2 : wr.cell? ⟨b, o + q * 9 + 2, none⟩ = some (.bool e.w.s.v) := hcell 2 (by omega)
          have c3 : wr.cell? ⟨b, o + q * 9 + 3, none⟩ = some (.int .u64 (hi e.w.s.e.x)) := hcell 3 (by omega)
          have c4 : wr.cell? ⟨b, o + q * 9 + 4, none⟩ = some (.int .u64 (lo e.w.s.e.x)) := hcell 4 (by omega)
          have c5 : wr.cell? ⟨b, o + q * 9 + 5, none⟩ = some (.int .u64 (hi e.w.s.e.m)) := hcell 5 (by omega)
          have c6 : wr.cell? ⟨b, o + q * 9 + 6, none⟩ = some (.int .u64 (lo e.w.s.e.m)) := hcell 6 (by omega)
          have c7 : wr.cell? ⟨b, o + q * 9 + 7, none⟩ = some (.int .i64 e.w.s.e.len) := hcell 7 (by omega)
          have c8 : wr.cell? ⟨b, o + q * 9 + 8, none⟩ = some (.int .i64 e.w.s.e.act) := hcell 8 (by omega)
          have Hee := Lib.hid hee
          clear hcell hee
          obtain ⟨S, hS⟩ : ∃ S, sumB Bk.c bs = S := ⟨_, rfl⟩
          rw [hS] at s1 s2 ⊢
          have HS := Lib.hid hS
          clear hR Hee hS
          go_wp2_with fail
          obtain ⟨gm, hgm⟩ : ∃ gm, gm = wr.heap.size := ⟨_, rfl⟩
          obtain ⟨w4, hw4⟩ : ∃ w4, w4 = wr.alloc (.cells #[.int .i64 e.bank, .int .i64 e.w.at_, .bool e.w.s.v, .int .u64 (hi e.w.s.e.x), .int .u64 (lo e.w.s.e.x), .int .u64 (hi e.w.s.e.m), .int .u64 (lo e.w.s.e.m), .int .i64 e.w.s.e.len, .int .i64 e.w.s.e.act] 54) := ⟨_, rfl⟩
          have HM4 := Lib.hid (show Blk w4 gm 54 #[.int .i64 e.bank, .int .i64 e.w.at_, .bool e.w.s.v, .int .u64 (hi e.w.s.e.x), .int .u64 (lo e.w.s.e.x), .int .u64 (hi e.w.s.e.m), .int .u64 (lo e.w.s.e.m), .int .i64 e.w.s.e.len, .int .i64 e.w.s.e.act] by rw [hw4]; exact Blk.new' wr _ _ hgm)
          have HR4 := Lib.hid (HR.out.kept (show Kept wr w4 by rw [hw4]; exact Kept.alloc (Kept.refl wr) _))
          have HGM := Lib.hid (show s ≤ gm by have := HR.out.sle; omega)
          rw [← hgm, ← hw4]
          clear hgm hw4 HR c0 c1 c2 c3 c4 c5 c6 c7 c8
          by_cases d0 : e.bank < 0
          · have e0 : decide (e.bank < 0) = true := decide_eq_true d0
            refine (run_same HR4.out hM8 (by omega) e 5 (.inl ⟨.inl d0, rfl⟩)).mono ?_
            rintro e9 w5 ⟨rfl, hR5, ha5⟩
            have HR5 := Lib.hid hR5
            have HM5 := Lib.hid (ha5 gm _ _ HGM.out HM4.out)
            have y0 := fun q => HM5.out.cell q
            have yl := HM5.out.lt
            clear hR5 ha5 HR4 HM4
            go_wp2_with fail
            go_roundw
            case rel => exact ⟨q + 1, bs, rs, by omega, by go_num, by rw [HS.out], HR5.out.le _ (by omega)⟩
            case measure => simp [intOf]; omega
          have e0 : decide (e.bank < 0) = false := decide_eq_false d0
          by_cases d1 : (j : Int) ≤ e.bank
          · have e1 : decide ((j : Int) ≤ e.bank) = true := decide_eq_true d1
            refine (run_same HR4.out hM8 (by omega) e 5 (.inl ⟨.inr d1, rfl⟩)).mono ?_
            rintro e9 w5 ⟨rfl, hR5, ha5⟩
            have HR5 := Lib.hid hR5
            have HM5 := Lib.hid (ha5 gm _ _ HGM.out HM4.out)
            have y0 := fun q => HM5.out.cell q
            have yl := HM5.out.lt
            clear hR5 ha5 HR4 HM4
            go_wp2_with fail
            go_roundw
            case rel => exact ⟨q + 1, bs, rs, by omega, by go_num, by rw [HS.out], HR5.out.le _ (by omega)⟩
            case measure => simp [intOf]; omega
          have e1 : decide ((j : Int) ≤ e.bank) = false := decide_eq_false d1
          obtain ⟨i, hi9⟩ := Int.eq_ofNat_of_zero_le (show 0 ≤ e.bank by omega)
          have hij : i < j := by omega
          by_cases d2 : e.w.at_ < 0
          · have e2 : decide (e.w.at_ < 0) = true := decide_eq_true d2
            have hs9 := doE_slot (x := e.w) (n := n) (.inl d2)
            refine (run_same HR4.out hM8 (by omega) e 5 (.inr ⟨i, hi9, hij, hs9.2, hs9.1⟩)).mono ?_
            rintro e9 w5 ⟨rfl, hR5, ha5⟩
            have HR5 := Lib.hid hR5
            have HM5 := Lib.hid (ha5 gm _ _ HGM.out HM4.out)
            have y0 := fun q => HM5.out.cell q
            have yl := HM5.out.lt
            clear hR5 ha5 HR4 HM4
            go_wp2_with fail
            go_roundw
            case rel => exact ⟨q + 1, bs, rs, by omega, by go_num, by rw [HS.out], HR5.out.le _ (by omega)⟩
            case measure => simp [intOf]; omega
          have e2 : decide (e.w.at_ < 0) = false := decide_eq_false d2
          by_cases d3 : (n : Int) ≤ e.w.at_
          · have e3 : decide ((n : Int) ≤ e.w.at_) = true := decide_eq_true d3
            have hs9 := doE_slot (x := e.w) (n := n) (.inr d3)
            refine (run_same HR4.out hM8 (by omega) e 5 (.inr ⟨i, hi9, hij, hs9.2, hs9.1⟩)).mono ?_
            rintro e9 w5 ⟨rfl, hR5, ha5⟩
            have HR5 := Lib.hid hR5
            have HM5 := Lib.hid (ha5 gm _ _ HGM.out HM4.out)
            have y0 := fun q => HM5.out.cell q
            have yl := HM5.out.lt
            clear hR5 ha5 HR4 HM4
            go_wp2_with fail
            go_roundw
            case rel => exact ⟨q + 1, bs, rs, by omega, by go_num, by rw [HS.out], HR5.out.le _ (by omega)⟩
            case measure => simp [intOf]; omega
          have e3 : decide ((n : Int) ≤ e.w.at_) = false := decide_eq_false d3
          cases hm : mayW e.w n
          · have hs9 := doE_bad (x := e.w) (n := n) (by omega) hm
            have HMay := Lib.hid (fun W => refmay_as hm W)
            refine (run_same HR4.out hM8 (by omega) e 1 (.inr ⟨i, hi9, hij, hm, hs9⟩)).mono ?_
            rintro e9 w5 ⟨rfl, hR5, ha5⟩
            have HR5 := Lib.hid hR5
            have HM5 := Lib.hid (ha5 gm _ _ HGM.out HM4.out)
            have y0 := fun q => HM5.out.cell q
            have yl := HM5.out.lt
            clear hR5 ha5 HR4 HM4 hm hs9
            go_wp2_with fail
            refine (law08writes_any _ (els_one e.w (Blk.new' w5 52 _ rfl)) (by simp)).mono ?_
            rintro e9 w6 hR6
            obtain ⟨a6, c6, rfl, hlc6, hown6, hels6⟩ := RetEls.out2 Wr.cells_len hR6
            have HE6 := Lib.hid hels6
            have HK6 := Lib.hid ((Kept.alloc (Kept.refl w5) _).trans hown6.1)
            obtain ⟨b6, o6, rfl, hb6, hcell6⟩ := els_head hels6
            have d0' : w6.cell? ⟨b6, o6, none⟩ = some (.int .i64 e.w.at_) := hcell6 0 (by omega)
            have d1' : w6.cell? ⟨b6, o6 + 1, none⟩ = some (.bool e.w.s.v) := hcell6 1 (by omega)
            have d2' : w6.cell? ⟨b6, o6 + 2, none⟩ = some (.int .u64 (hi e.w.s.e.x)) := hcell6 2 (by omega)
            have d3' : w6.cell? ⟨b6, o6 + 3, none⟩ = some (.int .u64 (lo e.w.s.e.x)) := hcell6 3 (by omega)
            have d4' : w6.cell? ⟨b6, o6 + 4, none⟩ = some (.int .u64 (hi e.w.s.e.m)) := hcell6 4 (by omega)
            have d5' : w6.cell? ⟨b6, o6 + 5, none⟩ = some (.int .u64 (lo e.w.s.e.m)) := hcell6 5 (by omega)
            have d6' : w6.cell? ⟨b6, o6 + 6, none⟩ = some (.int .i64 e.w.s.e.len) := hcell6 6 (by omega)
            have d7' : w6.cell? ⟨b6, o6 + 7, none⟩ = some (.int .i64 e.w.s.e.act) := hcell6 7 (by omega)
            clear hR6 hown6 hels6 hcell6 y0 yl
            go_wp2_with (first | (go_at_call 33; first | ((refine (calls_in (HMay.out _)).mono ?_); rintro e w1 ⟨rfl, q1, rfl⟩) | ((refine (HMay.out _).mono ?_); rintro e w1 ⟨rfl, q1, rfl⟩)))
            go_roundw
            case rel => exact ⟨q + 1, bs, rs, by omega, by go_num, by rw [HS.out], (HR5.out.kept (HK6.out.trans (by simp (maxDischargeDepth := 99)))).le _ (by omega)⟩
            case measure => simp [intOf]; omega
          · have HMay := Lib.hid (fun W => refmay_as hm W)
            have hil : i < bs.length := by rw [HR4.out.len]; exact hij
            have hrb : i < rs.length := by rw [HR4.out.rlen]; exact hij
            have hil2 : i < (bs.map Bk.l).length := by rw [List.length_map]; exact hil
            obtain ⟨L, hL⟩ : ∃ L, bs[i].l = L := ⟨_, rfl⟩
            have HLn := Lib.hid (show L.length = n by rw [← hL]; exact HR4.out.board.size _ (List.getElem_mem hil))
            have HL := Lib.hid hL
            obtain ⟨P, hP⟩ : ∃ P, putW L e.w = P := ⟨_, rfl⟩
            have HP := Lib.hid hP
            have HEL4 := Lib.hid (show Els w4 rs[i] 7 Slot.cells L by
              have := HR4.out.rows.els i hrb hil2
              rwa [List.getElem_map, hL] at this)
            obtain ⟨ar, cr, hri, hlr, _⟩ := HEL4.out.form
            rw [hri] at HEL4
            have HRI := Lib.hid hri
            have i0 : (0 : Int) ≤ (i : Int) := by omega
            have i1 : (i : Int) < (j : Int) := by omega
            rw [hi9] at HM4 e0 e1 ⊢
            refine (run_put HR4.out hM8 (by omega) i hil e.w hm).mono ?_
            rintro e9 w5 ⟨rfl, hb5, hr5, ha5⟩
            have HB5 := Lib.hid hb5
            have HRR5 := Lib.hid hr5
            have HM5 := Lib.hid (ha5 gm _ _ HGM.out HM4.out)
            have HEL5 := Lib.hid (show Els w5 (.slice ar L.length cr) 7 Slot.cells L by
              have := hr5.els i hrb hil2
              rwa [List.getElem_map, HL.out, HRI.out] at this)
            have y0 := fun q => HM5.out.cell q
            have yl := HM5.out.lt
            clear hb5 hr5 ha5 HM4 HEL4 hm hL hP hri d0 d1 d2 d3 hi9
            go_wp2_with fail
            refine (law08writes_any _ (els_one e.w (Blk.new' w5 52 _ rfl)) (by simp)).mono ?_
            rintro e9 w6 hR6
            obtain ⟨a6, c6, rfl, hlc6, hown6, hels6⟩ := RetEls.out2 Wr.cells_len hR6
            have HE6 := Lib.hid hels6
            have HK6 := Lib.hid ((Kept.alloc (Kept.refl w5) _).trans hown6.1)
            obtain ⟨b6, o6, rfl, hb6, hcell6⟩ := els_head hels6
            have d0' : w6.cell? ⟨b6, o6, none⟩ = some (.int .i64 e.w.at_) := hcell6 0 (by omega)
            have d1' : w6.cell? ⟨b6, o6 + 1, none⟩ = some (.bool e.w.s.v) := hcell6 1 (by omega)
            have d2' : w6.cell? ⟨b6, o6 + 2, none⟩ = some (.int .u64 (hi e.w.s.e.x)) := hcell6 2 (by omega)
            have d3' : w6.cell? ⟨b6, o6 + 3, none⟩ = some (.int .u64 (lo e.w.s.e.x)) := hcell6 3 (by omega)
            have d4' : w6.cell? ⟨b6, o6 + 4, none⟩ = some (.int .u64 (hi e.w.s.e.m)) := hcell6 4 (by omega)
            have d5' : w6.cell? ⟨b6, o6 + 5, none⟩ = some (.int .u64 (lo e.w.s.e.m)) := hcell6 5 (by omega)
            have d6' : w6.cell? ⟨b6, o6 + 6, none⟩ = some (.int .i64 e.w.s.e.len) := hcell6 6 (by omega)
            have d7' : w6.cell? ⟨b6, o6 + 7, none⟩ = some (.int .i64 e.w.s.e.act) := hcell6 7 (by omega)
            clear hR6 hown6 hels6 hcell6 y0 yl
            go_wp2_with (first | (go_at_call 33; first | ((refine (calls_in (HMay.out _)).mono ?_); rintro e w1 ⟨rfl, q1, rfl⟩) | ((refine (HMay.out _).mono ?_); rintro e w1 ⟨rfl, q1, rfl⟩)))
            obtain ⟨w7, hw7⟩ : ∃ w7, w7 = ext w6 q1 := ⟨_, rfl⟩
            have HK7 := Lib.hid (show Kept w5 w7 by rw [hw7]; exact HK6.out.trans (below_ext _ _))
            have HX7 := Lib.hid (show Els w7 (.slice (some ⟨b6, o6, none⟩) [e.w].length c6) 8 Wr.cells [e.w] by rw [hw7]; exact HE6.out.ext _)
            rw [← hw7]
            have hI1 : ∀ t : In (Kept w7), t.w.cell? ⟨gm, 0, none⟩ = some (.int .i64 (i : Int)) := fun t => (HM5.out.kept (HK7.out.trans t.h)).cell 0
            have hI2 : ∀ t : In (Kept w7), t.w.cell? ⟨gw, i, none⟩ = some (.slice ar L.length cr) := fun t => by
              have := (HRR5.out.kept (HK7.out.trans t.h)).cell i hrb
              rwa [HRI.out] at this
            have hne : Nonempty (In (Kept w7)) := ⟨⟨_, Kept.refl _⟩⟩
            have hLk : L.length ≤ 1000 := by rw [HLn.out]; omega
            clear hw7 HE6 HK6 d0' d1' d2' d3' d4' d5' d6' d7' HMay
            refine region_seqT (fun w' => ∃ t : In (Kept w7), w' = t.w) 10 ⟨⟨_, Kept.drawn1 (Kept.refl _)⟩, rfl⟩ mixed (by kernel_rfl) (by kernel_rfl) ?_
            intro W1 hW1
            have HK1 := Lib.hid (show Kept w7 W1 by rw [hW1]; exact Kept.drawn1 (Kept.refl _))
            clear hW1
            simp only [List.take_succ_cons, List.take_zero, List.drop_succ_cons, List.drop_zero]
            repeat (refine seq_plain (by rfl) ?_; go_big_quiet_step (fail); refine wpQuiet_nil ?_)
            refine seq_move (by rfl) (by rfl) ?_
            go_wp2_with fail
            refine (refapply_any _ (HEL5.out.kept (HK7.out.trans HK1.out)) hLk (HX7.out.kept HK1.out) (by simp)).mono ?_
            rintro e9 w8 hR8
            obtain ⟨a8, c8, rfl, hlc8, hown8, hels8⟩ := RetEls.out2 Slot.cells_len hR8
            have HK8 := Lib.hid hown8.1
            have HN8 := Lib.hid (own_new hown8)
            have HE8 := Lib.hid hels8
            clear hR8 hown8 hels8
            go_wp2_with fail
            refine ⟨_, rfl, ⟨⟨_, HK1.out.trans HK8.out⟩, rfl⟩, ?_⟩
            repeat (refine seq_plain (by rfl) ?_; go_big_quiet_step (fail); refine wpQuiet_nil ?_)
            refine seq_nil ?_
            have HK9 := Lib.hid (HK7.out.trans (HK1.out.trans HK8.out))
            have rf := fun q => (HRR5.out.kept HK9.out).frozen (by omega) q
            have rc := (HRR5.out.kept HK9.out).cell i hrb
            rw [HRI.out] at rc
            have rl : gw < w8.heap.size := (HRR5.out.kept HK9.out).own.2.lt gw rfl |>.2
            clear hI1 hI2 hne
            go_wp2_with fail
            go_roundw
            case rel =>
              refine ⟨q + 1, _, rs.set i _, by omega, by go_num, ?_, HR4.out.put i hil e.w HB5.out HRR5.out HK9.out ?_ ?_ ?_⟩
              · rw [sumB_set Bk.c bs i hil, HS.out]
                congr 1
                dsimp only
                omega
              · exact Nat.le_trans HGM.out (Nat.le_of_lt HM5.out.lt)
              · rw [HL.out]
                exact HE8.out
              · exact fun g hg => ⟨Nat.le_trans (HK7.out.trans HK1.out).size (HN8.out g hg).1, (HN8.out g hg).2⟩
            case measure => simp [intOf]; omega
        · have hqe : q = l.length := by omega
          subst hqe
          clear hlt
          go_wp2_with fail
          exact bodyPost_ret (v := .tuple #[.pointer (some ⟨gb, 0, none⟩), .slice (some ⟨gw, 0, none⟩) j capw, .int .i64 (sumB Bk.c bs), .bool true]) (by simp [results, Try.results9, go_sem]) rfl ⟨s, gb, gp, cap, gw, capw, bs, rs, rfl, HR.out.le _ hn⟩
end Go.Proofs.Ytemfocnjlimicaa
