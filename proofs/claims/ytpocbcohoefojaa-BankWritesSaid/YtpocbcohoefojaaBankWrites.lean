/- BankWrites: behind any writes a bank's slots, and how many were written, are the document's; each tells what it is to; a copy is one of its own. -/
import Derived.Test.YtpocbcohoefojaaRows
import Derived.Test.YtpocbcohoefojaaBank14
import Derived.Test.YtpocbcohoefojaaOpenSlots
namespace Pg
open Go
theorem els_one {w : World} {g : Nat} {t : TypeId} (e : Wr) (h : Blk w g t (Wr.cells e).toArray) : Els w (.slice (some ⟨g, 0, none⟩) 1 1) 8 Wr.cells [e] :=
  ⟨_, 1, rfl, Nat.le_refl _, fun _ => ⟨g, 0, rfl, h.lt, fun i hi j hj => by
    have : i = 0 := by simp at hi; omega
    subst this
    rw [Nat.zero_mul, Nat.zero_add, h.cell]
    simp⟩⟩
theorem els_head {w : World} {a : Option Addr} {c : Nat} {e : Wr} (h : Els w (.slice a [e].length c) 8 Wr.cells [e]) : ∃ b o, a = some ⟨b, o, none⟩ ∧ b < w.heap.size ∧ ∀ j, j < 8 → w.cell? ⟨b, o + j, none⟩ = (Wr.cells e)[j]? := by
  obtain ⟨b, o, ha, hb, hc⟩ := h.at_ 0 (by simp)
  refine ⟨b, o, ha, hb, fun j hj => ?_⟩
  have := hc j hj
  rwa [Nat.zero_mul, Nat.add_zero] at this
end Pg
namespace Go.Proofs.Ytpocbcohoefojaa
open Go.RowKit Pg Go.ChangeShapes Go.WideShapes Go.ChangeAt

set_option maxHeartbeats 1000000 in
set_option maxRecDepth 100000 in
theorem bankWrites_go {l : List Wr} {v : Value} (n : Nat) (h1 : 1 ≤ n) (h2 : n ≤ 256) (w : World) (hl : Els w v 8 Wr.cells l) (hn : l.length ≤ 40) : Calls Try.prog 3 #[.int .i64 (n : Int), v] w (Ret (.bool true) w) := by
  have HE := Lib.hid hl
  obtain ⟨ad, c, rfl, hc, he⟩ := hl.form
  obtain ⟨Z, hZ⟩ : ∃ Z, Z = List.replicate n z0 := ⟨_, rfl⟩
  have HZl := Lib.hid (show Z.length = n by rw [hZ]; simp)
  have hnew := Lib.hid (fun w => show Calls Try.prog 10 #[.int .i64 (n : Int)] w (fun e w2 => ∃ g gr, e = .returned (.tuple #[.pointer (some ⟨g, 0, none⟩), .int .i64 0]) ∧ Kept w w2 ∧ BankAt w w2 g gr Z 0) by rw [hZ]; exact bnew_yes n w h1 (by omega))
  have hmk := fun W => run_make_refslots n (by omega) W
  have HZ := Lib.hid hZ
  have g1 : ¬ (40 : Int) < (l.length : Int) := by omega
  have g2 : ¬ (n : Int) < 1 := by omega
  have g3 : ¬ (256 : Int) < (n : Int) := by omega
  have g4 : max (n : Int) 1 = (n : Int) := by omega
  have g5 : min (n : Int) 256 = (n : Int) := by omega
  clear hl he hZ
  go_enter Try.func3, Try.ntmps3
  go_wp2_with (first | (go_at_call 10; refine (hnew.out _).mono ?_; rintro e w1 ⟨g, gr, rfl, hk1, hB1⟩; have HB1 := Lib.hid hB1; clear hB1 hk1))
  have HV1 := Lib.hid (Own.els Slot.cells_len (own_flat Slot.cells_len (List.replicate n z0) (by simp; omega) w1 w1 (Kept.refl _) 50))
  rw [← HZ.out] at HV1
  have HVO1 := Lib.hid (own_ne (own_flat Slot.cells_len (List.replicate n z0) (by simp; omega) w1 w1 (Kept.refl _) 50) HB1.out)
  go_loopw [7, 8, 10, 11, 12, 13, 50] (fun vw vc _ _ _ _ vk wr => ∃ (k : Nat) (cnt : Int) (L : List Slot), k ≤ l.length ∧ vk = .int .i64 k ∧ vc = .int .i64 cnt ∧ 0 ≤ cnt ∧ cnt ≤ k ∧ L = applyS Z (l.take k) ∧ BankAt w wr g gr L cnt ∧ ∃ a c, vw = .slice a L.length c ∧ Els wr (.slice a L.length c) 7 Slot.cells L ∧ ((Value.slice a L.length c).ownBlock ≠ some g ∧ (Value.slice a L.length c).ownBlock ≠ some gr)) (fun _ _ _ _ _ _ k _ => l.length - (intOf k).toNat)
  case atStart => exact ⟨0, 0, Z, by omega, rfl, rfl, by omega, by omega, rfl, HB1.out.kept (Kept.alloc (Kept.refl _) _), some ⟨w1.heap.size, 0, none⟩, n, by rw [HZl.out], by have := HV1.out; rw [HZ.out] at this ⊢; simpa using this, by have := HVO1.out; rw [HZ.out]; simpa using this⟩
  case round =>
    clear HB1 HV1 HVO1
    obtain ⟨i9, cnt, L, hi9, rfl, rfl, hc0, hck, hLe, hb, a7, c7, rfl, hv, hvo⟩ := hrel
    have HB := Lib.hid hb
    have HV := Lib.hid hv
    have HVO := Lib.hid hvo
    have HLe := Lib.hid hLe
    have hLn : L.length = n := by rw [hLe, applyS_len, HZl.out]
    have hLm : L.length ≤ 1000 := by omega
    by_cases hlt : i9 < l.length
    · have hil : (i9 : Int) < (l.length : Int) := by omega
      obtain ⟨b, o, rfl, hb, hcell⟩ := (HE.out.kept hb.own.1).at_ (i9) hlt
      obtain ⟨e, hee⟩ : ∃ e, (l)[i9]'hlt = e := ⟨_, rfl⟩
      rw [hee] at hcell
      have c0 : wr.cell? ⟨b, o + i9 * 8, none⟩ = some (.int .i64 e.at_) := hcell 0 (by omega)
      have c1 : wr.cell? ⟨b, o + i9 * 8 + 1, none⟩ = some (.bool e.s.v) := hcell 1 (by omega)
      have c2 : wr.cell? ⟨b, o + i9 * 8 + 2, none⟩ = some (.int .u64 (hi e.s.e.x)) := hcell 2 (by omega)
      have c3 : wr.cell? ⟨b, o + i9 * 8 + 3, none⟩ = some (.int .u64 (lo e.s.e.x)) := hcell 3 (by omega)
      have c4 : wr.cell? ⟨b, o + i9 * 8 + 4, none⟩ = some (.int .u64 (hi e.s.e.m)) := hcell 4 (by omega)
      have c5 : wr.cell? ⟨b, o + i9 * 8 + 5, none⟩ = some (.int .u64 (lo e.s.e.m)) := hcell 5 (by omega)
      have c6 : wr.cell? ⟨b, o + i9 * 8 + 6, none⟩ = some (.int .i64 e.s.e.len) := hcell 6 (by omega)
      have c7 : wr.cell? ⟨b, o + i9 * 8 + 7, none⟩ = some (.int .i64 e.s.e.act) := hcell 7 (by omega)
      have Hee := Lib.hid hee
      clear hcell hee
      have HT := Lib.hid (show applyS L [e] = applyS Z (l.take (i9 + 1)) by rw [List.take_succ_eq_append_getElem hlt, applyS_snoc, Hee.out, ← hLe]; rfl)
      obtain ⟨gx, hgx⟩ : ∃ gx, gx = wr.heap.size := ⟨_, rfl⟩
      have HGX := Lib.hid hgx
      have HGN := Lib.hid (show gx ≠ g ∧ gx ≠ gr by
        have e1 := HB.out.blk.lt
        have e2 := (HB.out.own.2.lt gr rfl).2
        omega)
      have HKW := Lib.hid HB.out.own.1
      have HLn := Lib.hid hLn
      clear hv hvo hLe hgx Hee hLn
      -- ROUNDS
      by_cases hx1 : e.at_ < 0
      · have hcase : e.at_ < 0 ∨ (n : Int) ≤ e.at_ := by omega
        have hdo := Lib.hid (fun (W : World) (h : BankAt w W g gr L cnt) => show Calls Try.prog 13 #[.pointer (some ⟨g, 0, none⟩), wrv e] W (fun en w2 => en = .returned (.int .i64 5) ∧ Chg W w2 g gr ∧ BankAt w w2 g gr L (cnt)) from
          (bdo_any h hc0 (by omega) e).mono fun _ _ ⟨h1, h2, h3⟩ => by
            rw [(doE_slot (by rw [HLn.out]; exact hcase)).1] at h1; unfold putW at h3; rw [(doE_slot (by rw [HLn.out]; exact hcase)).2] at h3
            exact ⟨h1, h2, h3⟩)
        have HT2 := Lib.hid (show applyS L [e] = L by show putW L e = L; unfold putW; rw [(doE_slot (by rw [HLn.out]; exact hcase)).2]; rfl)
        clear hcase
        go_wp2_with fail
        rw [← HGX.out]
        refine (bcopy_any (HB.out.kept (Kept.alloc (Kept.refl _) _))).mono ?_
        rintro e9 w2 ⟨g', gr', rfl, hk2, hB2⟩
        have HK2 := Lib.hid hk2
        have HB2 := Lib.hid hB2
        have HX2 := Lib.hid ((Blk.new' wr 39 #[.int .i64 e.at_, .bool e.s.v, .int .u64 (hi e.s.e.x), .int .u64 (lo e.s.e.x), .int .u64 (hi e.s.e.m), .int .u64 (lo e.s.e.m), .int .i64 e.s.e.len, .int .i64 e.s.e.act] HGX.out).kept hk2)
        have HN := Lib.hid (show g' ≠ g ∧ g' ≠ gr ∧ gr' ≠ g ∧ gr' ≠ gr by
          have e1 := HB.out.blk.lt
          have e2 := (HB.out.own.2.lt gr rfl).2
          have e3 := hB2.low
          have e4 := hB2.lowr
          simp only [World.size_alloc] at e3 e4
          omega)
        have x0 := fun j => HX2.out.cell j
        have xl := HX2.out.lt
        clear hk2 hB2
        go_wp2_with fail
        refine (hdo.out _ (HB.out.kept ((Kept.alloc (Kept.refl _) _).trans HK2.out))).mono ?_
        rintro e9 w3 ⟨rfl, hcg, hb3⟩
        have HB3 := Lib.hid hb3
        have HV3 := Lib.hid ((HV.out.kept ((Kept.alloc (Kept.refl _) _).trans HK2.out)).chg hcg HVO.out.1 HVO.out.2)
        have HX3 := Lib.hid (Chg_blk HX2.out hcg HGN.out.1 HGN.out.2)
        have HBC := Lib.hid ((HB2.out.base (Kept.alloc HKW.out _)).chg hcg hb3.own.1 HN.out.1 HN.out.2.1 HN.out.2.2.1 HN.out.2.2.2)
        have y := fun j => HX3.out.cell j
        have yl := HX3.out.lt
        clear hcg hb3 HB HV HX2 hdo x0 xl
        go_wp2_with fail
        refine (law08writes_any _ (els_one e (Blk.new' w3 39 _ rfl)) (by simp)).mono ?_
        rintro e9 w4 hR
        obtain ⟨a4, c4, rfl, hlc4, hown4, hels4⟩ := RetEls.out2 Wr.cells_len hR
        obtain ⟨b4, o4, rfl, hb4, hcell4⟩ := els_head hels4
        have k4 := Lib.hid (Kept.trans (Kept.alloc (Kept.refl w3) _) hown4.1)
        have HX4 := Lib.hid (HX3.out.kept k4.out)
        have HE4 := Lib.hid hels4
        have y0 := HX4.out.cell 0
        have y1 := HX4.out.lt
        have t0 : w4.cell? ⟨b4, o4, none⟩ = some (.int .i64 e.at_) := hcell4 0 (by omega)
        have t1 : w4.cell? ⟨b4, o4 + 1, none⟩ = some (.bool e.s.v) := hcell4 1 (by omega)
        have t2 : w4.cell? ⟨b4, o4 + 2, none⟩ = some (.int .u64 (hi e.s.e.x)) := hcell4 2 (by omega)
        have t3 : w4.cell? ⟨b4, o4 + 3, none⟩ = some (.int .u64 (lo e.s.e.x)) := hcell4 3 (by omega)
        have t4 : w4.cell? ⟨b4, o4 + 4, none⟩ = some (.int .u64 (hi e.s.e.m)) := hcell4 4 (by omega)
        have t5 : w4.cell? ⟨b4, o4 + 5, none⟩ = some (.int .u64 (lo e.s.e.m)) := hcell4 5 (by omega)
        have t6 : w4.cell? ⟨b4, o4 + 6, none⟩ = some (.int .i64 e.s.e.len) := hcell4 6 (by omega)
        have t7 : w4.cell? ⟨b4, o4 + 7, none⟩ = some (.int .i64 e.s.e.act) := hcell4 7 (by omega)
        clear hR hown4 hels4 hcell4 HX3 y yl
        go_wp2_with fail
        refine (refapply_any _ (HV3.out.kept k4.out) (by omega) (HE4.out.kept (Kept.refl _)) (by simp)).mono ?_
        rintro e9 w9 hR
        obtain ⟨a9, c9, rfl, hlc9, hown9, hels9⟩ := RetEls.out2 Slot.cells_len hR
        have HV9 := Lib.hid hels9
        have HB9 := Lib.hid (HB3.out.kept (Kept.trans k4.out hown9.1))
        have HVO9 := Lib.hid (own_ne hown9 (HB3.out.kept k4.out))
        clear hR hown9 hels9
        go_wp2_with fail
        go_roundw
        case rel => exact ⟨i9 + 1, cnt, applyS L [e], by omega, by go_num, rfl, by omega, by omega, HT.out, by rw [HT2.out]; exact HB9.out, _, _, rfl, HV9.out, HVO9.out⟩
        case measure => simp [intOf]; omega
      by_cases hx2 : (n : Int) ≤ e.at_
      · have hcase : e.at_ < 0 ∨ (n : Int) ≤ e.at_ := by omega
        have hdo := Lib.hid (fun (W : World) (h : BankAt w W g gr L cnt) => show Calls Try.prog 13 #[.pointer (some ⟨g, 0, none⟩), wrv e] W (fun en w2 => en = .returned (.int .i64 5) ∧ Chg W w2 g gr ∧ BankAt w w2 g gr L (cnt)) from
          (bdo_any h hc0 (by omega) e).mono fun _ _ ⟨h1, h2, h3⟩ => by
            rw [(doE_slot (by rw [HLn.out]; exact hcase)).1] at h1; unfold putW at h3; rw [(doE_slot (by rw [HLn.out]; exact hcase)).2] at h3
            exact ⟨h1, h2, h3⟩)
        have HT2 := Lib.hid (show applyS L [e] = L by show putW L e = L; unfold putW; rw [(doE_slot (by rw [HLn.out]; exact hcase)).2]; rfl)
        clear hcase
        go_wp2_with fail
        rw [← HGX.out]
        refine (bcopy_any (HB.out.kept (Kept.alloc (Kept.refl _) _))).mono ?_
        rintro e9 w2 ⟨g', gr', rfl, hk2, hB2⟩
        have HK2 := Lib.hid hk2
        have HB2 := Lib.hid hB2
        have HX2 := Lib.hid ((Blk.new' wr 39 #[.int .i64 e.at_, .bool e.s.v, .int .u64 (hi e.s.e.x), .int .u64 (lo e.s.e.x), .int .u64 (hi e.s.e.m), .int .u64 (lo e.s.e.m), .int .i64 e.s.e.len, .int .i64 e.s.e.act] HGX.out).kept hk2)
        have HN := Lib.hid (show g' ≠ g ∧ g' ≠ gr ∧ gr' ≠ g ∧ gr' ≠ gr by
          have e1 := HB.out.blk.lt
          have e2 := (HB.out.own.2.lt gr rfl).2
          have e3 := hB2.low
          have e4 := hB2.lowr
          simp only [World.size_alloc] at e3 e4
          omega)
        have x0 := fun j => HX2.out.cell j
        have xl := HX2.out.lt
        clear hk2 hB2
        go_wp2_with fail
        refine (hdo.out _ (HB.out.kept ((Kept.alloc (Kept.refl _) _).trans HK2.out))).mono ?_
        rintro e9 w3 ⟨rfl, hcg, hb3⟩
        have HB3 := Lib.hid hb3
        have HV3 := Lib.hid ((HV.out.kept ((Kept.alloc (Kept.refl _) _).trans HK2.out)).chg hcg HVO.out.1 HVO.out.2)
        have HX3 := Lib.hid (Chg_blk HX2.out hcg HGN.out.1 HGN.out.2)
        have HBC := Lib.hid ((HB2.out.base (Kept.alloc HKW.out _)).chg hcg hb3.own.1 HN.out.1 HN.out.2.1 HN.out.2.2.1 HN.out.2.2.2)
        have y := fun j => HX3.out.cell j
        have yl := HX3.out.lt
        clear hcg hb3 HB HV HX2 hdo x0 xl
        go_wp2_with fail
        refine (law08writes_any _ (els_one e (Blk.new' w3 39 _ rfl)) (by simp)).mono ?_
        rintro e9 w4 hR
        obtain ⟨a4, c4, rfl, hlc4, hown4, hels4⟩ := RetEls.out2 Wr.cells_len hR
        obtain ⟨b4, o4, rfl, hb4, hcell4⟩ := els_head hels4
        have k4 := Lib.hid (Kept.trans (Kept.alloc (Kept.refl w3) _) hown4.1)
        have HX4 := Lib.hid (HX3.out.kept k4.out)
        have HE4 := Lib.hid hels4
        have y0 := HX4.out.cell 0
        have y1 := HX4.out.lt
        have t0 : w4.cell? ⟨b4, o4, none⟩ = some (.int .i64 e.at_) := hcell4 0 (by omega)
        have t1 : w4.cell? ⟨b4, o4 + 1, none⟩ = some (.bool e.s.v) := hcell4 1 (by omega)
        have t2 : w4.cell? ⟨b4, o4 + 2, none⟩ = some (.int .u64 (hi e.s.e.x)) := hcell4 2 (by omega)
        have t3 : w4.cell? ⟨b4, o4 + 3, none⟩ = some (.int .u64 (lo e.s.e.x)) := hcell4 3 (by omega)
        have t4 : w4.cell? ⟨b4, o4 + 4, none⟩ = some (.int .u64 (hi e.s.e.m)) := hcell4 4 (by omega)
        have t5 : w4.cell? ⟨b4, o4 + 5, none⟩ = some (.int .u64 (lo e.s.e.m)) := hcell4 5 (by omega)
        have t6 : w4.cell? ⟨b4, o4 + 6, none⟩ = some (.int .i64 e.s.e.len) := hcell4 6 (by omega)
        have t7 : w4.cell? ⟨b4, o4 + 7, none⟩ = some (.int .i64 e.s.e.act) := hcell4 7 (by omega)
        clear hR hown4 hels4 hcell4 HX3 y yl
        go_wp2_with fail
        refine (refapply_any _ (HV3.out.kept k4.out) (by omega) (HE4.out.kept (Kept.refl _)) (by simp)).mono ?_
        rintro e9 w9 hR
        obtain ⟨a9, c9, rfl, hlc9, hown9, hels9⟩ := RetEls.out2 Slot.cells_len hR
        have HV9 := Lib.hid hels9
        have HB9 := Lib.hid (HB3.out.kept (Kept.trans k4.out hown9.1))
        have HVO9 := Lib.hid (own_ne hown9 (HB3.out.kept k4.out))
        clear hR hown9 hels9
        go_wp2_with fail
        go_roundw
        case rel => exact ⟨i9 + 1, cnt, applyS L [e], by omega, by go_num, rfl, by omega, by omega, HT.out, by rw [HT2.out]; exact HB9.out, _, _, rfl, HV9.out, HVO9.out⟩
        case measure => simp [intOf]; omega
      have hcase : ¬ (e.at_ < 0 ∨ (n : Int) ≤ e.at_) := by omega
      cases hm : mayW e (n : Int)
      · have hm9 := Lib.hid hm
        have hmL : mayW e L.length = false := by rw [HLn.out]; exact hm
        have hdo := Lib.hid (fun (W : World) (h : BankAt w W g gr L cnt) => show Calls Try.prog 13 #[.pointer (some ⟨g, 0, none⟩), wrv e] W (fun en w2 => en = .returned (.int .i64 1) ∧ Chg W w2 g gr ∧ BankAt w w2 g gr L (cnt)) from
          (bdo_any h hc0 (by omega) e).mono fun _ _ ⟨h1, h2, h3⟩ => by
            rw [doE_bad (by rw [HLn.out]; exact hcase) hmL] at h1; unfold putW at h3; rw [hmL] at h3
            exact ⟨h1, h2, h3⟩)
        have HT2 := Lib.hid (show applyS L [e] = L by show putW L e = L; unfold putW; rw [hmL]; rfl)
        clear hm hmL hcase
        go_wp2_with fail
        rw [← HGX.out]
        refine (bcopy_any (HB.out.kept (Kept.alloc (Kept.refl _) _))).mono ?_
        rintro e9 w2 ⟨g', gr', rfl, hk2, hB2⟩
        have HK2 := Lib.hid hk2
        have HB2 := Lib.hid hB2
        have HX2 := Lib.hid ((Blk.new' wr 39 #[.int .i64 e.at_, .bool e.s.v, .int .u64 (hi e.s.e.x), .int .u64 (lo e.s.e.x), .int .u64 (hi e.s.e.m), .int .u64 (lo e.s.e.m), .int .i64 e.s.e.len, .int .i64 e.s.e.act] HGX.out).kept hk2)
        have HN := Lib.hid (show g' ≠ g ∧ g' ≠ gr ∧ gr' ≠ g ∧ gr' ≠ gr by
          have e1 := HB.out.blk.lt
          have e2 := (HB.out.own.2.lt gr rfl).2
          have e3 := hB2.low
          have e4 := hB2.lowr
          simp only [World.size_alloc] at e3 e4
          omega)
        have x0 := fun j => HX2.out.cell j
        have xl := HX2.out.lt
        clear hk2 hB2
        go_wp2_with fail
        refine (hdo.out _ (HB.out.kept ((Kept.alloc (Kept.refl _) _).trans HK2.out))).mono ?_
        rintro e9 w3 ⟨rfl, hcg, hb3⟩
        have HB3 := Lib.hid hb3
        have HV3 := Lib.hid ((HV.out.kept ((Kept.alloc (Kept.refl _) _).trans HK2.out)).chg hcg HVO.out.1 HVO.out.2)
        have HX3 := Lib.hid (Chg_blk HX2.out hcg HGN.out.1 HGN.out.2)
        have HBC := Lib.hid ((HB2.out.base (Kept.alloc HKW.out _)).chg hcg hb3.own.1 HN.out.1 HN.out.2.1 HN.out.2.2.1 HN.out.2.2.2)
        have y := fun j => HX3.out.cell j
        have yl := HX3.out.lt
        clear hcg hb3 HB HV HX2 hdo x0 xl
        go_wp2_with fail
        refine (law08writes_any _ (els_one e (Blk.new' w3 39 _ rfl)) (by simp)).mono ?_
        rintro e9 w4 hR
        obtain ⟨a4, c4, rfl, hlc4, hown4, hels4⟩ := RetEls.out2 Wr.cells_len hR
        obtain ⟨b4, o4, rfl, hb4, hcell4⟩ := els_head hels4
        have k4 := Lib.hid (Kept.trans (Kept.alloc (Kept.refl w3) _) hown4.1)
        have HX4 := Lib.hid (HX3.out.kept k4.out)
        have HE4 := Lib.hid hels4
        have y0 := HX4.out.cell 0
        have y1 := HX4.out.lt
        have t0 : w4.cell? ⟨b4, o4, none⟩ = some (.int .i64 e.at_) := hcell4 0 (by omega)
        have t1 : w4.cell? ⟨b4, o4 + 1, none⟩ = some (.bool e.s.v) := hcell4 1 (by omega)
        have t2 : w4.cell? ⟨b4, o4 + 2, none⟩ = some (.int .u64 (hi e.s.e.x)) := hcell4 2 (by omega)
        have t3 : w4.cell? ⟨b4, o4 + 3, none⟩ = some (.int .u64 (lo e.s.e.x)) := hcell4 3 (by omega)
        have t4 : w4.cell? ⟨b4, o4 + 4, none⟩ = some (.int .u64 (hi e.s.e.m)) := hcell4 4 (by omega)
        have t5 : w4.cell? ⟨b4, o4 + 5, none⟩ = some (.int .u64 (lo e.s.e.m)) := hcell4 5 (by omega)
        have t6 : w4.cell? ⟨b4, o4 + 6, none⟩ = some (.int .i64 e.s.e.len) := hcell4 6 (by omega)
        have t7 : w4.cell? ⟨b4, o4 + 7, none⟩ = some (.int .i64 e.s.e.act) := hcell4 7 (by omega)
        clear hR hown4 hels4 hcell4 HX3 y yl
        go_wp2_with fail
        refine (refmay_as hm9.out _).mono ?_
        rintro e w1 ⟨rfl, q5, rfl⟩
        go_wp2_with fail
        refine (refapply_any _ (HV3.out.kept (Kept.trans k4.out (below_ext w4 q5))) (by omega) (HE4.out.kept (below_ext w4 q5)) (by simp)).mono ?_
        rintro e9 w9 hR
        obtain ⟨a9, c9, rfl, hlc9, hown9, hels9⟩ := RetEls.out2 Slot.cells_len hR
        have HV9 := Lib.hid hels9
        have HB9 := Lib.hid (HB3.out.kept (Kept.trans (Kept.trans k4.out (below_ext w4 q5)) hown9.1))
        have HVO9 := Lib.hid (own_ne hown9 (HB3.out.kept (Kept.trans k4.out (below_ext w4 q5))))
        clear hR hown9 hels9
        go_wp2_with fail
        go_roundw
        case rel => exact ⟨i9 + 1, cnt, applyS L [e], by omega, by go_num, rfl, by omega, by omega, HT.out, by rw [HT2.out]; exact HB9.out, _, _, rfl, HV9.out, HVO9.out⟩
        case measure => simp [intOf]; omega
      · have hm9 := Lib.hid hm
        have hmL : mayW e L.length = true := by rw [HLn.out]; exact hm
        have hdo := Lib.hid (fun (W : World) (h : BankAt w W g gr L cnt) => show Calls Try.prog 13 #[.pointer (some ⟨g, 0, none⟩), wrv e] W (fun en w2 => en = .returned (.int .i64 0) ∧ Chg W w2 g gr ∧ BankAt w w2 g gr (putW L e) (cnt + 1)) from
          (bdo_any h hc0 (by omega) e).mono fun _ _ ⟨h1, h2, h3⟩ => by
            rw [doE_ok hmL] at h1; rw [hmL] at h3
            exact ⟨h1, h2, h3⟩)
        have HT2 := Lib.hid (show applyS L [e] = (putW L e) by rfl)
        clear hm hmL hcase
        go_wp2_with fail
        rw [← HGX.out]
        refine (bcopy_any (HB.out.kept (Kept.alloc (Kept.refl _) _))).mono ?_
        rintro e9 w2 ⟨g', gr', rfl, hk2, hB2⟩
        have HK2 := Lib.hid hk2
        have HB2 := Lib.hid hB2
        have HX2 := Lib.hid ((Blk.new' wr 39 #[.int .i64 e.at_, .bool e.s.v, .int .u64 (hi e.s.e.x), .int .u64 (lo e.s.e.x), .int .u64 (hi e.s.e.m), .int .u64 (lo e.s.e.m), .int .i64 e.s.e.len, .int .i64 e.s.e.act] HGX.out).kept hk2)
        have HN := Lib.hid (show g' ≠ g ∧ g' ≠ gr ∧ gr' ≠ g ∧ gr' ≠ gr by
          have e1 := HB.out.blk.lt
          have e2 := (HB.out.own.2.lt gr rfl).2
          have e3 := hB2.low
          have e4 := hB2.lowr
          simp only [World.size_alloc] at e3 e4
          omega)
        have x0 := fun j => HX2.out.cell j
        have xl := HX2.out.lt
        clear hk2 hB2
        go_wp2_with fail
        refine (hdo.out _ (HB.out.kept ((Kept.alloc (Kept.refl _) _).trans HK2.out))).mono ?_
        rintro e9 w3 ⟨rfl, hcg, hb3⟩
        have HB3 := Lib.hid hb3
        have HV3 := Lib.hid ((HV.out.kept ((Kept.alloc (Kept.refl _) _).trans HK2.out)).chg hcg HVO.out.1 HVO.out.2)
        have HX3 := Lib.hid (Chg_blk HX2.out hcg HGN.out.1 HGN.out.2)
        have HBC := Lib.hid ((HB2.out.base (Kept.alloc HKW.out _)).chg hcg hb3.own.1 HN.out.1 HN.out.2.1 HN.out.2.2.1 HN.out.2.2.2)
        have y := fun j => HX3.out.cell j
        have yl := HX3.out.lt
        clear hcg hb3 HB HV HX2 hdo x0 xl
        go_wp2_with fail
        refine (law08writes_any _ (els_one e (Blk.new' w3 39 _ rfl)) (by simp)).mono ?_
        rintro e9 w4 hR
        obtain ⟨a4, c4, rfl, hlc4, hown4, hels4⟩ := RetEls.out2 Wr.cells_len hR
        obtain ⟨b4, o4, rfl, hb4, hcell4⟩ := els_head hels4
        have k4 := Lib.hid (Kept.trans (Kept.alloc (Kept.refl w3) _) hown4.1)
        have HX4 := Lib.hid (HX3.out.kept k4.out)
        have HE4 := Lib.hid hels4
        have y0 := HX4.out.cell 0
        have y1 := HX4.out.lt
        have t0 : w4.cell? ⟨b4, o4, none⟩ = some (.int .i64 e.at_) := hcell4 0 (by omega)
        have t1 : w4.cell? ⟨b4, o4 + 1, none⟩ = some (.bool e.s.v) := hcell4 1 (by omega)
        have t2 : w4.cell? ⟨b4, o4 + 2, none⟩ = some (.int .u64 (hi e.s.e.x)) := hcell4 2 (by omega)
        have t3 : w4.cell? ⟨b4, o4 + 3, none⟩ = some (.int .u64 (lo e.s.e.x)) := hcell4 3 (by omega)
        have t4 : w4.cell? ⟨b4, o4 + 4, none⟩ = some (.int .u64 (hi e.s.e.m)) := hcell4 4 (by omega)
        have t5 : w4.cell? ⟨b4, o4 + 5, none⟩ = some (.int .u64 (lo e.s.e.m)) := hcell4 5 (by omega)
        have t6 : w4.cell? ⟨b4, o4 + 6, none⟩ = some (.int .i64 e.s.e.len) := hcell4 6 (by omega)
        have t7 : w4.cell? ⟨b4, o4 + 7, none⟩ = some (.int .i64 e.s.e.act) := hcell4 7 (by omega)
        clear hR hown4 hels4 hcell4 HX3 y yl
        go_wp2_with fail
        refine (refmay_as hm9.out _).mono ?_
        rintro e w1 ⟨rfl, q5, rfl⟩
        go_wp2_with fail
        refine (bwrites_any (HBC.out.kept (Kept.trans k4.out (below_ext w4 q5)))).mono ?_
        rintro e w1 ⟨rfl, q6, rfl⟩
        go_wp2_with fail
        refine (bslots_any (HBC.out.kept (Kept.trans k4.out (Kept.trans (below_ext w4 q5) (below_ext (ext w4 q5) q6))))).mono ?_
        rintro e w7 hR
        obtain ⟨a7, c7, rfl, hlc7, hown7, hels7⟩ := RetEls.out2 Slot.cells_len hR
        have HE7 := Lib.hid hels7
        have HK7 := Lib.hid hown7.1
        clear hown7 hels7 hR
        go_wp2_with fail
        refine (same_any _ HE7.out (HV3.out.kept (Kept.trans k4.out (Kept.trans (Kept.trans (below_ext w4 q5) (below_ext (ext w4 q5) q6)) HK7.out))) (by omega)).mono ?_
        rintro e w1 ⟨rfl, q8, rfl⟩
        go_wp2_with fail
        have HKA := Lib.hid (Kept.trans (Kept.trans (Kept.trans (below_ext w4 q5) (below_ext (ext w4 q5) q6)) HK7.out) (below_ext w7 q8))
        refine (refapply_any _ (HV3.out.kept (Kept.trans k4.out HKA.out)) (by omega) (HE4.out.kept HKA.out) (by simp)).mono ?_
        rintro e9 w9 hR
        obtain ⟨a9, c9, rfl, hlc9, hown9, hels9⟩ := RetEls.out2 Slot.cells_len hR
        have HV9 := Lib.hid hels9
        have HB9 := Lib.hid (HB3.out.kept (Kept.trans (Kept.trans k4.out HKA.out) hown9.1))
        have HVO9 := Lib.hid (own_ne hown9 (HB3.out.kept (Kept.trans k4.out HKA.out)))
        clear hR hown9 hels9
        go_wp2_with fail
        go_roundw
        case rel => exact ⟨i9 + 1, cnt + 1, applyS L [e], by omega, by go_num, rfl, by omega, by omega, HT.out, by rw [HT2.out]; exact HB9.out, _, _, rfl, HV9.out, HVO9.out⟩
        case measure => simp [intOf]; omega
      -- END
    · have hil : i9 = l.length := by omega
      subst hil
      have HK := Lib.hid hb.own.1
      clear hb hlt hv hvo hLe hLn
      go_wp2_with fail
      refine (bslots_any HB.out).mono ?_
      rintro e w1 hR
      obtain ⟨a1, c1, rfl, hlc1, hown1, hels1⟩ := RetEls.out2 Slot.cells_len hR
      have HE1 := Lib.hid hels1
      have HK1 := Lib.hid hown1.1
      clear hown1 hels1 hR
      go_wp2_with fail
      refine (same_any _ HE1.out (HV.out.kept HK1.out) hLm).mono ?_
      rintro e w1 ⟨rfl, q2, rfl⟩
      go_wp2_with fail
      refine (bwrites_any (HB.out.kept (HK1.out.trans (below_ext w1 q2)))).mono ?_
      rintro e w1 ⟨rfl, q3, rfl⟩
      go_wp2_with fail
      have hkf := Lib.hid (HK.out.trans HK1.out)
      refine (awake8_ok _).mono ?_
      rintro e w1 ⟨rfl, q4, rfl⟩
      go_wp2_with fail
      go_ret
      exact Ret.of (rfl) (by simp (maxDischargeDepth := 99) [hkf.out])
theorem bankWrites_walk (n : Int) (_ : -9223372036854775808 ≤ n) (_ : n ≤ 9223372036854775807) (l : List Wr) (v : Value) (w : World) (hl : Els w v 8 Wr.cells l) : Calls Try.prog 3 #[.int .i64 n, v] w (Ret (.bool true) w) := by
  by_cases hr : 1 ≤ n ∧ n ≤ 256
  · obtain ⟨m, rfl⟩ := Int.eq_ofNat_of_zero_le (show 0 ≤ n by omega)
    by_cases hn : l.length ≤ 40
    · exact bankWrites_go m (by omega) (by omega) w hl hn
    · obtain ⟨ad, c, rfl, hc, he⟩ := hl.form
      have g1 : (40 : Int) < (l.length : Int) := by omega
      have g2 : ¬ (m : Int) < 1 := by omega
      have g3 : ¬ (256 : Int) < (m : Int) := by omega
      have g4 := hr.1
      have g5 := hr.2
      clear hl he hn
      go_enter Try.func3, Try.ntmps3
      go_wp2_with (first | (go_at_call 10; refine (bnew_yes m _ (by omega) (by omega)).mono ?_; rintro e w1 ⟨g, gr, rfl, hk1, hB1⟩; have HK1 := Lib.hid hk1; clear hB1 hk1) | (go_at_call 11; first | ((refine (calls_in (awake8_ok _)).mono ?_); rintro e w1 ⟨rfl, q1, rfl⟩) | ((refine (awake8_ok _).mono ?_); rintro e w1 ⟨rfl, q1, rfl⟩)))
      go_ret
      exact Ret.of (rfl) (by simp (maxDischargeDepth := 99) [HK1.out])
  · obtain ⟨ad, c, rfl, hc, he⟩ := hl.form
    clear hl he
    by_cases h1 : n < 1
    · go_enter Try.func3, Try.ntmps3
      go_wp2_with (first | (go_at_call 10; first | ((refine (calls_in (bnew_no n _ hr)).mono ?_); rintro e w1 ⟨rfl, q1, rfl⟩) | ((refine (bnew_no n _ hr).mono ?_); rintro e w1 ⟨rfl, q1, rfl⟩)) | (go_at_call 11; first | ((refine (calls_in (awake8_ok _)).mono ?_); rintro e w1 ⟨rfl, q1, rfl⟩) | ((refine (awake8_ok _).mono ?_); rintro e w1 ⟨rfl, q1, rfl⟩)))
      go_ret
      exact Ret.of (rfl) (by simp (maxDischargeDepth := 99))
    · have h2 : 256 < n := by omega
      go_enter Try.func3, Try.ntmps3
      go_wp2_with (first | (go_at_call 10; first | ((refine (calls_in (bnew_no n _ hr)).mono ?_); rintro e w1 ⟨rfl, q1, rfl⟩) | ((refine (bnew_no n _ hr).mono ?_); rintro e w1 ⟨rfl, q1, rfl⟩)) | (go_at_call 11; first | ((refine (calls_in (awake8_ok _)).mono ?_); rintro e w1 ⟨rfl, q1, rfl⟩) | ((refine (awake8_ok _).mono ?_); rintro e w1 ⟨rfl, q1, rfl⟩)))
      go_ret
      exact Ret.of (rfl) (by simp (maxDischargeDepth := 99))
set_option maxRecDepth 100000 in
theorem bankWrites_lifted (os : Os) (started : os.Started) (H : Type) (enc : TypeId × Value → H) :
    ReturnsInHanded {} Try.checked os 3 .any (Rows.bankWritesSpec.pre6 enc Try.prog Try.f3 Rows.bankWritesRow.domain false) (Rows.bankWritesSpec.post enc Try.prog Try.f3 false true false false) := by
  refine returnsInHanded_of_change (C := Try.checked) own started (by kernel_rfl) Try.func3
    (ChangeSpec.witness6 (enc := enc) (C := Try.checked) false ⟨#[], #[.int .i64 0, .slice none 0 0], []⟩ 8 (by kernel_rfl) (by kernel_rfl) (by kernel_rfl) (by kernel_rfl)) ?_
  intro W base args ds gs before hval0 hW hcnd _
  have hval : ∀ (j : Nat) t v, Try.f3.params[j]? = some t → args[j]? = some v → Value.okWide Try.prog W .any base t v := hval0
  have hW' := hW
  obtain ⟨p, q, hA0, hV, rfl, hfz, hnd⟩ := hW
  obtain ⟨rfl, rfl⟩ := trodVars_none hV
  rw [List.append_nil] at hW'
  have hA : DataW.TrodAll enc Try.prog W 0 (fun _ => true) true Try.f3.params.toList args.toList ds p := hA0
  have hA1 := hA
  rw [Try.params3] at hA1 hval
  obtain ⟨v0, vs0, d0, ds0, p0, q0, hargs, rfl, rfl, h0, r0⟩ := trodAll_cons hA1
  obtain ⟨v1, vs1, d1, ds1, p1, q1, rfl, rfl, rfl, h1, r1⟩ := trodAll_cons r0
  obtain ⟨rfl, rfl, rfl⟩ := trodAll_nil r1
  obtain rfl : args = #[v0, v1] := by cases args; simp_all
  obtain ⟨X0, rfl, rfl, rfl, w0⟩ := open_int Try.underlying3 (hval 0 _ v0 rfl rfl) h0
  obtain ⟨L1, E1, _⟩ := open_wrs (hval 1 _ v1 rfl rfl) h1
  refine (bankWrites_walk X0 (wf_i64' w0).1 (wf_i64' w0).2 L1 v1 W E1).mono fun e W' ⟨he, hg⟩ => ?_
  subst he
  exact ⟨_, rfl, post_true laidOut (by rw [Try.params3]; intro t ht; simp at ht; first | (subst ht; exact ⟨by kernel_rfl, of_decide_eq_true (by kernel_rfl)⟩) | (rcases ht with rfl | rfl <;> exact ⟨by kernel_rfl, of_decide_eq_true (by kernel_rfl)⟩) | (rcases ht with rfl | rfl | rfl <;> exact ⟨by kernel_rfl, of_decide_eq_true (by kernel_rfl)⟩) | (rcases ht with rfl | rfl | rfl | rfl <;> exact ⟨by kernel_rfl, of_decide_eq_true (by kernel_rfl)⟩)) rfl hW' hA rfl (trodAll_cons_mk (shut_bool Try.underlying4 _) trodAll_mk0) (Later.kept hg)⟩

theorem bankWrites_holds : Rows.BankWritesSaid :=
  OpenClaim.holds_of_wide 3 Try.f3 rfl rfl rfl rfl rfl rfl rfl ⟨rfl, rfl, rfl, rfl, rfl⟩ rfl rfl rfl rfl rfl (by kernel_rfl) Try.func3 (by kernel_rfl)
    (of_decide_eq_true (by kernel_rfl)) (by unfold Func.isWrapper; first | (rw [if_pos (by decide +kernel)]; kernel_rfl) | (rw [if_neg (by decide +kernel)]; exact ⟨rfl, rfl⟩))
    (fun os started H enc _ => bankWrites_lifted os started H enc)
#print axioms bankWrites_holds
end Go.Proofs.Ytpocbcohoefojaa
